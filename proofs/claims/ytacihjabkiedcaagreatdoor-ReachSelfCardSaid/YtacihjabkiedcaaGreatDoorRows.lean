/-
  NARROWER THAN 'FOR EVERY INPUT', by the rows' own cells (each row's printed sentence says how): ReachTells: laid · ReachLost: laid · ReachSelf: laid · ReachMakes: laid · NullTells: laid · NullLeast: laid · NullMore: laid · NullLefts: laid · NullJoin: laid · ReachWithin: laid.
  DERIVED. THE GIVEN ROWS OF THIS SEAT. 10 by the template 'for every input the law returns true; each argument reads behind the call as it read before'; 0 by the template 'total and deterministic' (their statements: YtacihjabkiedcaaGreatDoorTotals.lean).
  GIVEN WITH THE SEED: the statements are not yours to turn. If you find one false, say at which input.
  Laid BY PROGRAM, IN A SANDBOX (cutbox-rows.mjs): the forced cells as the released guide's own fill.sh prints them over the translation b8f4b71ee7a4c815… (all of the seat's roots in one cut). By AI agents, Wed Nov 11 2026. No macro, syntax, notation, axiom, sorry.
-/
import Derived.Test.YtacihjabkiedcaaGreatDoorChecked
import GoSem.PinnedTables
import GoSem.Claim
import GoSem.ClaimJoined
import GoSem.ClaimMapViews
import Derived.JoinedTies
import Derived.KernelRfl
namespace Go.Proofs.YtacihjabkiedcaaGreatDoor
/- THE CELL 'sum', in the pinned program and in every row, IS THE sha256 OF THE DUMP (.gsa) THAT YtacihjabkiedcaaGreatDoorProg.lean LOADS. Nothing in Lean hashes anything: it is a label: what it is worth is what the hold of that sum in a sandbox is worth. -/
noncomputable def Tryz.pinned : Pinned := { name := "ytacihjabkiedcaagreatdoor", sum := "b8f4b71ee7a4c815b155813de91defe7b78ecfd7d334528820de856acd933612", checked := Tryz.checked }
namespace Rows
def none {H : Type} : Left H := { results := [], args := [] }

/- WHAT THE LISTED PACKAGE-LEVEL VARIABLES READ AS WHEN THE CALL BEGINS. Each datum BY PROGRAM (the guide's laid-datum.mjs) off the statement by which the dump's own 'gosem.cut.vars' lays the variable. In a bare row this is a premise. The card (YtacihjabkiedcaaGreatDoorCards.lean) ties it to the program's text. -/
def laid_unicode_utf8_acceptRanges {H : Type} : DataW H := .agg [.agg [.lit (.int .u8 128), .lit (.int .u8 191)], .agg [.lit (.int .u8 160), .lit (.int .u8 191)], .agg [.lit (.int .u8 128), .lit (.int .u8 159)], .agg [.lit (.int .u8 144), .lit (.int .u8 191)], .agg [.lit (.int .u8 128), .lit (.int .u8 143)], .agg [.lit (.int .u8 0), .lit (.int .u8 0)], .agg [.lit (.int .u8 0), .lit (.int .u8 0)], .agg [.lit (.int .u8 0), .lit (.int .u8 0)], .agg [.lit (.int .u8 0), .lit (.int .u8 0)], .agg [.lit (.int .u8 0), .lit (.int .u8 0)], .agg [.lit (.int .u8 0), .lit (.int .u8 0)], .agg [.lit (.int .u8 0), .lit (.int .u8 0)], .agg [.lit (.int .u8 0), .lit (.int .u8 0)], .agg [.lit (.int .u8 0), .lit (.int .u8 0)], .agg [.lit (.int .u8 0), .lit (.int .u8 0)], .agg [.lit (.int .u8 0), .lit (.int .u8 0)]]
/-- One of Go's own tables, pinned by name: the form's constant. -/
def laid_unicode_utf8_first : DataW Unit := Go.Pinned.utf8First

/-- 'exegetelaw11.ReachTells': WHATEVER THE INPUT: true; the input reads as it did. -/
def reachTellsSpec : ChangeSpec := { name := "reachTells", fn := fun _ => fun
  | [d1, d2] => { results := [.lit (.bool true)], args := [d1, d2] }
  | _ => none }
def reachTellsRow : OpenClaim := { program := "ytacihjabkiedcaagreatdoor", sum := "b8f4b71ee7a4c815b155813de91defe7b78ecfd7d334528820de856acd933612", func := "exegete/exegetelaw11.ReachTells", spec := "reachTells", inPlace := ["internal/bytealg.IndexByteString", "internal/bytealg.IndexString"], unfollowed := true, recurses := true, named := ["unicode/utf8.first", "unicode/utf8.acceptRanges", "internal/bytealg.MaxLen"], apart := false, laid := [("unicode/utf8.acceptRanges", laid_unicode_utf8_acceptRanges), ("unicode/utf8.first", laid_unicode_utf8_first)] }
def ReachTellsSaid : Prop := reachTellsRow.holds Tryz.pinned (OpenSpec.ofChange reachTellsSpec)

/-- ITS FALSE NEIGHBOUR: 'it returns false'. Refute it at one input. -/
def reachTellsWrong : ChangeSpec := { name := "reachTells", fn := fun _ => fun
  | [d1, d2] => { results := [.lit (.bool false)], args := [d1, d2] }
  | _ => none }
def ReachTellsWrongFalsely : Prop := reachTellsRow.holds Tryz.pinned (OpenSpec.ofChange reachTellsWrong)

/-- 'exegetelaw11.ReachLost': WHATEVER THE INPUT: true; the input reads as it did. -/
def reachLostSpec : ChangeSpec := { name := "reachLost", fn := fun _ => fun
  | [d] => { results := [.lit (.bool true)], args := [d] }
  | _ => none }
def reachLostRow : OpenClaim := { program := "ytacihjabkiedcaagreatdoor", sum := "b8f4b71ee7a4c815b155813de91defe7b78ecfd7d334528820de856acd933612", func := "exegete/exegetelaw11.ReachLost", spec := "reachLost", inPlace := ["internal/bytealg.IndexByteString", "internal/bytealg.IndexString"], unfollowed := true, recurses := true, named := ["unicode/utf8.first", "unicode/utf8.acceptRanges", "internal/bytealg.MaxLen"], apart := false, laid := [("unicode/utf8.acceptRanges", laid_unicode_utf8_acceptRanges), ("unicode/utf8.first", laid_unicode_utf8_first)] }
def ReachLostSaid : Prop := reachLostRow.holds Tryz.pinned (OpenSpec.ofChange reachLostSpec)

/-- ITS FALSE NEIGHBOUR: 'it returns false'. Refute it at one input. -/
def reachLostWrong : ChangeSpec := { name := "reachLost", fn := fun _ => fun
  | [d] => { results := [.lit (.bool false)], args := [d] }
  | _ => none }
def ReachLostWrongFalsely : Prop := reachLostRow.holds Tryz.pinned (OpenSpec.ofChange reachLostWrong)

/-- 'exegetelaw11.ReachSelf': WHATEVER THE INPUT: true; the input reads as it did. -/
def reachSelfSpec : ChangeSpec := { name := "reachSelf", fn := fun _ => fun
  | [d1, d2] => { results := [.lit (.bool true)], args := [d1, d2] }
  | _ => none }
def reachSelfRow : OpenClaim := { program := "ytacihjabkiedcaagreatdoor", sum := "b8f4b71ee7a4c815b155813de91defe7b78ecfd7d334528820de856acd933612", func := "exegete/exegetelaw11.ReachSelf", spec := "reachSelf", inPlace := ["internal/bytealg.IndexByteString", "internal/bytealg.IndexString"], unfollowed := true, recurses := true, named := ["unicode/utf8.first", "unicode/utf8.acceptRanges", "internal/bytealg.MaxLen"], apart := false, laid := [("unicode/utf8.acceptRanges", laid_unicode_utf8_acceptRanges), ("unicode/utf8.first", laid_unicode_utf8_first)] }
def ReachSelfSaid : Prop := reachSelfRow.holds Tryz.pinned (OpenSpec.ofChange reachSelfSpec)

/-- ITS FALSE NEIGHBOUR: 'it returns false'. Refute it at one input. -/
def reachSelfWrong : ChangeSpec := { name := "reachSelf", fn := fun _ => fun
  | [d1, d2] => { results := [.lit (.bool false)], args := [d1, d2] }
  | _ => none }
def ReachSelfWrongFalsely : Prop := reachSelfRow.holds Tryz.pinned (OpenSpec.ofChange reachSelfWrong)

/-- 'exegetelaw11.ReachMakes': WHATEVER THE INPUT: true; the input reads as it did. -/
def reachMakesSpec : ChangeSpec := { name := "reachMakes", fn := fun _ => fun
  | [d] => { results := [.lit (.bool true)], args := [d] }
  | _ => none }
def reachMakesRow : OpenClaim := { program := "ytacihjabkiedcaagreatdoor", sum := "b8f4b71ee7a4c815b155813de91defe7b78ecfd7d334528820de856acd933612", func := "exegete/exegetelaw11.ReachMakes", spec := "reachMakes", inPlace := ["internal/bytealg.IndexByteString", "internal/bytealg.IndexString"], unfollowed := true, recurses := true, named := ["unicode/utf8.first", "unicode/utf8.acceptRanges", "internal/bytealg.MaxLen"], apart := false, laid := [("unicode/utf8.acceptRanges", laid_unicode_utf8_acceptRanges), ("unicode/utf8.first", laid_unicode_utf8_first)] }
def ReachMakesSaid : Prop := reachMakesRow.holds Tryz.pinned (OpenSpec.ofChange reachMakesSpec)

/-- ITS FALSE NEIGHBOUR: 'it returns false'. Refute it at one input. -/
def reachMakesWrong : ChangeSpec := { name := "reachMakes", fn := fun _ => fun
  | [d] => { results := [.lit (.bool false)], args := [d] }
  | _ => none }
def ReachMakesWrongFalsely : Prop := reachMakesRow.holds Tryz.pinned (OpenSpec.ofChange reachMakesWrong)

/-- 'exegetelaw09.NullTells': WHATEVER THE INPUT: true; the input reads as it did. -/
def nullTellsSpec : ChangeSpec := { name := "nullTells", fn := fun _ => fun
  | [d1, d2, d3] => { results := [.lit (.bool true)], args := [d1, d2, d3] }
  | _ => none }
def nullTellsRow : OpenClaim := { program := "ytacihjabkiedcaagreatdoor", sum := "b8f4b71ee7a4c815b155813de91defe7b78ecfd7d334528820de856acd933612", func := "exegete/exegetelaw09.NullTells", spec := "nullTells", inPlace := ["internal/bytealg.IndexByteString", "internal/bytealg.IndexString"], unfollowed := true, recurses := true, named := ["unicode/utf8.first", "unicode/utf8.acceptRanges", "internal/bytealg.MaxLen"], apart := false, laid := [("unicode/utf8.acceptRanges", laid_unicode_utf8_acceptRanges), ("unicode/utf8.first", laid_unicode_utf8_first)] }
def NullTellsSaid : Prop := nullTellsRow.holds Tryz.pinned (OpenSpec.ofChange nullTellsSpec)

/-- ITS FALSE NEIGHBOUR: 'it returns false'. Refute it at one input. -/
def nullTellsWrong : ChangeSpec := { name := "nullTells", fn := fun _ => fun
  | [d1, d2, d3] => { results := [.lit (.bool false)], args := [d1, d2, d3] }
  | _ => none }
def NullTellsWrongFalsely : Prop := nullTellsRow.holds Tryz.pinned (OpenSpec.ofChange nullTellsWrong)

/-- 'exegetelaw09.NullLeast': WHATEVER THE INPUT: true; the input reads as it did. -/
def nullLeastSpec : ChangeSpec := { name := "nullLeast", fn := fun _ => fun
  | [d1, d2] => { results := [.lit (.bool true)], args := [d1, d2] }
  | _ => none }
def nullLeastRow : OpenClaim := { program := "ytacihjabkiedcaagreatdoor", sum := "b8f4b71ee7a4c815b155813de91defe7b78ecfd7d334528820de856acd933612", func := "exegete/exegetelaw09.NullLeast", spec := "nullLeast", inPlace := ["internal/bytealg.IndexByteString", "internal/bytealg.IndexString"], unfollowed := true, recurses := true, named := ["unicode/utf8.first", "unicode/utf8.acceptRanges", "internal/bytealg.MaxLen"], apart := false, laid := [("unicode/utf8.acceptRanges", laid_unicode_utf8_acceptRanges), ("unicode/utf8.first", laid_unicode_utf8_first)] }
def NullLeastSaid : Prop := nullLeastRow.holds Tryz.pinned (OpenSpec.ofChange nullLeastSpec)

/-- ITS FALSE NEIGHBOUR: 'it returns false'. Refute it at one input. -/
def nullLeastWrong : ChangeSpec := { name := "nullLeast", fn := fun _ => fun
  | [d1, d2] => { results := [.lit (.bool false)], args := [d1, d2] }
  | _ => none }
def NullLeastWrongFalsely : Prop := nullLeastRow.holds Tryz.pinned (OpenSpec.ofChange nullLeastWrong)

/-- 'exegetelaw09.NullMore': WHATEVER THE INPUT: true; the input reads as it did. -/
def nullMoreSpec : ChangeSpec := { name := "nullMore", fn := fun _ => fun
  | [d1, d2, d3] => { results := [.lit (.bool true)], args := [d1, d2, d3] }
  | _ => none }
def nullMoreRow : OpenClaim := { program := "ytacihjabkiedcaagreatdoor", sum := "b8f4b71ee7a4c815b155813de91defe7b78ecfd7d334528820de856acd933612", func := "exegete/exegetelaw09.NullMore", spec := "nullMore", inPlace := ["internal/bytealg.IndexByteString", "internal/bytealg.IndexString"], unfollowed := true, recurses := true, named := ["unicode/utf8.first", "unicode/utf8.acceptRanges", "internal/bytealg.MaxLen"], apart := false, laid := [("unicode/utf8.acceptRanges", laid_unicode_utf8_acceptRanges), ("unicode/utf8.first", laid_unicode_utf8_first)] }
def NullMoreSaid : Prop := nullMoreRow.holds Tryz.pinned (OpenSpec.ofChange nullMoreSpec)

/-- ITS FALSE NEIGHBOUR: 'it returns false'. Refute it at one input. -/
def nullMoreWrong : ChangeSpec := { name := "nullMore", fn := fun _ => fun
  | [d1, d2, d3] => { results := [.lit (.bool false)], args := [d1, d2, d3] }
  | _ => none }
def NullMoreWrongFalsely : Prop := nullMoreRow.holds Tryz.pinned (OpenSpec.ofChange nullMoreWrong)

/-- 'exegetelaw09.NullLefts': WHATEVER THE INPUT: true; the input reads as it did. -/
def nullLeftsSpec : ChangeSpec := { name := "nullLefts", fn := fun _ => fun
  | [d1, d2] => { results := [.lit (.bool true)], args := [d1, d2] }
  | _ => none }
def nullLeftsRow : OpenClaim := { program := "ytacihjabkiedcaagreatdoor", sum := "b8f4b71ee7a4c815b155813de91defe7b78ecfd7d334528820de856acd933612", func := "exegete/exegetelaw09.NullLefts", spec := "nullLefts", inPlace := ["internal/bytealg.IndexByteString", "internal/bytealg.IndexString"], unfollowed := true, recurses := true, named := ["unicode/utf8.first", "unicode/utf8.acceptRanges", "internal/bytealg.MaxLen"], apart := false, laid := [("unicode/utf8.acceptRanges", laid_unicode_utf8_acceptRanges), ("unicode/utf8.first", laid_unicode_utf8_first)] }
def NullLeftsSaid : Prop := nullLeftsRow.holds Tryz.pinned (OpenSpec.ofChange nullLeftsSpec)

/-- ITS FALSE NEIGHBOUR: 'it returns false'. Refute it at one input. -/
def nullLeftsWrong : ChangeSpec := { name := "nullLefts", fn := fun _ => fun
  | [d1, d2] => { results := [.lit (.bool false)], args := [d1, d2] }
  | _ => none }
def NullLeftsWrongFalsely : Prop := nullLeftsRow.holds Tryz.pinned (OpenSpec.ofChange nullLeftsWrong)

/-- 'exegetelaw09.NullJoin': WHATEVER THE INPUT: true; the input reads as it did. -/
def nullJoinSpec : ChangeSpec := { name := "nullJoin", fn := fun _ => fun
  | [d1, d2, d3] => { results := [.lit (.bool true)], args := [d1, d2, d3] }
  | _ => none }
def nullJoinRow : OpenClaim := { program := "ytacihjabkiedcaagreatdoor", sum := "b8f4b71ee7a4c815b155813de91defe7b78ecfd7d334528820de856acd933612", func := "exegete/exegetelaw09.NullJoin", spec := "nullJoin", inPlace := ["internal/bytealg.IndexByteString", "internal/bytealg.IndexString"], unfollowed := true, recurses := true, named := ["unicode/utf8.first", "unicode/utf8.acceptRanges", "internal/bytealg.MaxLen"], apart := false, laid := [("unicode/utf8.acceptRanges", laid_unicode_utf8_acceptRanges), ("unicode/utf8.first", laid_unicode_utf8_first)] }
def NullJoinSaid : Prop := nullJoinRow.holds Tryz.pinned (OpenSpec.ofChange nullJoinSpec)

/-- ITS FALSE NEIGHBOUR: 'it returns false'. Refute it at one input. -/
def nullJoinWrong : ChangeSpec := { name := "nullJoin", fn := fun _ => fun
  | [d1, d2, d3] => { results := [.lit (.bool false)], args := [d1, d2, d3] }
  | _ => none }
def NullJoinWrongFalsely : Prop := nullJoinRow.holds Tryz.pinned (OpenSpec.ofChange nullJoinWrong)

/-- 'exegetelaw11.ReachWithin': WHATEVER THE INPUT: true; the input reads as it did. -/
def reachWithinSpec : ChangeSpec := { name := "reachWithin", fn := fun _ => fun
  | [d1, d2, d3] => { results := [.lit (.bool true)], args := [d1, d2, d3] }
  | _ => none }
def reachWithinRow : OpenClaim := { program := "ytacihjabkiedcaagreatdoor", sum := "b8f4b71ee7a4c815b155813de91defe7b78ecfd7d334528820de856acd933612", func := "exegete/exegetelaw11.ReachWithin", spec := "reachWithin", inPlace := ["internal/bytealg.IndexByteString", "internal/bytealg.IndexString"], unfollowed := true, recurses := true, named := ["unicode/utf8.first", "unicode/utf8.acceptRanges", "internal/bytealg.MaxLen"], apart := false, laid := [("unicode/utf8.acceptRanges", laid_unicode_utf8_acceptRanges), ("unicode/utf8.first", laid_unicode_utf8_first)] }
def ReachWithinSaid : Prop := reachWithinRow.holds Tryz.pinned (OpenSpec.ofChange reachWithinSpec)

/-- ITS FALSE NEIGHBOUR: 'it returns false'. Refute it at one input. -/
def reachWithinWrong : ChangeSpec := { name := "reachWithin", fn := fun _ => fun
  | [d1, d2, d3] => { results := [.lit (.bool false)], args := [d1, d2, d3] }
  | _ => none }
def ReachWithinWrongFalsely : Prop := reachWithinRow.holds Tryz.pinned (OpenSpec.ofChange reachWithinWrong)

/- THE SECOND FORM. 'bulk': how many values and letters a reading holds, each counted each time it is reached (what is shared counts as often as it is met; a slice's spare places count too). A statement '..UptoSaid' is the law's where the arguments, and the package variables that the reading takes, are together of bulk at most 1048576: NARROWER than '..Said'. Prove '..Said' where nothing that the law and all that it calls make is longer than what came in: it says more and counts as full. Else prove '..UptoSaid'. A law counts once. -/
mutual
def uptoBulk {H : Type} : DataW H → Nat
  | .lit (.string bytes) => bytes.length + 1
  | .lit _ => 1
  | .nil => 1
  | .ptr d => uptoBulk d + 1
  | .slice elems spare => uptoBulkAll elems + uptoBulkAll spare + 1
  | .agg parts => uptoBulkAll parts + 1
  | .iface _ d => uptoBulk d + 1
  | .map entries => uptoBulkEntries entries + 1
  | .held _ => 1
def uptoBulkAll {H : Type} : List (DataW H) → Nat
  | [] => 0
  | d :: r => uptoBulk d + uptoBulkAll r
def uptoBulkEntries {H : Type} : List (Lit × DataW H) → Nat
  | [] => 0
  | x :: r => uptoBulkEntry x + uptoBulkEntries r
def uptoBulkEntry {H : Type} : Lit × DataW H → Nat
  | (.string bytes, d) => bytes.length + uptoBulk d + 1
  | (_, d) => uptoBulk d + 1
 end
def uptoSmall : (H : Type) → List (DataW H) → Bool := fun _ ds => decide (uptoBulkAll ds ≤ 1048576)
def OpenSpec.upto (s : _root_.Go.ChangeSpec) : _root_.Go.OpenSpec := { _root_.Go.OpenSpec.ofChange s with cond := some uptoSmall }

/-- 'exegetelaw11.ReachTells', WHERE WHAT IT READS IS OF BULK AT MOST 1048576: true; the input reads as it did. -/
def reachTellsUptoRow : OpenClaim := { program := "ytacihjabkiedcaagreatdoor", sum := "b8f4b71ee7a4c815b155813de91defe7b78ecfd7d334528820de856acd933612", func := "exegete/exegetelaw11.ReachTells", spec := "reachTells", inPlace := ["internal/bytealg.IndexByteString", "internal/bytealg.IndexString"], unfollowed := true, recurses := true, named := ["unicode/utf8.first", "unicode/utf8.acceptRanges", "internal/bytealg.MaxLen"], apart := false, laid := [("unicode/utf8.acceptRanges", laid_unicode_utf8_acceptRanges), ("unicode/utf8.first", laid_unicode_utf8_first)], narrowed := true }
def ReachTellsUptoSaid : Prop := reachTellsUptoRow.holds Tryz.pinned (OpenSpec.upto reachTellsSpec)

/-- 'exegetelaw11.ReachLost', WHERE WHAT IT READS IS OF BULK AT MOST 1048576: true; the input reads as it did. -/
def reachLostUptoRow : OpenClaim := { program := "ytacihjabkiedcaagreatdoor", sum := "b8f4b71ee7a4c815b155813de91defe7b78ecfd7d334528820de856acd933612", func := "exegete/exegetelaw11.ReachLost", spec := "reachLost", inPlace := ["internal/bytealg.IndexByteString", "internal/bytealg.IndexString"], unfollowed := true, recurses := true, named := ["unicode/utf8.first", "unicode/utf8.acceptRanges", "internal/bytealg.MaxLen"], apart := false, laid := [("unicode/utf8.acceptRanges", laid_unicode_utf8_acceptRanges), ("unicode/utf8.first", laid_unicode_utf8_first)], narrowed := true }
def ReachLostUptoSaid : Prop := reachLostUptoRow.holds Tryz.pinned (OpenSpec.upto reachLostSpec)

/-- 'exegetelaw11.ReachSelf', WHERE WHAT IT READS IS OF BULK AT MOST 1048576: true; the input reads as it did. -/
def reachSelfUptoRow : OpenClaim := { program := "ytacihjabkiedcaagreatdoor", sum := "b8f4b71ee7a4c815b155813de91defe7b78ecfd7d334528820de856acd933612", func := "exegete/exegetelaw11.ReachSelf", spec := "reachSelf", inPlace := ["internal/bytealg.IndexByteString", "internal/bytealg.IndexString"], unfollowed := true, recurses := true, named := ["unicode/utf8.first", "unicode/utf8.acceptRanges", "internal/bytealg.MaxLen"], apart := false, laid := [("unicode/utf8.acceptRanges", laid_unicode_utf8_acceptRanges), ("unicode/utf8.first", laid_unicode_utf8_first)], narrowed := true }
def ReachSelfUptoSaid : Prop := reachSelfUptoRow.holds Tryz.pinned (OpenSpec.upto reachSelfSpec)

/-- 'exegetelaw11.ReachMakes', WHERE WHAT IT READS IS OF BULK AT MOST 1048576: true; the input reads as it did. -/
def reachMakesUptoRow : OpenClaim := { program := "ytacihjabkiedcaagreatdoor", sum := "b8f4b71ee7a4c815b155813de91defe7b78ecfd7d334528820de856acd933612", func := "exegete/exegetelaw11.ReachMakes", spec := "reachMakes", inPlace := ["internal/bytealg.IndexByteString", "internal/bytealg.IndexString"], unfollowed := true, recurses := true, named := ["unicode/utf8.first", "unicode/utf8.acceptRanges", "internal/bytealg.MaxLen"], apart := false, laid := [("unicode/utf8.acceptRanges", laid_unicode_utf8_acceptRanges), ("unicode/utf8.first", laid_unicode_utf8_first)], narrowed := true }
def ReachMakesUptoSaid : Prop := reachMakesUptoRow.holds Tryz.pinned (OpenSpec.upto reachMakesSpec)

/-- 'exegetelaw09.NullTells', WHERE WHAT IT READS IS OF BULK AT MOST 1048576: true; the input reads as it did. -/
def nullTellsUptoRow : OpenClaim := { program := "ytacihjabkiedcaagreatdoor", sum := "b8f4b71ee7a4c815b155813de91defe7b78ecfd7d334528820de856acd933612", func := "exegete/exegetelaw09.NullTells", spec := "nullTells", inPlace := ["internal/bytealg.IndexByteString", "internal/bytealg.IndexString"], unfollowed := true, recurses := true, named := ["unicode/utf8.first", "unicode/utf8.acceptRanges", "internal/bytealg.MaxLen"], apart := false, laid := [("unicode/utf8.acceptRanges", laid_unicode_utf8_acceptRanges), ("unicode/utf8.first", laid_unicode_utf8_first)], narrowed := true }
def NullTellsUptoSaid : Prop := nullTellsUptoRow.holds Tryz.pinned (OpenSpec.upto nullTellsSpec)

/-- 'exegetelaw09.NullLeast', WHERE WHAT IT READS IS OF BULK AT MOST 1048576: true; the input reads as it did. -/
def nullLeastUptoRow : OpenClaim := { program := "ytacihjabkiedcaagreatdoor", sum := "b8f4b71ee7a4c815b155813de91defe7b78ecfd7d334528820de856acd933612", func := "exegete/exegetelaw09.NullLeast", spec := "nullLeast", inPlace := ["internal/bytealg.IndexByteString", "internal/bytealg.IndexString"], unfollowed := true, recurses := true, named := ["unicode/utf8.first", "unicode/utf8.acceptRanges", "internal/bytealg.MaxLen"], apart := false, laid := [("unicode/utf8.acceptRanges", laid_unicode_utf8_acceptRanges), ("unicode/utf8.first", laid_unicode_utf8_first)], narrowed := true }
def NullLeastUptoSaid : Prop := nullLeastUptoRow.holds Tryz.pinned (OpenSpec.upto nullLeastSpec)

/-- 'exegetelaw09.NullMore', WHERE WHAT IT READS IS OF BULK AT MOST 1048576: true; the input reads as it did. -/
def nullMoreUptoRow : OpenClaim := { program := "ytacihjabkiedcaagreatdoor", sum := "b8f4b71ee7a4c815b155813de91defe7b78ecfd7d334528820de856acd933612", func := "exegete/exegetelaw09.NullMore", spec := "nullMore", inPlace := ["internal/bytealg.IndexByteString", "internal/bytealg.IndexString"], unfollowed := true, recurses := true, named := ["unicode/utf8.first", "unicode/utf8.acceptRanges", "internal/bytealg.MaxLen"], apart := false, laid := [("unicode/utf8.acceptRanges", laid_unicode_utf8_acceptRanges), ("unicode/utf8.first", laid_unicode_utf8_first)], narrowed := true }
def NullMoreUptoSaid : Prop := nullMoreUptoRow.holds Tryz.pinned (OpenSpec.upto nullMoreSpec)

/-- 'exegetelaw09.NullLefts', WHERE WHAT IT READS IS OF BULK AT MOST 1048576: true; the input reads as it did. -/
def nullLeftsUptoRow : OpenClaim := { program := "ytacihjabkiedcaagreatdoor", sum := "b8f4b71ee7a4c815b155813de91defe7b78ecfd7d334528820de856acd933612", func := "exegete/exegetelaw09.NullLefts", spec := "nullLefts", inPlace := ["internal/bytealg.IndexByteString", "internal/bytealg.IndexString"], unfollowed := true, recurses := true, named := ["unicode/utf8.first", "unicode/utf8.acceptRanges", "internal/bytealg.MaxLen"], apart := false, laid := [("unicode/utf8.acceptRanges", laid_unicode_utf8_acceptRanges), ("unicode/utf8.first", laid_unicode_utf8_first)], narrowed := true }
def NullLeftsUptoSaid : Prop := nullLeftsUptoRow.holds Tryz.pinned (OpenSpec.upto nullLeftsSpec)

/-- 'exegetelaw09.NullJoin', WHERE WHAT IT READS IS OF BULK AT MOST 1048576: true; the input reads as it did. -/
def nullJoinUptoRow : OpenClaim := { program := "ytacihjabkiedcaagreatdoor", sum := "b8f4b71ee7a4c815b155813de91defe7b78ecfd7d334528820de856acd933612", func := "exegete/exegetelaw09.NullJoin", spec := "nullJoin", inPlace := ["internal/bytealg.IndexByteString", "internal/bytealg.IndexString"], unfollowed := true, recurses := true, named := ["unicode/utf8.first", "unicode/utf8.acceptRanges", "internal/bytealg.MaxLen"], apart := false, laid := [("unicode/utf8.acceptRanges", laid_unicode_utf8_acceptRanges), ("unicode/utf8.first", laid_unicode_utf8_first)], narrowed := true }
def NullJoinUptoSaid : Prop := nullJoinUptoRow.holds Tryz.pinned (OpenSpec.upto nullJoinSpec)

/-- 'exegetelaw11.ReachWithin', WHERE WHAT IT READS IS OF BULK AT MOST 1048576: true; the input reads as it did. -/
def reachWithinUptoRow : OpenClaim := { program := "ytacihjabkiedcaagreatdoor", sum := "b8f4b71ee7a4c815b155813de91defe7b78ecfd7d334528820de856acd933612", func := "exegete/exegetelaw11.ReachWithin", spec := "reachWithin", inPlace := ["internal/bytealg.IndexByteString", "internal/bytealg.IndexString"], unfollowed := true, recurses := true, named := ["unicode/utf8.first", "unicode/utf8.acceptRanges", "internal/bytealg.MaxLen"], apart := false, laid := [("unicode/utf8.acceptRanges", laid_unicode_utf8_acceptRanges), ("unicode/utf8.first", laid_unicode_utf8_first)], narrowed := true }
def ReachWithinUptoSaid : Prop := reachWithinUptoRow.holds Tryz.pinned (OpenSpec.upto reachWithinSpec)

end Rows
end Go.Proofs.YtacihjabkiedcaaGreatDoor
