/-
  NARROWER THAN 'FOR EVERY INPUT', by the rows' own cells (each row's printed sentence says how): StrataTell: laid · StrataOrder: laid · StrataLess: laid · StrataWho: laid · StrataFirst: laid.
  DERIVED. THE GIVEN ROWS OF THIS SEAT. 5 by the template 'for every input the law returns true; each argument reads behind the call as it read before'; 0 by the template 'total and deterministic' (their statements: YtkminfdblimiiaaGreatDoorTotals.lean).
  GIVEN WITH THE SEED: the statements are not yours to turn. If you find one false, say at which input.
  Laid BY PROGRAM, IN A SANDBOX (cutbox-rows.mjs): the forced cells as the released guide's own fill.sh prints them over the translation 2d2dac54ca248c63… (all of the seat's roots in one cut). By AI agents, Wed Nov 11 2026. No macro, syntax, notation, axiom, sorry.
-/
import Derived.Test.YtkminfdblimiiaaGreatDoorChecked
import GoSem.PinnedTables
import GoSem.Claim
import GoSem.ClaimJoined
import GoSem.ClaimMapViews
import Derived.JoinedTies
import Derived.KernelRfl
namespace Go.Proofs.YtkminfdblimiiaaGreatDoor
/- THE CELL 'sum', in the pinned program and in every row, IS THE sha256 OF THE DUMP (.gsa) THAT YtkminfdblimiiaaGreatDoorProg.lean LOADS. Nothing in Lean hashes anything: it is a label: what it is worth is what the hold of that sum in a sandbox is worth. -/
noncomputable def Tryz.pinned : Pinned := { name := "ytkminfdblimiiaagreatdoor", sum := "2d2dac54ca248c63bc6cd4f1c52b4d26844bd05b0aa798ac182158bf50911fff", checked := Tryz.checked }
namespace Rows
def none {H : Type} : Left H := { results := [], args := [] }

/- WHAT THE LISTED PACKAGE-LEVEL VARIABLES READ AS WHEN THE CALL BEGINS. Each datum BY PROGRAM (the guide's laid-datum.mjs) off the statement by which the dump's own 'gosem.cut.vars' lays the variable. In a bare row this is a premise. The card (YtkminfdblimiiaaGreatDoorCards.lean) ties it to the program's text. -/
def laid_unicode_utf8_acceptRanges {H : Type} : DataW H := .agg [.agg [.lit (.int .u8 128), .lit (.int .u8 191)], .agg [.lit (.int .u8 160), .lit (.int .u8 191)], .agg [.lit (.int .u8 128), .lit (.int .u8 159)], .agg [.lit (.int .u8 144), .lit (.int .u8 191)], .agg [.lit (.int .u8 128), .lit (.int .u8 143)], .agg [.lit (.int .u8 0), .lit (.int .u8 0)], .agg [.lit (.int .u8 0), .lit (.int .u8 0)], .agg [.lit (.int .u8 0), .lit (.int .u8 0)], .agg [.lit (.int .u8 0), .lit (.int .u8 0)], .agg [.lit (.int .u8 0), .lit (.int .u8 0)], .agg [.lit (.int .u8 0), .lit (.int .u8 0)], .agg [.lit (.int .u8 0), .lit (.int .u8 0)], .agg [.lit (.int .u8 0), .lit (.int .u8 0)], .agg [.lit (.int .u8 0), .lit (.int .u8 0)], .agg [.lit (.int .u8 0), .lit (.int .u8 0)], .agg [.lit (.int .u8 0), .lit (.int .u8 0)]]
/-- One of Go's own tables, pinned by name: the form's constant. -/
def laid_unicode_utf8_first : DataW Unit := Go.Pinned.utf8First

/-- 'exegetelaw12.StrataTell': WHATEVER THE INPUT: true; the input reads as it did. -/
def strataTellSpec : ChangeSpec := { name := "strataTell", fn := fun _ => fun
  | [d1, d2] => { results := [.lit (.bool true)], args := [d1, d2] }
  | _ => none }
def strataTellRow : OpenClaim := { program := "ytkminfdblimiiaagreatdoor", sum := "2d2dac54ca248c63bc6cd4f1c52b4d26844bd05b0aa798ac182158bf50911fff", func := "exegete/exegetelaw12.StrataTell", spec := "strataTell", inPlace := ["internal/bytealg.IndexByteString", "internal/bytealg.IndexString"], unfollowed := true, recurses := true, named := ["unicode/utf8.first", "unicode/utf8.acceptRanges", "internal/bytealg.MaxLen"], apart := false, laid := [("unicode/utf8.acceptRanges", laid_unicode_utf8_acceptRanges), ("unicode/utf8.first", laid_unicode_utf8_first)] }
def StrataTellSaid : Prop := strataTellRow.holds Tryz.pinned (OpenSpec.ofChange strataTellSpec)

/-- ITS FALSE NEIGHBOUR: 'it returns false'. Refute it at one input. -/
def strataTellWrong : ChangeSpec := { name := "strataTell", fn := fun _ => fun
  | [d1, d2] => { results := [.lit (.bool false)], args := [d1, d2] }
  | _ => none }
def StrataTellWrongFalsely : Prop := strataTellRow.holds Tryz.pinned (OpenSpec.ofChange strataTellWrong)

/-- 'exegetelaw12.StrataOrder': WHATEVER THE INPUT: true; the input reads as it did. -/
def strataOrderSpec : ChangeSpec := { name := "strataOrder", fn := fun _ => fun
  | [d] => { results := [.lit (.bool true)], args := [d] }
  | _ => none }
def strataOrderRow : OpenClaim := { program := "ytkminfdblimiiaagreatdoor", sum := "2d2dac54ca248c63bc6cd4f1c52b4d26844bd05b0aa798ac182158bf50911fff", func := "exegete/exegetelaw12.StrataOrder", spec := "strataOrder", inPlace := ["internal/bytealg.IndexByteString", "internal/bytealg.IndexString"], unfollowed := true, recurses := true, named := ["unicode/utf8.first", "unicode/utf8.acceptRanges", "internal/bytealg.MaxLen"], apart := false, laid := [("unicode/utf8.acceptRanges", laid_unicode_utf8_acceptRanges), ("unicode/utf8.first", laid_unicode_utf8_first)] }
def StrataOrderSaid : Prop := strataOrderRow.holds Tryz.pinned (OpenSpec.ofChange strataOrderSpec)

/-- ITS FALSE NEIGHBOUR: 'it returns false'. Refute it at one input. -/
def strataOrderWrong : ChangeSpec := { name := "strataOrder", fn := fun _ => fun
  | [d] => { results := [.lit (.bool false)], args := [d] }
  | _ => none }
def StrataOrderWrongFalsely : Prop := strataOrderRow.holds Tryz.pinned (OpenSpec.ofChange strataOrderWrong)

/-- 'exegetelaw12.StrataLess': WHATEVER THE INPUT: true; the input reads as it did. -/
def strataLessSpec : ChangeSpec := { name := "strataLess", fn := fun _ => fun
  | [d] => { results := [.lit (.bool true)], args := [d] }
  | _ => none }
def strataLessRow : OpenClaim := { program := "ytkminfdblimiiaagreatdoor", sum := "2d2dac54ca248c63bc6cd4f1c52b4d26844bd05b0aa798ac182158bf50911fff", func := "exegete/exegetelaw12.StrataLess", spec := "strataLess", inPlace := ["internal/bytealg.IndexByteString", "internal/bytealg.IndexString"], unfollowed := true, recurses := true, named := ["unicode/utf8.first", "unicode/utf8.acceptRanges", "internal/bytealg.MaxLen"], apart := false, laid := [("unicode/utf8.acceptRanges", laid_unicode_utf8_acceptRanges), ("unicode/utf8.first", laid_unicode_utf8_first)] }
def StrataLessSaid : Prop := strataLessRow.holds Tryz.pinned (OpenSpec.ofChange strataLessSpec)

/-- ITS FALSE NEIGHBOUR: 'it returns false'. Refute it at one input. -/
def strataLessWrong : ChangeSpec := { name := "strataLess", fn := fun _ => fun
  | [d] => { results := [.lit (.bool false)], args := [d] }
  | _ => none }
def StrataLessWrongFalsely : Prop := strataLessRow.holds Tryz.pinned (OpenSpec.ofChange strataLessWrong)

/-- 'exegetelaw12.StrataWho': WHATEVER THE INPUT: true; the input reads as it did. -/
def strataWhoSpec : ChangeSpec := { name := "strataWho", fn := fun _ => fun
  | [d] => { results := [.lit (.bool true)], args := [d] }
  | _ => none }
def strataWhoRow : OpenClaim := { program := "ytkminfdblimiiaagreatdoor", sum := "2d2dac54ca248c63bc6cd4f1c52b4d26844bd05b0aa798ac182158bf50911fff", func := "exegete/exegetelaw12.StrataWho", spec := "strataWho", inPlace := ["internal/bytealg.IndexByteString", "internal/bytealg.IndexString"], unfollowed := true, recurses := true, named := ["unicode/utf8.first", "unicode/utf8.acceptRanges", "internal/bytealg.MaxLen"], apart := false, laid := [("unicode/utf8.acceptRanges", laid_unicode_utf8_acceptRanges), ("unicode/utf8.first", laid_unicode_utf8_first)] }
def StrataWhoSaid : Prop := strataWhoRow.holds Tryz.pinned (OpenSpec.ofChange strataWhoSpec)

/-- ITS FALSE NEIGHBOUR: 'it returns false'. Refute it at one input. -/
def strataWhoWrong : ChangeSpec := { name := "strataWho", fn := fun _ => fun
  | [d] => { results := [.lit (.bool false)], args := [d] }
  | _ => none }
def StrataWhoWrongFalsely : Prop := strataWhoRow.holds Tryz.pinned (OpenSpec.ofChange strataWhoWrong)

/-- 'exegetelaw12.StrataFirst': WHATEVER THE INPUT: true; the input reads as it did. -/
def strataFirstSpec : ChangeSpec := { name := "strataFirst", fn := fun _ => fun
  | [d1, d2] => { results := [.lit (.bool true)], args := [d1, d2] }
  | _ => none }
def strataFirstRow : OpenClaim := { program := "ytkminfdblimiiaagreatdoor", sum := "2d2dac54ca248c63bc6cd4f1c52b4d26844bd05b0aa798ac182158bf50911fff", func := "exegete/exegetelaw12.StrataFirst", spec := "strataFirst", inPlace := ["internal/bytealg.IndexByteString", "internal/bytealg.IndexString"], unfollowed := true, recurses := true, named := ["unicode/utf8.first", "unicode/utf8.acceptRanges", "internal/bytealg.MaxLen"], apart := false, laid := [("unicode/utf8.acceptRanges", laid_unicode_utf8_acceptRanges), ("unicode/utf8.first", laid_unicode_utf8_first)] }
def StrataFirstSaid : Prop := strataFirstRow.holds Tryz.pinned (OpenSpec.ofChange strataFirstSpec)

/-- ITS FALSE NEIGHBOUR: 'it returns false'. Refute it at one input. -/
def strataFirstWrong : ChangeSpec := { name := "strataFirst", fn := fun _ => fun
  | [d1, d2] => { results := [.lit (.bool false)], args := [d1, d2] }
  | _ => none }
def StrataFirstWrongFalsely : Prop := strataFirstRow.holds Tryz.pinned (OpenSpec.ofChange strataFirstWrong)

/- THE SECOND FORM. 'bulk': how many values and letters a reading holds, each counted each time it is reached (what is shared counts as often as it is met; a slice's spare places count too). A statement '..UptoSaid' is the law's where the arguments, and the package variables that the reading takes, are together of bulk at most 1048576: NARROWER than '..Said'. Prove '..Said' where nothing that the law and all that it calls make is longer than what came in: it says more and counts as full. Else prove '..UptoSaid'. A law counts once. -/
mutual
def uptoBulk {H : Type} : DataW H → Nat
  | .lit (.string bytes) => bytes.length + 1
  | .lit _ => 1
  | .nil => 1
  | .ptr d => uptoBulk d + 1
  | .slice elems spare => uptoBulkAll elems + uptoBulkAll spare + 1
  | .agg parts => uptoBulkAll parts + 1
  | .iface _ d => uptoBulk d + 1
  | .map entries => uptoBulkEntries entries + 1
  | .held _ => 1
def uptoBulkAll {H : Type} : List (DataW H) → Nat
  | [] => 0
  | d :: r => uptoBulk d + uptoBulkAll r
def uptoBulkEntries {H : Type} : List (Lit × DataW H) → Nat
  | [] => 0
  | x :: r => uptoBulkEntry x + uptoBulkEntries r
def uptoBulkEntry {H : Type} : Lit × DataW H → Nat
  | (.string bytes, d) => bytes.length + uptoBulk d + 1
  | (_, d) => uptoBulk d + 1
 end
def uptoSmall : (H : Type) → List (DataW H) → Bool := fun _ ds => decide (uptoBulkAll ds ≤ 1048576)
def OpenSpec.upto (s : _root_.Go.ChangeSpec) : _root_.Go.OpenSpec := { _root_.Go.OpenSpec.ofChange s with cond := some uptoSmall }

/-- 'exegetelaw12.StrataTell', WHERE WHAT IT READS IS OF BULK AT MOST 1048576: true; the input reads as it did. -/
def strataTellUptoRow : OpenClaim := { program := "ytkminfdblimiiaagreatdoor", sum := "2d2dac54ca248c63bc6cd4f1c52b4d26844bd05b0aa798ac182158bf50911fff", func := "exegete/exegetelaw12.StrataTell", spec := "strataTell", inPlace := ["internal/bytealg.IndexByteString", "internal/bytealg.IndexString"], unfollowed := true, recurses := true, named := ["unicode/utf8.first", "unicode/utf8.acceptRanges", "internal/bytealg.MaxLen"], apart := false, laid := [("unicode/utf8.acceptRanges", laid_unicode_utf8_acceptRanges), ("unicode/utf8.first", laid_unicode_utf8_first)], narrowed := true }
def StrataTellUptoSaid : Prop := strataTellUptoRow.holds Tryz.pinned (OpenSpec.upto strataTellSpec)

/-- 'exegetelaw12.StrataOrder', WHERE WHAT IT READS IS OF BULK AT MOST 1048576: true; the input reads as it did. -/
def strataOrderUptoRow : OpenClaim := { program := "ytkminfdblimiiaagreatdoor", sum := "2d2dac54ca248c63bc6cd4f1c52b4d26844bd05b0aa798ac182158bf50911fff", func := "exegete/exegetelaw12.StrataOrder", spec := "strataOrder", inPlace := ["internal/bytealg.IndexByteString", "internal/bytealg.IndexString"], unfollowed := true, recurses := true, named := ["unicode/utf8.first", "unicode/utf8.acceptRanges", "internal/bytealg.MaxLen"], apart := false, laid := [("unicode/utf8.acceptRanges", laid_unicode_utf8_acceptRanges), ("unicode/utf8.first", laid_unicode_utf8_first)], narrowed := true }
def StrataOrderUptoSaid : Prop := strataOrderUptoRow.holds Tryz.pinned (OpenSpec.upto strataOrderSpec)

/-- 'exegetelaw12.StrataLess', WHERE WHAT IT READS IS OF BULK AT MOST 1048576: true; the input reads as it did. -/
def strataLessUptoRow : OpenClaim := { program := "ytkminfdblimiiaagreatdoor", sum := "2d2dac54ca248c63bc6cd4f1c52b4d26844bd05b0aa798ac182158bf50911fff", func := "exegete/exegetelaw12.StrataLess", spec := "strataLess", inPlace := ["internal/bytealg.IndexByteString", "internal/bytealg.IndexString"], unfollowed := true, recurses := true, named := ["unicode/utf8.first", "unicode/utf8.acceptRanges", "internal/bytealg.MaxLen"], apart := false, laid := [("unicode/utf8.acceptRanges", laid_unicode_utf8_acceptRanges), ("unicode/utf8.first", laid_unicode_utf8_first)], narrowed := true }
def StrataLessUptoSaid : Prop := strataLessUptoRow.holds Tryz.pinned (OpenSpec.upto strataLessSpec)

/-- 'exegetelaw12.StrataWho', WHERE WHAT IT READS IS OF BULK AT MOST 1048576: true; the input reads as it did. -/
def strataWhoUptoRow : OpenClaim := { program := "ytkminfdblimiiaagreatdoor", sum := "2d2dac54ca248c63bc6cd4f1c52b4d26844bd05b0aa798ac182158bf50911fff", func := "exegete/exegetelaw12.StrataWho", spec := "strataWho", inPlace := ["internal/bytealg.IndexByteString", "internal/bytealg.IndexString"], unfollowed := true, recurses := true, named := ["unicode/utf8.first", "unicode/utf8.acceptRanges", "internal/bytealg.MaxLen"], apart := false, laid := [("unicode/utf8.acceptRanges", laid_unicode_utf8_acceptRanges), ("unicode/utf8.first", laid_unicode_utf8_first)], narrowed := true }
def StrataWhoUptoSaid : Prop := strataWhoUptoRow.holds Tryz.pinned (OpenSpec.upto strataWhoSpec)

/-- 'exegetelaw12.StrataFirst', WHERE WHAT IT READS IS OF BULK AT MOST 1048576: true; the input reads as it did. -/
def strataFirstUptoRow : OpenClaim := { program := "ytkminfdblimiiaagreatdoor", sum := "2d2dac54ca248c63bc6cd4f1c52b4d26844bd05b0aa798ac182158bf50911fff", func := "exegete/exegetelaw12.StrataFirst", spec := "strataFirst", inPlace := ["internal/bytealg.IndexByteString", "internal/bytealg.IndexString"], unfollowed := true, recurses := true, named := ["unicode/utf8.first", "unicode/utf8.acceptRanges", "internal/bytealg.MaxLen"], apart := false, laid := [("unicode/utf8.acceptRanges", laid_unicode_utf8_acceptRanges), ("unicode/utf8.first", laid_unicode_utf8_first)], narrowed := true }
def StrataFirstUptoSaid : Prop := strataFirstUptoRow.holds Tryz.pinned (OpenSpec.upto strataFirstSpec)

end Rows
end Go.Proofs.YtkminfdblimiiaaGreatDoor
