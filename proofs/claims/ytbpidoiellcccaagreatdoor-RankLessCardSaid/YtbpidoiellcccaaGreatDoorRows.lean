/-
  NARROWER THAN 'FOR EVERY INPUT', by the rows' own cells (each row's printed sentence says how): RankTells: laid · RankOrder: laid · RankFirst: laid · RankSelf: laid · RankLess: laid · RankFirsts: laid.
  DERIVED. THE GIVEN ROWS OF THIS SEAT. 6 by the template 'for every input the law returns true; each argument reads behind the call as it read before'; 0 by the template 'total and deterministic' (their statements: YtbpidoiellcccaaGreatDoorTotals.lean).
  GIVEN WITH THE SEED: the statements are not yours to turn. If you find one false, say at which input.
  Laid BY PROGRAM, IN A SANDBOX (cutbox-rows.mjs): the forced cells as the released guide's own fill.sh prints them over the translation 5cc1d9256f34e9ed… (all of the seat's roots in one cut). By AI agents, Wed Nov 11 2026. No macro, syntax, notation, axiom, sorry.
-/
import Derived.Test.YtbpidoiellcccaaGreatDoorChecked
import GoSem.PinnedTables
import GoSem.Claim
import GoSem.ClaimJoined
import GoSem.ClaimMapViews
import Derived.JoinedTies
import Derived.KernelRfl
namespace Go.Proofs.YtbpidoiellcccaaGreatDoor
/- THE CELL 'sum', in the pinned program and in every row, IS THE sha256 OF THE DUMP (.gsa) THAT YtbpidoiellcccaaGreatDoorProg.lean LOADS. Nothing in Lean hashes anything: it is a label: what it is worth is what the hold of that sum in a sandbox is worth. -/
noncomputable def Tryz.pinned : Pinned := { name := "ytbpidoiellcccaagreatdoor", sum := "5cc1d9256f34e9edead5b35a6e697b16bed2b872b7f631fd1baff3d64c370a01", checked := Tryz.checked }
namespace Rows
def none {H : Type} : Left H := { results := [], args := [] }

/- WHAT THE LISTED PACKAGE-LEVEL VARIABLES READ AS WHEN THE CALL BEGINS. Each datum BY PROGRAM (the guide's laid-datum.mjs) off the statement by which the dump's own 'gosem.cut.vars' lays the variable. In a bare row this is a premise. The card (YtbpidoiellcccaaGreatDoorCards.lean) ties it to the program's text. -/
def laid_unicode_utf8_acceptRanges {H : Type} : DataW H := .agg [.agg [.lit (.int .u8 128), .lit (.int .u8 191)], .agg [.lit (.int .u8 160), .lit (.int .u8 191)], .agg [.lit (.int .u8 128), .lit (.int .u8 159)], .agg [.lit (.int .u8 144), .lit (.int .u8 191)], .agg [.lit (.int .u8 128), .lit (.int .u8 143)], .agg [.lit (.int .u8 0), .lit (.int .u8 0)], .agg [.lit (.int .u8 0), .lit (.int .u8 0)], .agg [.lit (.int .u8 0), .lit (.int .u8 0)], .agg [.lit (.int .u8 0), .lit (.int .u8 0)], .agg [.lit (.int .u8 0), .lit (.int .u8 0)], .agg [.lit (.int .u8 0), .lit (.int .u8 0)], .agg [.lit (.int .u8 0), .lit (.int .u8 0)], .agg [.lit (.int .u8 0), .lit (.int .u8 0)], .agg [.lit (.int .u8 0), .lit (.int .u8 0)], .agg [.lit (.int .u8 0), .lit (.int .u8 0)], .agg [.lit (.int .u8 0), .lit (.int .u8 0)]]
/-- One of Go's own tables, pinned by name: the form's constant. -/
def laid_unicode_utf8_first : DataW Unit := Go.Pinned.utf8First

/-- 'exegetelaw10.RankTells': WHATEVER THE INPUT: true; the input reads as it did. -/
def rankTellsSpec : ChangeSpec := { name := "rankTells", fn := fun _ => fun
  | [d1, d2] => { results := [.lit (.bool true)], args := [d1, d2] }
  | _ => none }
def rankTellsRow : OpenClaim := { program := "ytbpidoiellcccaagreatdoor", sum := "5cc1d9256f34e9edead5b35a6e697b16bed2b872b7f631fd1baff3d64c370a01", func := "exegete/exegetelaw10.RankTells", spec := "rankTells", inPlace := ["internal/bytealg.IndexByteString", "internal/bytealg.IndexString"], unfollowed := true, recurses := true, named := ["unicode/utf8.first", "unicode/utf8.acceptRanges", "internal/bytealg.MaxLen"], apart := false, laid := [("unicode/utf8.acceptRanges", laid_unicode_utf8_acceptRanges), ("unicode/utf8.first", laid_unicode_utf8_first)] }
def RankTellsSaid : Prop := rankTellsRow.holds Tryz.pinned (OpenSpec.ofChange rankTellsSpec)

/-- ITS FALSE NEIGHBOUR: 'it returns false'. Refute it at one input. -/
def rankTellsWrong : ChangeSpec := { name := "rankTells", fn := fun _ => fun
  | [d1, d2] => { results := [.lit (.bool false)], args := [d1, d2] }
  | _ => none }
def RankTellsWrongFalsely : Prop := rankTellsRow.holds Tryz.pinned (OpenSpec.ofChange rankTellsWrong)

/-- 'exegetelaw10.RankOrder': WHATEVER THE INPUT: true; the input reads as it did. -/
def rankOrderSpec : ChangeSpec := { name := "rankOrder", fn := fun _ => fun
  | [d] => { results := [.lit (.bool true)], args := [d] }
  | _ => none }
def rankOrderRow : OpenClaim := { program := "ytbpidoiellcccaagreatdoor", sum := "5cc1d9256f34e9edead5b35a6e697b16bed2b872b7f631fd1baff3d64c370a01", func := "exegete/exegetelaw10.RankOrder", spec := "rankOrder", inPlace := ["internal/bytealg.IndexByteString", "internal/bytealg.IndexString"], unfollowed := true, recurses := true, named := ["unicode/utf8.first", "unicode/utf8.acceptRanges", "internal/bytealg.MaxLen"], apart := false, laid := [("unicode/utf8.acceptRanges", laid_unicode_utf8_acceptRanges), ("unicode/utf8.first", laid_unicode_utf8_first)] }
def RankOrderSaid : Prop := rankOrderRow.holds Tryz.pinned (OpenSpec.ofChange rankOrderSpec)

/-- ITS FALSE NEIGHBOUR: 'it returns false'. Refute it at one input. -/
def rankOrderWrong : ChangeSpec := { name := "rankOrder", fn := fun _ => fun
  | [d] => { results := [.lit (.bool false)], args := [d] }
  | _ => none }
def RankOrderWrongFalsely : Prop := rankOrderRow.holds Tryz.pinned (OpenSpec.ofChange rankOrderWrong)

/-- 'exegetelaw10.RankFirst': WHATEVER THE INPUT: true; the input reads as it did. -/
def rankFirstSpec : ChangeSpec := { name := "rankFirst", fn := fun _ => fun
  | [d1, d2] => { results := [.lit (.bool true)], args := [d1, d2] }
  | _ => none }
def rankFirstRow : OpenClaim := { program := "ytbpidoiellcccaagreatdoor", sum := "5cc1d9256f34e9edead5b35a6e697b16bed2b872b7f631fd1baff3d64c370a01", func := "exegete/exegetelaw10.RankFirst", spec := "rankFirst", inPlace := ["internal/bytealg.IndexByteString", "internal/bytealg.IndexString"], unfollowed := true, recurses := true, named := ["unicode/utf8.first", "unicode/utf8.acceptRanges", "internal/bytealg.MaxLen"], apart := false, laid := [("unicode/utf8.acceptRanges", laid_unicode_utf8_acceptRanges), ("unicode/utf8.first", laid_unicode_utf8_first)] }
def RankFirstSaid : Prop := rankFirstRow.holds Tryz.pinned (OpenSpec.ofChange rankFirstSpec)

/-- ITS FALSE NEIGHBOUR: 'it returns false'. Refute it at one input. -/
def rankFirstWrong : ChangeSpec := { name := "rankFirst", fn := fun _ => fun
  | [d1, d2] => { results := [.lit (.bool false)], args := [d1, d2] }
  | _ => none }
def RankFirstWrongFalsely : Prop := rankFirstRow.holds Tryz.pinned (OpenSpec.ofChange rankFirstWrong)

/-- 'exegetelaw10.RankSelf': WHATEVER THE INPUT: true; the input reads as it did. -/
def rankSelfSpec : ChangeSpec := { name := "rankSelf", fn := fun _ => fun
  | [d1, d2] => { results := [.lit (.bool true)], args := [d1, d2] }
  | _ => none }
def rankSelfRow : OpenClaim := { program := "ytbpidoiellcccaagreatdoor", sum := "5cc1d9256f34e9edead5b35a6e697b16bed2b872b7f631fd1baff3d64c370a01", func := "exegete/exegetelaw10.RankSelf", spec := "rankSelf", inPlace := ["internal/bytealg.IndexByteString", "internal/bytealg.IndexString"], unfollowed := true, recurses := true, named := ["unicode/utf8.first", "unicode/utf8.acceptRanges", "internal/bytealg.MaxLen"], apart := false, laid := [("unicode/utf8.acceptRanges", laid_unicode_utf8_acceptRanges), ("unicode/utf8.first", laid_unicode_utf8_first)] }
def RankSelfSaid : Prop := rankSelfRow.holds Tryz.pinned (OpenSpec.ofChange rankSelfSpec)

/-- ITS FALSE NEIGHBOUR: 'it returns false'. Refute it at one input. -/
def rankSelfWrong : ChangeSpec := { name := "rankSelf", fn := fun _ => fun
  | [d1, d2] => { results := [.lit (.bool false)], args := [d1, d2] }
  | _ => none }
def RankSelfWrongFalsely : Prop := rankSelfRow.holds Tryz.pinned (OpenSpec.ofChange rankSelfWrong)

/-- 'exegetelaw10.RankLess': WHATEVER THE INPUT: true; the input reads as it did. -/
def rankLessSpec : ChangeSpec := { name := "rankLess", fn := fun _ => fun
  | [d1, d2, d3] => { results := [.lit (.bool true)], args := [d1, d2, d3] }
  | _ => none }
def rankLessRow : OpenClaim := { program := "ytbpidoiellcccaagreatdoor", sum := "5cc1d9256f34e9edead5b35a6e697b16bed2b872b7f631fd1baff3d64c370a01", func := "exegete/exegetelaw10.RankLess", spec := "rankLess", inPlace := ["internal/bytealg.IndexByteString", "internal/bytealg.IndexString"], unfollowed := true, recurses := true, named := ["unicode/utf8.first", "unicode/utf8.acceptRanges", "internal/bytealg.MaxLen"], apart := false, laid := [("unicode/utf8.acceptRanges", laid_unicode_utf8_acceptRanges), ("unicode/utf8.first", laid_unicode_utf8_first)] }
def RankLessSaid : Prop := rankLessRow.holds Tryz.pinned (OpenSpec.ofChange rankLessSpec)

/-- ITS FALSE NEIGHBOUR: 'it returns false'. Refute it at one input. -/
def rankLessWrong : ChangeSpec := { name := "rankLess", fn := fun _ => fun
  | [d1, d2, d3] => { results := [.lit (.bool false)], args := [d1, d2, d3] }
  | _ => none }
def RankLessWrongFalsely : Prop := rankLessRow.holds Tryz.pinned (OpenSpec.ofChange rankLessWrong)

/-- 'exegetelaw10.RankFirsts': WHATEVER THE INPUT: true; the input reads as it did. -/
def rankFirstsSpec : ChangeSpec := { name := "rankFirsts", fn := fun _ => fun
  | [d1, d2] => { results := [.lit (.bool true)], args := [d1, d2] }
  | _ => none }
def rankFirstsRow : OpenClaim := { program := "ytbpidoiellcccaagreatdoor", sum := "5cc1d9256f34e9edead5b35a6e697b16bed2b872b7f631fd1baff3d64c370a01", func := "exegete/exegetelaw10.RankFirsts", spec := "rankFirsts", inPlace := ["internal/bytealg.IndexByteString", "internal/bytealg.IndexString"], unfollowed := true, recurses := true, named := ["unicode/utf8.first", "unicode/utf8.acceptRanges", "internal/bytealg.MaxLen"], apart := false, laid := [("unicode/utf8.acceptRanges", laid_unicode_utf8_acceptRanges), ("unicode/utf8.first", laid_unicode_utf8_first)] }
def RankFirstsSaid : Prop := rankFirstsRow.holds Tryz.pinned (OpenSpec.ofChange rankFirstsSpec)

/-- ITS FALSE NEIGHBOUR: 'it returns false'. Refute it at one input. -/
def rankFirstsWrong : ChangeSpec := { name := "rankFirsts", fn := fun _ => fun
  | [d1, d2] => { results := [.lit (.bool false)], args := [d1, d2] }
  | _ => none }
def RankFirstsWrongFalsely : Prop := rankFirstsRow.holds Tryz.pinned (OpenSpec.ofChange rankFirstsWrong)

/- THE SECOND FORM. 'bulk': how many values and letters a reading holds, each counted each time it is reached (what is shared counts as often as it is met; a slice's spare places count too). A statement '..UptoSaid' is the law's where the arguments, and the package variables that the reading takes, are together of bulk at most 1048576: NARROWER than '..Said'. Prove '..Said' where nothing that the law and all that it calls make is longer than what came in: it says more and counts as full. Else prove '..UptoSaid'. A law counts once. -/
mutual
def uptoBulk {H : Type} : DataW H → Nat
  | .lit (.string bytes) => bytes.length + 1
  | .lit _ => 1
  | .nil => 1
  | .ptr d => uptoBulk d + 1
  | .slice elems spare => uptoBulkAll elems + uptoBulkAll spare + 1
  | .agg parts => uptoBulkAll parts + 1
  | .iface _ d => uptoBulk d + 1
  | .map entries => uptoBulkEntries entries + 1
  | .held _ => 1
def uptoBulkAll {H : Type} : List (DataW H) → Nat
  | [] => 0
  | d :: r => uptoBulk d + uptoBulkAll r
def uptoBulkEntries {H : Type} : List (Lit × DataW H) → Nat
  | [] => 0
  | x :: r => uptoBulkEntry x + uptoBulkEntries r
def uptoBulkEntry {H : Type} : Lit × DataW H → Nat
  | (.string bytes, d) => bytes.length + uptoBulk d + 1
  | (_, d) => uptoBulk d + 1
 end
def uptoSmall : (H : Type) → List (DataW H) → Bool := fun _ ds => decide (uptoBulkAll ds ≤ 1048576)
def OpenSpec.upto (s : _root_.Go.ChangeSpec) : _root_.Go.OpenSpec := { _root_.Go.OpenSpec.ofChange s with cond := some uptoSmall }

/-- 'exegetelaw10.RankTells', WHERE WHAT IT READS IS OF BULK AT MOST 1048576: true; the input reads as it did. -/
def rankTellsUptoRow : OpenClaim := { program := "ytbpidoiellcccaagreatdoor", sum := "5cc1d9256f34e9edead5b35a6e697b16bed2b872b7f631fd1baff3d64c370a01", func := "exegete/exegetelaw10.RankTells", spec := "rankTells", inPlace := ["internal/bytealg.IndexByteString", "internal/bytealg.IndexString"], unfollowed := true, recurses := true, named := ["unicode/utf8.first", "unicode/utf8.acceptRanges", "internal/bytealg.MaxLen"], apart := false, laid := [("unicode/utf8.acceptRanges", laid_unicode_utf8_acceptRanges), ("unicode/utf8.first", laid_unicode_utf8_first)], narrowed := true }
def RankTellsUptoSaid : Prop := rankTellsUptoRow.holds Tryz.pinned (OpenSpec.upto rankTellsSpec)

/-- 'exegetelaw10.RankOrder', WHERE WHAT IT READS IS OF BULK AT MOST 1048576: true; the input reads as it did. -/
def rankOrderUptoRow : OpenClaim := { program := "ytbpidoiellcccaagreatdoor", sum := "5cc1d9256f34e9edead5b35a6e697b16bed2b872b7f631fd1baff3d64c370a01", func := "exegete/exegetelaw10.RankOrder", spec := "rankOrder", inPlace := ["internal/bytealg.IndexByteString", "internal/bytealg.IndexString"], unfollowed := true, recurses := true, named := ["unicode/utf8.first", "unicode/utf8.acceptRanges", "internal/bytealg.MaxLen"], apart := false, laid := [("unicode/utf8.acceptRanges", laid_unicode_utf8_acceptRanges), ("unicode/utf8.first", laid_unicode_utf8_first)], narrowed := true }
def RankOrderUptoSaid : Prop := rankOrderUptoRow.holds Tryz.pinned (OpenSpec.upto rankOrderSpec)

/-- 'exegetelaw10.RankFirst', WHERE WHAT IT READS IS OF BULK AT MOST 1048576: true; the input reads as it did. -/
def rankFirstUptoRow : OpenClaim := { program := "ytbpidoiellcccaagreatdoor", sum := "5cc1d9256f34e9edead5b35a6e697b16bed2b872b7f631fd1baff3d64c370a01", func := "exegete/exegetelaw10.RankFirst", spec := "rankFirst", inPlace := ["internal/bytealg.IndexByteString", "internal/bytealg.IndexString"], unfollowed := true, recurses := true, named := ["unicode/utf8.first", "unicode/utf8.acceptRanges", "internal/bytealg.MaxLen"], apart := false, laid := [("unicode/utf8.acceptRanges", laid_unicode_utf8_acceptRanges), ("unicode/utf8.first", laid_unicode_utf8_first)], narrowed := true }
def RankFirstUptoSaid : Prop := rankFirstUptoRow.holds Tryz.pinned (OpenSpec.upto rankFirstSpec)

/-- 'exegetelaw10.RankSelf', WHERE WHAT IT READS IS OF BULK AT MOST 1048576: true; the input reads as it did. -/
def rankSelfUptoRow : OpenClaim := { program := "ytbpidoiellcccaagreatdoor", sum := "5cc1d9256f34e9edead5b35a6e697b16bed2b872b7f631fd1baff3d64c370a01", func := "exegete/exegetelaw10.RankSelf", spec := "rankSelf", inPlace := ["internal/bytealg.IndexByteString", "internal/bytealg.IndexString"], unfollowed := true, recurses := true, named := ["unicode/utf8.first", "unicode/utf8.acceptRanges", "internal/bytealg.MaxLen"], apart := false, laid := [("unicode/utf8.acceptRanges", laid_unicode_utf8_acceptRanges), ("unicode/utf8.first", laid_unicode_utf8_first)], narrowed := true }
def RankSelfUptoSaid : Prop := rankSelfUptoRow.holds Tryz.pinned (OpenSpec.upto rankSelfSpec)

/-- 'exegetelaw10.RankLess', WHERE WHAT IT READS IS OF BULK AT MOST 1048576: true; the input reads as it did. -/
def rankLessUptoRow : OpenClaim := { program := "ytbpidoiellcccaagreatdoor", sum := "5cc1d9256f34e9edead5b35a6e697b16bed2b872b7f631fd1baff3d64c370a01", func := "exegete/exegetelaw10.RankLess", spec := "rankLess", inPlace := ["internal/bytealg.IndexByteString", "internal/bytealg.IndexString"], unfollowed := true, recurses := true, named := ["unicode/utf8.first", "unicode/utf8.acceptRanges", "internal/bytealg.MaxLen"], apart := false, laid := [("unicode/utf8.acceptRanges", laid_unicode_utf8_acceptRanges), ("unicode/utf8.first", laid_unicode_utf8_first)], narrowed := true }
def RankLessUptoSaid : Prop := rankLessUptoRow.holds Tryz.pinned (OpenSpec.upto rankLessSpec)

/-- 'exegetelaw10.RankFirsts', WHERE WHAT IT READS IS OF BULK AT MOST 1048576: true; the input reads as it did. -/
def rankFirstsUptoRow : OpenClaim := { program := "ytbpidoiellcccaagreatdoor", sum := "5cc1d9256f34e9edead5b35a6e697b16bed2b872b7f631fd1baff3d64c370a01", func := "exegete/exegetelaw10.RankFirsts", spec := "rankFirsts", inPlace := ["internal/bytealg.IndexByteString", "internal/bytealg.IndexString"], unfollowed := true, recurses := true, named := ["unicode/utf8.first", "unicode/utf8.acceptRanges", "internal/bytealg.MaxLen"], apart := false, laid := [("unicode/utf8.acceptRanges", laid_unicode_utf8_acceptRanges), ("unicode/utf8.first", laid_unicode_utf8_first)], narrowed := true }
def RankFirstsUptoSaid : Prop := rankFirstsUptoRow.holds Tryz.pinned (OpenSpec.upto rankFirstsSpec)

end Rows
end Go.Proofs.YtbpidoiellcccaaGreatDoor
