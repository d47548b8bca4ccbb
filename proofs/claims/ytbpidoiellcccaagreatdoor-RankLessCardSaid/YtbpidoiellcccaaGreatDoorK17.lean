/- What the rows of laws over grammars share: the tables of the library laid in a world, and how an argument is opened. -/
import Derived.Test.YtbpidoiellcccaaGreatDoorK4
import Derived.Test.YtbpidoiellcccaaGreatDoorCards
import Derived.Test.YtbpidoiellcccaaGreatDoorTie
import Derived.WalkKit
import Derived.ProofKit
import Derived.OpenShut
import Derived.Below
import Derived.Carry
import Derived.ChangeSame
import Derived.Deep.DeepHandedRow
set_option linter.unusedVariables false
set_option linter.unusedSimpArgs false
namespace Go.Proofs.YtbpidoiellcccaaGreatDoor.RowG
open Go.ChangeShapes Go.WideShapes Go.ChangeAt Go.RowKit Go.Joins Go.Deep

theorem own : ownKnob Tryz.prog.godebug = none := by kernel_rfl
theorem laidOut : laidOutB Tryz.prog = true := by kernel_rfl
def tab0 : Array Value := (Go.Pinned.utf8FirstZ.map fun (n : Nat) => Value.int .u8 n).toArray
def tab1 : Array Value := #[.int .u8 128, .int .u8 191, .int .u8 160, .int .u8 191, .int .u8 128, .int .u8 159, .int .u8 144, .int .u8 191, .int .u8 128, .int .u8 143, .int .u8 0, .int .u8 0, .int .u8 0, .int .u8 0, .int .u8 0, .int .u8 0, .int .u8 0, .int .u8 0, .int .u8 0, .int .u8 0, .int .u8 0, .int .u8 0, .int .u8 0, .int .u8 0, .int .u8 0, .int .u8 0, .int .u8 0, .int .u8 0, .int .u8 0, .int .u8 0, .int .u8 0, .int .u8 0]
def put (cs : Array Value) : Obj → Obj
  | .cells _ t frozen => .cells cs t frozen
  | o => o
noncomputable def laidWorld (os : Os) : World :=
  { World.holding Tryz.prog os ⟨#[], #[], []⟩ with heap := ((World.holding Tryz.prog os ⟨#[], #[], []⟩).heap.modify 0 (put tab0)).modify 1 (put tab1) }
def laid2 : List (String × DataW Unit) := [("unicode/utf8.acceptRanges", Rows.laid_unicode_utf8_acceptRanges), ("unicode/utf8.first", Rows.laid_unicode_utf8_first)]
theorem gramCells : Tryz.prog.cellsOf 25 = 2 := by kernel_rfl

set_option maxRecDepth 100000 in
/-- An argument of the type of grammars. -/
theorem open_gram {H : Type} {enc : TypeId × Value → H} {W : World} {r : Reach} {b0 : Nat} {t : TypeId} {v : Value} {d : DataW H} {p : List MemPlace} {base : Nat} {spare : Nat → Bool} {held : Bool} (ht : t = 25)
    (hv : Value.okWide Tryz.prog W r b0 t v) (h : DataW.Trod enc Tryz.prog W base spare held t v d p) :
    ∃ (A : Option Addr) (ps : List ProdS) (C : Nat) (K : Option Addr) (m D : Nat), v = .agg #[.slice A ps.length C, .slice K m D] ∧ Prods [] W (.slice A ps.length C) ps ∧ m ≤ 9223372036854775807 := by
  have hu : Tryz.prog.underlying t = _ := (congrArg Tryz.prog.underlying ht).trans Tryz.underlying25
  have hc : Tryz.prog.cellsOf t = 2 := (congrArg Tryz.prog.cellsOf ht).trans gramCells
  clear ht
  obtain ⟨v0, v1, y0, y1, n, rfl, _, _, h0, h1⟩ := open_agg2 hu (by kernel_rfl) hc hv h
  obtain ⟨A, l, C, rfl, hp⟩ := prods_read h0
  rcases open_slice Tryz.underlying23 h1 with ⟨e, _⟩ | ⟨a, len, cap, m, n, D, Pl, e, _, hl, hm, _⟩
  · simp only [List.cons.injEq, and_true] at e
    subst e
    exact ⟨A, l, C, none, 0, 0, rfl, hp, Nat.zero_le _⟩
  · simp only [List.cons.injEq, and_true] at e
    subst e
    exact ⟨A, l, C, some a, len, cap, rfl, hp, Nat.le_trans hl (Nat.le_trans hm (by decide))⟩

end Go.Proofs.YtbpidoiellcccaaGreatDoor.RowG
