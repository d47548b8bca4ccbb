/- Data read as numbers. -/
import Derived.Test.YtbpidoiellcccaaGreatDoorK17
import Derived.Test.YtbpidoiellcccaaGreatDoorK15
set_option linter.unusedVariables false
set_option linter.unusedSimpArgs false
namespace Go.Proofs.YtbpidoiellcccaaGreatDoor.RowG
open Go.ChangeShapes Go.WideShapes Go.ChangeAt Go.RowKit Go.Joins Go.Deep Go.Proofs.YtbpidoiellcccaaGreatDoor
section
variable {H : Type} {enc : TypeId × Value → H} {w : World} {base : Nat} {spare : Nat → Bool} {held : Bool}
theorem cells_one : Tryz.prog.cellsOf 3 = 1 := by kernel_rfl
theorem ints_read {fuel : Nat} {v : Value} {x : DataW H × List MemPlace} (h : DataW.trod enc Tryz.prog w base spare held fuel 26 [v] = some x) : ∃ A l C, v = .slice A (l : List Int).length C ∧ SlOf IntRow [] w 1 v l := by
  refine slice_read IntRow 1 (by omega) Tryz.underlying26 cells_one h (fun n cs y hl hy => ?_)
  match cs, hl with
  | [c], _ =>
    obtain ⟨a, rfl⟩ := int_read hy
    exact ⟨a, rfl⟩
end
end Go.Proofs.YtbpidoiellcccaaGreatDoor.RowG
