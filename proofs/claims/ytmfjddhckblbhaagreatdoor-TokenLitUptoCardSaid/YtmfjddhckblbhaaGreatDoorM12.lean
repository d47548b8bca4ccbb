/- How long bytes are at most, where what is read is of a bounded bulk. -/
import Derived.Test.YtmfjddhckblbhaaGreatDoorM11
import Derived.Test.YtmfjddhckblbhaaGreatDoorCards
set_option linter.unusedVariables false
set_option linter.unusedSimpArgs false
namespace Go.Proofs.YtmfjddhckblbhaaGreatDoor
open Go Go.RowKit Go.ChangeShapes Go.WideShapes Go.Deep Go.Joins

theorem bulk_pos {H : Type} (d : DataW H) : 1 ≤ Rows.uptoBulk d := by
  cases d with
  | lit x => cases x <;> simp [Rows.uptoBulk]
  | _ => simp [Rows.uptoBulk]
theorem bulk_len {H : Type} : ∀ l : List (DataW H), l.length ≤ Rows.uptoBulkAll l
  | [] => by simp
  | d :: l => by
    have h1 := bulk_pos d
    have h2 := bulk_len l
    simp only [Rows.uptoBulkAll, List.length_cons]
    omega
theorem bytes_bulk {H : Type} {enc : TypeId × Value → H} {w : World} {base : Nat} {spare : Nat → Bool} {held : Bool} {fuel : Nat} {A : Option Addr} {n C : Nat} {x : DataW H × List MemPlace} (h : DataW.trod enc Tryz.prog w base spare held fuel 37 [.slice A n C] = some x) : n ≤ Rows.uptoBulk x.1 := by
  rcases open_slice Tryz.underlying37 h with ⟨h0, _⟩ | ⟨a, len, cap, m, k, D, Pl, hcs, hb, hl, hm, hmm, hx, hi⟩
  · simp only [List.cons.injEq, and_true, Value.slice.injEq] at h0
    omega
  · simp only [List.cons.injEq, and_true, Value.slice.injEq] at hcs
    have h1 := bulk_len ((List.range len).map D)
    rw [hx]
    simp only [Rows.uptoBulk]
    simp only [List.length_map, List.length_range] at h1
    omega
end Go.Proofs.YtmfjddhckblbhaaGreatDoor
