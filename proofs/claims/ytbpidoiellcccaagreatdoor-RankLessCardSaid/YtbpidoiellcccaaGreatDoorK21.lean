/- Lists of numbers in memory; slices.Sort and slices.Compact on them. -/
import Derived.Test.YtbpidoiellcccaaGreatDoorK13
import Derived.Test.YtbpidoiellcccaaGreatDoorShelf2
set_option linter.unusedVariables false
set_option linter.unusedSimpArgs false
namespace Go.Proofs.YtbpidoiellcccaaGreatDoor
open Go Go.RowKit Go.Sort

/-- The slice v, of a row from block base on, has these numbers. -/
def IntV (w : World) (base : Nat) (v : Value) (xs : List Int) : Prop :=
  (xs = [] ∧ ∃ A C, v = .slice A 0 C) ∨ ∃ b o C, v = .slice (some ⟨b, o, none⟩) xs.length C ∧ base ≤ b ∧ b < w.heap.size ∧ xs.length ≤ C ∧ xs.length ≤ 1000000 ∧ Holds (Value.int .i64) w b o xs.toArray
theorem keep_putRow {α : Type} [Inhabited α] (enc : α → Value) (w : World) (n b o : Nat) (d : Array α) (os : Array Obj) : Keep [b] w (grow (putRow enc (Sort.ahead w n) b o d) os) := by
  refine ⟨rfl, rfl, rfl, ?_, fun k hk hS => ?_⟩
  · simp [grow, putRow, mapBlock, Sort.ahead]
  · have hb : ¬ b = k := by simpa using fun e => hS (by simp [e])
    have h1 : (grow (putRow enc (Sort.ahead w n) b o d) os).heap[k]? = (putRow enc (Sort.ahead w n) b o d).heap[k]? := heap_grow_old _ _ (by simpa [putRow, mapBlock, Sort.ahead] using hk)
    rw [h1]
    simp [putRow, mapBlock, ahead, Array.getElem?_modify, hb]
def sortI (xs : List Int) : List Int := xs.mergeSort fun x y => decide (x ≤ y)
theorem sort_any (w : World) (base : Nat) (v : Value) (xs : List Int) (H : IntV w base v xs) :
    Calls Tryz.prog 40 #[v] w fun e w' => e = .returned (.tuple #[]) ∧ IntV w' base v (sortI xs) ∧ ∃ b, base ≤ b ∧ Keep [b] w w' := by
  rcases H with ⟨rfl, A, C, rfl⟩ | ⟨b, o, C, rfl, hb, hlt, hC, hl, hH⟩
  · refine (Any.slices_Sort_int_none Tryz.lays189 A C w).mono ?_
    rintro e w' ⟨rfl, rfl⟩
    exact ⟨rfl, .inl ⟨by simp [sortI], A, C, rfl⟩, base, Nat.le_refl _, (Keep.refl [] _).mono (by simp)⟩
  · refine (Any.slices_Sort_int Tryz.lays189 b o C xs w hH hlt (by omega)).mono ?_
    rintro e w' ⟨rfl, n, os, rfl⟩
    have hs : (sortI xs).length = xs.length := List.length_mergeSort _
    refine ⟨rfl, .inr ⟨b, o, C, by rw [hs], hb, ?_, by omega, by omega, ?_⟩, b, hb, keep_putRow _ _ _ _ _ _ _⟩
    · exact Nat.lt_of_lt_of_le hlt (keep_putRow _ _ _ _ _ _ _).size
    · refine holds_grow _ _ _ _ _ _ (by simp only [putRow, mapBlock, Sort.ahead, Array.size_modify]; exact hlt) ?_
      exact holds_putRow _ _ _ _ xs.toArray _ (holds_ahead _ _ _ _ _ _ hH) (by simp)
/-- As slices.Compact leaves it. -/
def compI (xs : List Int) : List Int := Lib.compact xs
theorem compI_sub (xs : List Int) : (compI xs).length ≤ xs.length ∧ ∀ x ∈ compI xs, x ∈ xs := by
  unfold compI Lib.compact Lib.compactUpTo
  constructor
  · simp only [List.length_map]
    exact Nat.le_trans (List.length_filter_le _ _) (by simp)
  · intro x hx
    simp only [List.mem_map, List.mem_filter, List.mem_range] at hx
    obtain ⟨i, ⟨hi, _⟩, rfl⟩ := hx
    rw [getElem!_pos xs.toArray i (by simpa using hi)]
    simp
theorem compact_any (w : World) (base : Nat) (v : Value) (xs : List Int) (H : IntV w base v xs) :
    Calls Tryz.prog 41 #[v] w fun e w' => (∃ v', e = .returned v' ∧ IntV w' base v' (compI xs)) ∧ ∃ b, base ≤ b ∧ Keep [b] w w' := by
  rcases H with ⟨rfl, A, C, rfl⟩ | ⟨b, o, C, rfl, hb, hlt, hC, hl, hH⟩
  · refine (Any.slices_Compact_int_empty Tryz.laysCompact A C w).mono ?_
    rintro e w' ⟨rfl, rfl⟩
    exact ⟨⟨_, rfl, .inl ⟨rfl, A, C, rfl⟩⟩, base, Nat.le_refl _, (Keep.refl [] _).mono (by simp)⟩
  · refine (Any.slices_Compact_int Tryz.laysCompact b o C xs w hH (by omega) hC).mono ?_
    rintro e w' ⟨rfl, n, rfl⟩
    have hs := (compI_sub xs).1
    have hk : Keep [b] w (putRow (Value.int .i64) (Sort.ahead w n) b o (Lib.compact xs ++ List.replicate (xs.length - (Lib.compact xs).length) 0).toArray) := by
      have := keep_putRow (Value.int .i64) w n b o (Lib.compact xs ++ List.replicate (xs.length - (Lib.compact xs).length) 0).toArray #[]
      simpa using this
    refine ⟨⟨_, rfl, .inr ⟨b, o, C, rfl, hb, Nat.lt_of_lt_of_le hlt hk.size, by omega, by omega, fun j hj => ?_⟩⟩, b, hb, hk⟩
    have hj' : j < (compI xs).length := by simpa using hj
    have hh := holds_putRow (Value.int .i64) (Sort.ahead w n) b o xs.toArray (Lib.compact xs ++ List.replicate (xs.length - (Lib.compact xs).length) 0).toArray (holds_ahead _ _ _ _ _ _ hH) (by
      have : (Lib.compact xs).length ≤ xs.length := hs
      simp; omega) j (by simp; unfold compI at hj'; omega)
    have e : (Lib.compact xs ++ List.replicate (xs.length - (Lib.compact xs).length) 0).toArray[j]! = (compI xs).toArray[j]! := by
      unfold compI at hj' ⊢
      rw [getElem!_pos _ j (by simp; omega), getElem!_pos _ j (by simpa using hj')]
      simp [List.getElem_append_left hj']
    rw [e] at hh
    exact hh
end Go.Proofs.YtbpidoiellcccaaGreatDoor
