/- Places from which on something may be otherwise: the plain words. -/
import Derived.Test.YtacihjabkiedcaaGreatDoorH29
import Derived.Test.YtacihjabkiedcaaGreatDoorH23
import Derived.Test.YtacihjabkiedcaaGreatDoorShelf3
import Derived.Shelf.SlSortCmp.NoneTotal
import Derived.Shelf.SlicesG.Cmp
set_option linter.unusedVariables false
set_option linter.unusedSimpArgs false
namespace Go.Proofs.YtacihjabkiedcaaGreatDoor
open Go Go.RowKit Go.Shelf Go.Lib Go.Sort

theorem ltC (x y : Int) : ltOf Lib.compareInt x y = decide (x < y) := by
  unfold ltOf Lib.compareInt
  by_cases h1 : x < y
  · simp [h1]
  · by_cases h2 : y < x <;> simp [h1, h2]
theorem swoC : SWO (ltOf Lib.compareInt) where
  irrefl x := by rw [ltC]; simp
  trans x y z h1 h2 := by rw [ltC] at *; simp at *; omega
  ntrans x y z h1 h2 := by rw [ltC] at *; simp at *; omega
theorem totC (x y : Int) (h1 : ltOf Lib.compareInt x y = false) (h2 : ltOf Lib.compareInt y x = false) : x = y := by rw [ltC] at *; simp at *; omega
theorem geC : (fun x y : Int => !ltOf Lib.compareInt y x) = fun x y => decide (x ≤ y) := by
  funext x y
  rw [ltC]
  by_cases h : x ≤ y
  · have h' : ¬ y < x := by omega
    simp [h, h']
  · have h' : y < x := by omega
    simp [h, h']
theorem cmp_any (x y : Int) (W : World) : Calls Tryz.prog 155 #[.int .i64 x, .int .i64 y] W fun e w' => e = .returned (.int .i64 (Lib.compareInt x y)) ∧ ∃ q, w' = W.drewN q :=
  (AnyG.cmp_Compare_int Tryz.cmpL x y W).mono fun e w' ⟨h1, h2⟩ => ⟨h1, 0, h2⟩
theorem cmpReadsC (blk off size : Nat) (w : World) : CmpReads Tryz.prog 155 #[] (Value.int .i64) Lib.compareInt blk off size w := fun _ _ _ _ x y => cmp_any x y _
theorem sortF_any (w : World) (base : Nat) (v : Value) (xs : List Int) (H : IntV w base v xs) :
    Calls Tryz.prog 154 #[v, .func (.func 155) #[] #[]] w fun e w' => e = .returned (.tuple #[]) ∧ IntV w' base v (sortI xs) ∧ Keep (ownB v) w w' := by
  rcases H with ⟨rfl, A, C, rfl⟩ | ⟨b, o, C, rfl, hb, hlt, hC, hl, hH⟩
  · refine (AnyF.slices_SortFunc_none (P := Tryz.prog) (ρ := Tryz.sortFL_ren) { Tryz.sortFL with } A C (.func (.func 155) #[] #[]) w).mono ?_
    rintro e w' ⟨rfl, rfl⟩
    exact ⟨rfl, .inl ⟨by simp [sortI], A, C, rfl⟩, (Keep.refl [] _).mono (by simp)⟩
  · have eg : ∀ args w, (callFunc 155 args).run Tryz.prog w = .ok (.enter 155 args) w := enters_of Tryz.func155 (by kernel_rfl) rfl
    have hS := Any.slices_SortFunc_total Tryz.sortFL (Value.int .i64) (fun _ => rfl) Lib.compareInt swoC 155 #[] b o C xs.toArray w eg (cmpReadsC b o xs.toArray.size w).lays hH hlt (by simp; omega) totC
    rw [geC] at hS
    refine hS.mono ?_
    rintro e w' ⟨rfl, n, os, rfl⟩
    have hs : (sortI xs).length = xs.length := List.length_mergeSort _
    refine ⟨rfl, .inr ⟨b, o, C, by rw [hs], hb, ?_, by omega, by omega, ?_⟩, keep_putRow _ _ _ _ _ _ _⟩
    · exact Nat.lt_of_lt_of_le hlt (keep_putRow _ _ _ _ _ _ _).size
    · refine holds_grow _ _ _ _ _ _ (by simp only [putRow, mapBlock, Sort.ahead, Array.size_modify]; exact hlt) ?_
      exact holds_putRow _ _ _ _ xs.toArray _ (holds_ahead _ _ _ _ _ _ hH) (by simp)
theorem compact2_any (w : World) (base : Nat) (v : Value) (xs : List Int) (H : IntV w base v xs) :
    Calls Tryz.prog 54 #[v] w fun e w' => (∃ v', e = .returned v' ∧ IntV w' base v' (compI xs) ∧ ∀ b ∈ ownB v', b ∈ ownB v) ∧ Keep (ownB v) w w' := by
  rcases H with ⟨rfl, A, C, rfl⟩ | ⟨b, o, C, rfl, hb, hlt, hC, hl, hH⟩
  · refine (Any.slices_Compact_int_empty Tryz.laysCompact A C w).mono ?_
    rintro e w' ⟨rfl, rfl⟩
    exact ⟨⟨_, rfl, .inl ⟨rfl, A, C, rfl⟩, fun b hb => hb⟩, (Keep.refl [] _).mono (by simp)⟩
  · refine (Any.slices_Compact_int Tryz.laysCompact b o C xs w hH (by omega) hC).mono ?_
    rintro e w' ⟨rfl, n, rfl⟩
    have hs := (compI_sub xs).1
    have hk : Keep [b] w (putRow (Value.int .i64) (Sort.ahead w n) b o (Lib.compact xs ++ List.replicate (xs.length - (Lib.compact xs).length) 0).toArray) := by
      have := keep_putRow (Value.int .i64) w n b o (Lib.compact xs ++ List.replicate (xs.length - (Lib.compact xs).length) 0).toArray #[]
      simpa using this
    refine ⟨⟨_, rfl, .inr ⟨b, o, C, rfl, hb, Nat.lt_of_lt_of_le hlt hk.size, by omega, by omega, fun j hj => ?_⟩, fun b hb => hb⟩, hk⟩
    have hj' : j < (compI xs).length := by simpa using hj
    have hh := holds_putRow (Value.int .i64) (Sort.ahead w n) b o xs.toArray (Lib.compact xs ++ List.replicate (xs.length - (Lib.compact xs).length) 0).toArray (holds_ahead _ _ _ _ _ _ hH) (by
      have : (Lib.compact xs).length ≤ xs.length := hs
      simp; omega) j (by simp; unfold compI at hj'; omega)
    have e : (Lib.compact xs ++ List.replicate (xs.length - (Lib.compact xs).length) 0).toArray[j]! = (compI xs).toArray[j]! := by
      unfold compI at hj' ⊢
      rw [getElem!_pos _ j (by simp; omega), getElem!_pos _ j (by simpa using hj')]
      simp [List.getElem_append_left hj']
    rw [e] at hh
    exact hh
/-- Numbers stay where their row does not turn. -/
theorem IntV.keep2 {w w' : World} {base : Nat} {v : Value} {xs : List Int} {S : List Nat} (h : IntV w base v xs) (K : Keep S w w') (hS : ∀ b ∈ ownB v, b ∉ S) : IntV w' base v xs := by
  rcases h with h | ⟨b, o, C, rfl, h2, h3, h4, h5, h6⟩
  · exact .inl h
  · refine .inr ⟨b, o, C, rfl, h2, Nat.lt_of_lt_of_le h3 K.size, h4, h5, fun j hj => ?_⟩
    have hb := K.block b h3 (hS b (by simp [ownB, Value.ownBlock]))
    obtain ⟨c1, c2⟩ := h6 j hj
    exact ⟨by rw [← c1]; simp only [World.cell?, hb], by rw [← c2]; simp only [World.frozen?, hb]⟩
end Go.Proofs.YtacihjabkiedcaaGreatDoor
