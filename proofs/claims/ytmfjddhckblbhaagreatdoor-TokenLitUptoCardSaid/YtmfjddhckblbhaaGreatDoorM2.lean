/- Slices of structured elements: read ('SlOf') and made by appending ('OwnL'). -/
import Derived.Test.YtmfjddhckblbhaaGreatDoorM1
import Derived.Deep.AppendLies
set_option linter.unusedVariables false
set_option linter.unusedSimpArgs false
namespace Go.Proofs.YtmfjddhckblbhaaGreatDoor
open Go Go.RowKit

/-- A word on elements that lives on where nothing of theirs turns: T may turn, S' is what they lie beside then. -/
def Stab {α : Type} (R : List Nat → World → α → Array Value → Prop) : Prop :=
  ∀ (S T S' : List Nat) (w w' : World) (x : α) (row : Array Value), R S w x row → Keep T w w' → (∀ b ∈ T, b ∈ S ∨ w.heap.size ≤ b) → (∀ b ∈ S', b ∈ S ∨ w.heap.size ≤ b) → R S' w' x row
theorem Sl.move {S T S' : List Nat} {w w' : World} {k : Nat} {v : Value} {xs : List (Array Value)} (h : Sl S w k v xs) (hk : 0 < k) (K : Keep T w w') (hT : ∀ b ∈ T, b ∈ S ∨ w.heap.size ≤ b) (hS : ∀ b ∈ S', b ∈ S ∨ w.heap.size ≤ b) : Sl S' w' k v xs := by
  obtain ⟨a, c, hv, hm, hr⟩ := h
  refine ⟨a, c, hv, hm, fun hp => ?_⟩
  obtain ⟨b, o, ha, hb, hc⟩ := hr hp
  have hlt : b < w.heap.size := by
    have h1 := (hc 0 hp).2 0 hk
    have hs : xs[0][0]? = some (xs[0][0]'(by rw [(hc 0 hp).1]; exact hk)) := Array.getElem?_eq_getElem _
    rw [hs] at h1
    exact World.block_lt_of_cell? w _ h1
  have hnot : ∀ (L : List Nat), (∀ b ∈ L, b ∈ S ∨ w.heap.size ≤ b) → b ∉ L := fun L hL hb' => by
    rcases hL b hb' with h | h
    · exact hb h
    · omega
  refine ⟨b, o, ha, hnot S' hS, fun i hi => ⟨(hc i hi).1, fun j hj => ?_⟩⟩
  rw [← (hc i hi).2 j hj]
  exact World.cell?_of_block (w := w) (a := ⟨b, o + i * k + j, none⟩) (K.block b hlt (hnot T hT))

section
variable {α : Type} {R : List Nat → World → α → Array Value → Prop}

/-- The slice v has these elements, each of k cells. -/
def SlOf (R : List Nat → World → α → Array Value → Prop) (S : List Nat) (w : World) (k : Nat) (v : Value) (xs : List α) : Prop :=
  ∃ rows : List (Array Value), Sl S w k v rows ∧ rows.length = xs.length ∧ ∀ i (h : i < xs.length) (h' : i < rows.length), R S w xs[i] rows[i]
theorem SlOf.nil (S : List Nat) (w : World) (k : Nat) : SlOf R S w k (.slice none 0 0) [] := ⟨[], Sl.nil _ _ _, rfl, fun i h => absurd h (by simp)⟩
theorem SlOf.move {S T S' : List Nat} {w w' : World} {k : Nat} {v : Value} {xs : List α} (h : SlOf R S w k v xs) (st : Stab R) (hk : 0 < k) (K : Keep T w w') (hT : ∀ b ∈ T, b ∈ S ∨ w.heap.size ≤ b) (hS : ∀ b ∈ S', b ∈ S ∨ w.heap.size ≤ b) : SlOf R S' w' k v xs := by
  obtain ⟨rows, h1, h2, h3⟩ := h
  exact ⟨rows, h1.move hk K hT hS, h2, fun i hi hi' => st _ _ _ _ _ _ _ (h3 i hi hi') K hT hS⟩
theorem SlOf.at {S : List Nat} {w : World} {k : Nat} {v : Value} {xs : List α} (h : SlOf R S w k v xs) : ∃ a c, v = .slice a xs.length c ∧ (xs.length ≤ 9223372036854775807 ∧ xs.length ≤ c) ∧
    (0 < xs.length → ∃ b o, a = some ⟨b, o, none⟩ ∧ b ∉ S ∧ ∀ i (h : i < xs.length), ∃ row : Array Value, row.size = k ∧ (∀ j, j < k → w.cell? ⟨b, o + i * k + j, none⟩ = row[j]?) ∧ R S w xs[i] row) := by
  obtain ⟨rows, ⟨a, c, hv, hm, hr⟩, h2, h3⟩ := h
  rw [h2] at hv hm
  refine ⟨a, c, hv, hm, fun hp => ?_⟩
  obtain ⟨b, o, ha, hb, hc⟩ := hr (by omega)
  refine ⟨b, o, ha, hb, fun i hi => ⟨rows[i], (hc i (by omega)).1, (hc i (by omega)).2, h3 i hi (by omega)⟩⟩

/-- The blocks in which a slice's row lies. -/
def ownB (v : Value) : List Nat := v.ownBlock.toList
/-- The slice v, made by the call from block base on, has these elements; what they lead to lies beside its row, and beside S. -/
def OwnL (R : List Nat → World → α → Array Value → Prop) (S : List Nat) (w : World) (base : Nat) (E : TypeId) (k : Nat) (v : Value) (xs : List α) : Prop :=
  ∃ rows : List (Array Value), rows.length = xs.length ∧ w.ownsRow base E k v xs.length (rows.flatMap Array.toList) ∧ ∀ i (h : i < xs.length) (h' : i < rows.length), rows[i].size = k ∧ R (ownB v ++ S) w xs[i] rows[i]
theorem OwnL.nil (S : List Nat) (w : World) (base : Nat) (E : TypeId) (k : Nat) : OwnL R S w base E k (.slice none 0 0) [] :=
  ⟨[], rfl, World.ownsRow_nil _ _ _ _, fun i h => absurd h (by simp)⟩
theorem OwnL.slice {S : List Nat} {w : World} {base : Nat} {E : TypeId} {k : Nat} {v : Value} {xs : List α} (h : OwnL R S w base E k v xs) : ∃ A C, v = .slice A xs.length C := by
  obtain ⟨rows, _, h1, _⟩ := h
  rcases h1.2 with ⟨h, h0⟩ | ⟨g, cap, cur, h, _⟩
  · exact ⟨none, 0, by rw [h, h0]⟩
  · exact ⟨_, _, h⟩
theorem OwnL.base {S : List Nat} {w : World} {base : Nat} {E : TypeId} {k : Nat} {v : Value} {xs : List α} (h : OwnL R S w base E k v xs) : ∀ b ∈ ownB v, base ≤ b ∧ b < w.heap.size := by
  obtain ⟨rows, _, h1, _⟩ := h
  intro b hb
  exact h1.lt b (by simpa [ownB] using hb)
/-- Where T turns, the row's block not among it. -/
theorem OwnL.move {S T S' : List Nat} {w w' : World} {base : Nat} {E : TypeId} {k : Nat} {v : Value} {xs : List α} (h : OwnL R S w base E k v xs) (st : Stab R) (K : Keep T w w') (hT : ∀ b ∈ T, (b ∈ S ∧ b ∉ ownB v) ∨ w.heap.size ≤ b)
    (hS : ∀ b ∈ S', b ∈ S ∨ w.heap.size ≤ b) : OwnL R S' w' base E k v xs := by
  have hlt := h.base
  obtain ⟨rows, h1, h2, h3⟩ := h
  refine ⟨rows, h1, ?_, fun i hi hi' => ⟨(h3 i hi hi').1, st _ _ _ _ _ _ _ (h3 i hi hi').2 K (fun b hb => ?_) (fun b hb => ?_)⟩⟩
  · refine ⟨h2.1, ?_⟩
    rcases h2.2 with hn | ⟨g, cap, cur, rfl, hb, hgg, rest⟩
    · exact .inl hn
    · refine .inr ⟨g, cap, cur, rfl, hb, ?_, rest⟩
      rw [K.block g (Array.getElem?_eq_some_iff.1 hgg).1 (fun hs => by
        rcases hT g hs with ⟨_, h⟩ | h
        · exact h (by simp [ownB, Value.ownBlock])
        · have := (Array.getElem?_eq_some_iff.1 hgg).1; omega)]
      exact hgg
  · rcases hT b hb with ⟨h, _⟩ | h
    · exact .inl (by simp [h])
    · exact .inr h
  · rcases List.mem_append.1 hb with h | h
    · exact .inl (by simp [h])
    · rcases hS b h with h | h
      · exact .inl (by simp [h])
      · exact .inr h
/-- Behind an append of one element. -/
theorem OwnL.append {S : List Nat} {w w' : World} {base : Nat} {E : TypeId} {k g cap : Nat} {v : Value} {xs : List α} {x : α} {row : Array Value} (rows : List (Array Value)) (h1 : rows.length = xs.length)
    (h3 : ∀ i (h : i < xs.length) (h' : i < rows.length), rows[i].size = k ∧ R (ownB v ++ S) w xs[i] rows[i]) (st : Stab R) (hx : R (ownB v ++ S) w x row) (hr : row.size = k)
    (ho : w'.ownsRow base E k (.slice (some ⟨g, 0, none⟩) (xs.length + 1) cap) (xs.length + 1) (rows.flatMap Array.toList ++ row.toList)) (hg : w.grownBy w' v.ownBlock) (hw : v.ownBlock = some g ∨ g = w.heap.size) :
    OwnL R S w' base E k (.slice (some ⟨g, 0, none⟩) (xs.length + 1) cap) (xs ++ [x]) := by
  have K : Keep (ownB v) w w' := ⟨hg.os, hg.tape, hg.output, hg.size, fun b hb hs => hg.block b hb (fun e => hs (by simp [ownB, ← e]))⟩
  have hS : ∀ b ∈ ownB (.slice (some ⟨g, 0, none⟩) (xs.length + 1) cap) ++ S, b ∈ ownB v ++ S ∨ w.heap.size ≤ b := by
    intro b hb
    rcases List.mem_append.1 hb with hb | hb
    · have : b = g := by simpa [ownB, Value.ownBlock, eq_comm] using hb
      subst this
      rcases hw with hw | hw
      · exact .inl (by simp [ownB, hw])
      · exact .inr (by omega)
    · exact .inl (by simp [hb])
  have hT : ∀ b ∈ ownB v, b ∈ ownB v ++ S ∨ w.heap.size ≤ b := fun b hb => .inl (by simp [hb])
  refine ⟨rows ++ [row], by simp [h1], ?_, fun i hi hi' => ?_⟩
  · rw [List.length_append, List.flatMap_append]
    simpa using ho
  · by_cases e : i < rows.length
    · have e2 : (xs ++ [x])[i] = xs[i]'(by omega) := List.getElem_append_left (by omega)
      have e3 : (rows ++ [row])[i] = rows[i] := List.getElem_append_left e
      rw [e2, e3]
      exact ⟨(h3 i (by omega) e).1, st _ _ _ _ _ _ _ (h3 i (by omega) e).2 K hT hS⟩
    · have e1 : i = rows.length := by simp at hi'; omega
      subst e1
      have e2 : (xs ++ [x])[rows.length] = x := by rw [List.getElem_append_right (by omega)]; simp [h1]
      have e3 : (rows ++ [row])[rows.length] = row := by rw [List.getElem_append_right (by omega)]; simp
      rw [e2, e3]
      exact ⟨hr, st _ _ _ _ _ _ _ hx K hT hS⟩
/-- What was made is read. -/
theorem OwnL.read {S S' : List Nat} {w : World} {base : Nat} {E : TypeId} {k : Nat} {v : Value} {xs : List α} (h : OwnL R S w base E k v xs) (st : Stab R) (hS : ∀ b ∈ S', b ∈ S ∨ w.heap.size ≤ b) (hv : ∀ b ∈ ownB v, b ∉ S') : SlOf R S' w k v xs := by
  have hl := h.slice
  obtain ⟨rows, h1, h2, h3⟩ := h
  refine ⟨rows, ?_, h1, fun i hi hi' => st _ _ _ _ _ _ _ (h3 i hi hi').2 (Keep.refl [] w) (by simp) (fun b hb => ?_)⟩
  · have hsz : ∀ (l : List (Array Value)), (∀ i (h : i < l.length), l[i].size = k) → ∀ i (h : i < l.length) j, j < k → (l.flatMap Array.toList)[i * k + j]? = l[i][j]? := by
      intro l
      induction l with
      | nil => intro _ i h; simp at h
      | cons a l ih =>
        intro hl i hi j hj
        have ha : a.size = k := hl 0 (by simp)
        cases i with
        | zero =>
          simp only [List.flatMap_cons, Nat.zero_mul, Nat.zero_add, List.getElem_cons_zero]
          rw [List.getElem?_append_left (by simp [ha]; exact hj)]
          simp
        | succ i =>
          simp only [List.flatMap_cons, List.getElem_cons_succ]
          rw [List.getElem?_append_right (by simp [ha, Nat.succ_mul]; omega)]
          rw [show (i + 1) * k + j - a.toList.length = i * k + j by simp [ha, Nat.succ_mul]; omega]
          exact ih (fun i h => hl (i + 1) (by simpa using h)) i (by simpa using hi) j hj
    have hszr := hsz rows (fun i hi => (h3 i (by omega) hi).1)
    obtain ⟨A, C, rfl⟩ := hl
    have hm : xs.length ≤ 9223372036854775807 ∧ xs.length ≤ C := by
      rcases h2.2 with ⟨_, h0⟩ | ⟨g, cap, cur, hv, _, _, hn, hcap, _⟩
      · omega
      · simp only [Value.slice.injEq] at hv
        unfold maxLen at hcap; omega
    refine ⟨A, C, by rw [h1], by rw [h1]; exact hm, fun hp => ?_⟩
    rcases h2.2 with ⟨_, h0⟩ | ⟨g, cap, cur, hv', _⟩
    · omega
    · simp only [Value.slice.injEq] at hv'
      obtain ⟨rfl, _, rfl⟩ := hv'
      refine ⟨g, 0, rfl, hv g (by simp [ownB, Value.ownBlock]), fun i hi => ⟨(h3 i (by omega) hi).1, fun j hj => ?_⟩⟩
      have hlt : i * k + j < xs.length * k := by
        have : (i + 1) * k ≤ xs.length * k := Nat.mul_le_mul_right k (by omega)
        rw [Nat.succ_mul] at this; omega
      rw [show (0 + i * k + j) = i * k + j by omega, h2.cellAt (i * k + j) hlt]
      exact hszr i hi j hj
  · rcases hS b hb with h | h
    · exact .inl (by simp [h])
    · exact .inr h
end
theorem Sl.stab {k : Nat} (hk : 0 < k) {S T S' : List Nat} {w w' : World} {v : Value} {xs : List (Array Value)} (h : Sl S w k v xs) (K : Keep T w w') (hT : ∀ b ∈ T, b ∈ S ∨ w.heap.size ≤ b) (hS : ∀ b ∈ S', b ∈ S ∨ w.heap.size ≤ b) : Sl S' w' k v xs := h.move hk K hT hS
end Go.Proofs.YtmfjddhckblbhaaGreatDoor
