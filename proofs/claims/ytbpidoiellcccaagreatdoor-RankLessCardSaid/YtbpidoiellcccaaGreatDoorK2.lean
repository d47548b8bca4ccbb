/- Slices of structured elements: read ('SlOf') and made by appending ('OwnL'). -/
import Derived.Test.YtbpidoiellcccaaGreatDoorK1
import Derived.Deep.AppendLies
import Derived.BigQuiet
import Derived.IntWalk
set_option linter.unusedVariables false
set_option linter.unusedSimpArgs false
namespace Go.Proofs.YtbpidoiellcccaaGreatDoor
open Go Go.RowKit

/-- A word on elements that lives on where nothing of theirs turns: T may turn, S' is what they lie beside then. -/
def Stab {α : Type} (R : List Nat → World → α → Array Value → Prop) : Prop :=
  ∀ (S T S' : List Nat) (w w' : World) (x : α) (row : Array Value), R S w x row → Keep T w w' → (∀ b ∈ T, b ∈ S ∨ w.heap.size ≤ b) → (∀ b ∈ S', b ∈ S ∨ w.heap.size ≤ b) → R S' w' x row
theorem Sl.move {S T S' : List Nat} {w w' : World} {k : Nat} {v : Value} {xs : List (Array Value)} (h : Sl S w k v xs) (hk : 0 < k) (K : Keep T w w') (hT : ∀ b ∈ T, b ∈ S ∨ w.heap.size ≤ b) (hS : ∀ b ∈ S', b ∈ S ∨ w.heap.size ≤ b) : Sl S' w' k v xs := by
  obtain ⟨a, c, hv, hm, hr⟩ := h
  refine ⟨a, c, hv, hm, fun hp => ?_⟩
  obtain ⟨b, o, ha, hb, hc⟩ := hr hp
  have hlt : b < w.heap.size := by
    have h1 := (hc 0 hp).2 0 hk
    have hs : xs[0][0]? = some (xs[0][0]'(by rw [(hc 0 hp).1]; exact hk)) := Array.getElem?_eq_getElem _
    rw [hs] at h1
    exact World.block_lt_of_cell? w _ h1
  have hnot : ∀ (L : List Nat), (∀ b ∈ L, b ∈ S ∨ w.heap.size ≤ b) → b ∉ L := fun L hL hb' => by
    rcases hL b hb' with h | h
    · exact hb h
    · omega
  refine ⟨b, o, ha, hnot S' hS, fun i hi => ⟨(hc i hi).1, fun j hj => ?_⟩⟩
  rw [← (hc i hi).2 j hj]
  exact World.cell?_of_block (w := w) (a := ⟨b, o + i * k + j, none⟩) (K.block b hlt (hnot T hT))

section
variable {α : Type} {R : List Nat → World → α → Array Value → Prop}

/-- The slice v has these elements, each of k cells. -/
def SlOf (R : List Nat → World → α → Array Value → Prop) (S : List Nat) (w : World) (k : Nat) (v : Value) (xs : List α) : Prop :=
  ∃ rows : List (Array Value), Sl S w k v rows ∧ rows.length = xs.length ∧ ∀ i (h : i < xs.length) (h' : i < rows.length), R S w xs[i] rows[i]
theorem SlOf.nil (S : List Nat) (w : World) (k : Nat) : SlOf R S w k (.slice none 0 0) [] := ⟨[], Sl.nil _ _ _, rfl, fun i h => absurd h (by simp)⟩
theorem SlOf.move {S T S' : List Nat} {w w' : World} {k : Nat} {v : Value} {xs : List α} (h : SlOf R S w k v xs) (st : Stab R) (hk : 0 < k) (K : Keep T w w') (hT : ∀ b ∈ T, b ∈ S ∨ w.heap.size ≤ b) (hS : ∀ b ∈ S', b ∈ S ∨ w.heap.size ≤ b) : SlOf R S' w' k v xs := by
  obtain ⟨rows, h1, h2, h3⟩ := h
  exact ⟨rows, h1.move hk K hT hS, h2, fun i hi hi' => st _ _ _ _ _ _ _ (h3 i hi hi') K hT hS⟩
theorem SlOf.at {S : List Nat} {w : World} {k : Nat} {v : Value} {xs : List α} (h : SlOf R S w k v xs) : ∃ a c, v = .slice a xs.length c ∧ (xs.length ≤ 9223372036854775807 ∧ xs.length ≤ c) ∧
    (0 < xs.length → ∃ b o, a = some ⟨b, o, none⟩ ∧ b ∉ S ∧ ∀ i (h : i < xs.length), ∃ row : Array Value, row.size = k ∧ (∀ j, j < k → w.cell? ⟨b, o + i * k + j, none⟩ = row[j]?) ∧ R S w xs[i] row) := by
  obtain ⟨rows, ⟨a, c, hv, hm, hr⟩, h2, h3⟩ := h
  rw [h2] at hv hm
  refine ⟨a, c, hv, hm, fun hp => ?_⟩
  obtain ⟨b, o, ha, hb, hc⟩ := hr (by omega)
  refine ⟨b, o, ha, hb, fun i hi => ⟨rows[i], (hc i (by omega)).1, (hc i (by omega)).2, h3 i hi (by omega)⟩⟩

/-- The blocks in which a slice's row lies. -/
def ownB (v : Value) : List Nat := v.ownBlock.toList
/-- The slice v, made by the call from block base on, has these elements; what they lead to lies beside its row, and beside S. -/
def OwnL (R : List Nat → World → α → Array Value → Prop) (S : List Nat) (w : World) (base : Nat) (E : TypeId) (k : Nat) (v : Value) (xs : List α) : Prop :=
  ∃ rows : List (Array Value), rows.length = xs.length ∧ w.ownsRow base E k v xs.length (rows.flatMap Array.toList) ∧ ∀ i (h : i < xs.length) (h' : i < rows.length), rows[i].size = k ∧ R (ownB v ++ S) w xs[i] rows[i]
theorem OwnL.nil (S : List Nat) (w : World) (base : Nat) (E : TypeId) (k : Nat) : OwnL R S w base E k (.slice none 0 0) [] :=
  ⟨[], rfl, World.ownsRow_nil _ _ _ _, fun i h => absurd h (by simp)⟩
theorem OwnL.slice {S : List Nat} {w : World} {base : Nat} {E : TypeId} {k : Nat} {v : Value} {xs : List α} (h : OwnL R S w base E k v xs) : ∃ A C, v = .slice A xs.length C := by
  obtain ⟨rows, _, h1, _⟩ := h
  rcases h1.2 with ⟨h, h0⟩ | ⟨g, cap, cur, h, _⟩
  · exact ⟨none, 0, by rw [h, h0]⟩
  · exact ⟨_, _, h⟩
theorem OwnL.base {S : List Nat} {w : World} {base : Nat} {E : TypeId} {k : Nat} {v : Value} {xs : List α} (h : OwnL R S w base E k v xs) : ∀ b ∈ ownB v, base ≤ b ∧ b < w.heap.size := by
  obtain ⟨rows, _, h1, _⟩ := h
  intro b hb
  exact h1.lt b (by simpa [ownB] using hb)
/-- Where T turns, the row's block not among it. -/
theorem OwnL.move {S T S' : List Nat} {w w' : World} {base : Nat} {E : TypeId} {k : Nat} {v : Value} {xs : List α} (h : OwnL R S w base E k v xs) (st : Stab R) (K : Keep T w w') (hT : ∀ b ∈ T, (b ∈ S ∧ b ∉ ownB v) ∨ w.heap.size ≤ b)
    (hS : ∀ b ∈ S', b ∈ S ∨ w.heap.size ≤ b) : OwnL R S' w' base E k v xs := by
  have hlt := h.base
  obtain ⟨rows, h1, h2, h3⟩ := h
  refine ⟨rows, h1, ?_, fun i hi hi' => ⟨(h3 i hi hi').1, st _ _ _ _ _ _ _ (h3 i hi hi').2 K (fun b hb => ?_) (fun b hb => ?_)⟩⟩
  · refine ⟨h2.1, ?_⟩
    rcases h2.2 with hn | ⟨g, cap, cur, rfl, hb, hgg, rest⟩
    · exact .inl hn
    · refine .inr ⟨g, cap, cur, rfl, hb, ?_, rest⟩
      rw [K.block g (Array.getElem?_eq_some_iff.1 hgg).1 (fun hs => by
        rcases hT g hs with ⟨_, h⟩ | h
        · exact h (by simp [ownB, Value.ownBlock])
        · have := (Array.getElem?_eq_some_iff.1 hgg).1; omega)]
      exact hgg
  · rcases hT b hb with ⟨h, _⟩ | h
    · exact .inl (by simp [h])
    · exact .inr h
  · rcases List.mem_append.1 hb with h | h
    · exact .inl (by simp [h])
    · rcases hS b h with h | h
      · exact .inl (by simp [h])
      · exact .inr h
/-- Behind an append of one element. -/
theorem OwnL.append {S : List Nat} {w w' : World} {base : Nat} {E : TypeId} {k g cap : Nat} {v : Value} {xs : List α} {x : α} {row : Array Value} (rows : List (Array Value)) (h1 : rows.length = xs.length)
    (h3 : ∀ i (h : i < xs.length) (h' : i < rows.length), rows[i].size = k ∧ R (ownB v ++ S) w xs[i] rows[i]) (st : Stab R) (hx : R (ownB v ++ S) w x row) (hr : row.size = k)
    (ho : w'.ownsRow base E k (.slice (some ⟨g, 0, none⟩) (xs.length + 1) cap) (xs.length + 1) (rows.flatMap Array.toList ++ row.toList)) (hg : w.grownBy w' v.ownBlock) (hw : v.ownBlock = some g ∨ g = w.heap.size) :
    OwnL R S w' base E k (.slice (some ⟨g, 0, none⟩) (xs.length + 1) cap) (xs ++ [x]) := by
  have K : Keep (ownB v) w w' := ⟨hg.os, hg.tape, hg.output, hg.size, fun b hb hs => hg.block b hb (fun e => hs (by simp [ownB, ← e]))⟩
  have hS : ∀ b ∈ ownB (.slice (some ⟨g, 0, none⟩) (xs.length + 1) cap) ++ S, b ∈ ownB v ++ S ∨ w.heap.size ≤ b := by
    intro b hb
    rcases List.mem_append.1 hb with hb | hb
    · have : b = g := by simpa [ownB, Value.ownBlock, eq_comm] using hb
      subst this
      rcases hw with hw | hw
      · exact .inl (by simp [ownB, hw])
      · exact .inr (by omega)
    · exact .inl (by simp [hb])
  have hT : ∀ b ∈ ownB v, b ∈ ownB v ++ S ∨ w.heap.size ≤ b := fun b hb => .inl (by simp [hb])
  refine ⟨rows ++ [row], by simp [h1], ?_, fun i hi hi' => ?_⟩
  · rw [List.length_append, List.flatMap_append]
    simpa using ho
  · by_cases e : i < rows.length
    · have e2 : (xs ++ [x])[i] = xs[i]'(by omega) := List.getElem_append_left (by omega)
      have e3 : (rows ++ [row])[i] = rows[i] := List.getElem_append_left e
      rw [e2, e3]
      exact ⟨(h3 i (by omega) e).1, st _ _ _ _ _ _ _ (h3 i (by omega) e).2 K hT hS⟩
    · have e1 : i = rows.length := by simp at hi'; omega
      subst e1
      have e2 : (xs ++ [x])[rows.length] = x := by rw [List.getElem_append_right (by omega)]; simp [h1]
      have e3 : (rows ++ [row])[rows.length] = row := by rw [List.getElem_append_right (by omega)]; simp
      rw [e2, e3]
      exact ⟨hr, st _ _ _ _ _ _ _ hx K hT hS⟩
/-- What was made is read. -/
theorem OwnL.read {S S' : List Nat} {w : World} {base : Nat} {E : TypeId} {k : Nat} {v : Value} {xs : List α} (h : OwnL R S w base E k v xs) (st : Stab R) (hS : ∀ b ∈ S', b ∈ S ∨ w.heap.size ≤ b) (hv : ∀ b ∈ ownB v, b ∉ S') : SlOf R S' w k v xs := by
  have hl := h.slice
  obtain ⟨rows, h1, h2, h3⟩ := h
  refine ⟨rows, ?_, h1, fun i hi hi' => st _ _ _ _ _ _ _ (h3 i hi hi').2 (Keep.refl [] w) (by simp) (fun b hb => ?_)⟩
  · have hsz : ∀ (l : List (Array Value)), (∀ i (h : i < l.length), l[i].size = k) → ∀ i (h : i < l.length) j, j < k → (l.flatMap Array.toList)[i * k + j]? = l[i][j]? := by
      intro l
      induction l with
      | nil => intro _ i h; simp at h
      | cons a l ih =>
        intro hl i hi j hj
        have ha : a.size = k := hl 0 (by simp)
        cases i with
        | zero =>
          simp only [List.flatMap_cons, Nat.zero_mul, Nat.zero_add, List.getElem_cons_zero]
          rw [List.getElem?_append_left (by simp [ha]; exact hj)]
          simp
        | succ i =>
          simp only [List.flatMap_cons, List.getElem_cons_succ]
          rw [List.getElem?_append_right (by simp [ha, Nat.succ_mul]; omega)]
          rw [show (i + 1) * k + j - a.toList.length = i * k + j by simp [ha, Nat.succ_mul]; omega]
          exact ih (fun i h => hl (i + 1) (by simpa using h)) i (by simpa using hi) j hj
    have hszr := hsz rows (fun i hi => (h3 i (by omega) hi).1)
    obtain ⟨A, C, rfl⟩ := hl
    have hm : xs.length ≤ 9223372036854775807 ∧ xs.length ≤ C := by
      rcases h2.2 with ⟨_, h0⟩ | ⟨g, cap, cur, hv, _, _, hn, hcap, _⟩
      · omega
      · simp only [Value.slice.injEq] at hv
        unfold maxLen at hcap; omega
    refine ⟨A, C, by rw [h1], by rw [h1]; exact hm, fun hp => ?_⟩
    rcases h2.2 with ⟨_, h0⟩ | ⟨g, cap, cur, hv', _⟩
    · omega
    · simp only [Value.slice.injEq] at hv'
      obtain ⟨rfl, _, rfl⟩ := hv'
      refine ⟨g, 0, rfl, hv g (by simp [ownB, Value.ownBlock]), fun i hi => ⟨(h3 i (by omega) hi).1, fun j hj => ?_⟩⟩
      have hlt : i * k + j < xs.length * k := by
        have : (i + 1) * k ≤ xs.length * k := Nat.mul_le_mul_right k (by omega)
        rw [Nat.succ_mul] at this; omega
      rw [show (0 + i * k + j) = i * k + j by omega, h2.cellAt (i * k + j) hlt]
      exact hszr i hi j hj
  · rcases hS b hb with h | h
    · exact .inl (by simp [h])
    · exact .inr h
end
theorem Sl.stab {k : Nat} (hk : 0 < k) {S T S' : List Nat} {w w' : World} {v : Value} {xs : List (Array Value)} (h : Sl S w k v xs) (K : Keep T w w') (hT : ∀ b ∈ T, b ∈ S ∨ w.heap.size ≤ b) (hS : ∀ b ∈ S', b ∈ S ∨ w.heap.size ≤ b) : Sl S' w' k v xs := h.move hk K hT hS
end Go.Proofs.YtbpidoiellcccaaGreatDoor
namespace Go.Proofs.YtbpidoiellcccaaGreatDoor
open Go Go.RowKit

structure SymS where
  k : Int
  r : List Rng
  n : Int
def SymRow (S : List Nat) (w : World) (x : SymS) (row : Array Value) : Prop := ∃ A C, row = #[.int .i64 x.k, .slice A x.r.length C, .int .i64 x.n] ∧ Rngs S w (.slice A x.r.length C) x.r
theorem symRow_stab : Stab SymRow := by
  rintro S T S' w w' x row ⟨A, C, h1, h2⟩ K hT hS
  exact ⟨A, C, h1, Sl.move h2 (by omega) K hT hS⟩
abbrev Syms (S : List Nat) (w : World) (v : Value) (l : List SymS) : Prop := SlOf SymRow S w 3 v l
def AltRow (S : List Nat) (w : World) (l : List SymS) (row : Array Value) : Prop := ∃ A C, row = #[.slice A l.length C] ∧ Syms S w (.slice A l.length C) l
theorem altRow_stab : Stab AltRow := by
  rintro S T S' w w' x row ⟨A, C, h1, h2⟩ K hT hS
  exact ⟨A, C, h1, SlOf.move h2 symRow_stab (by omega) K hT hS⟩
abbrev Alts (S : List Nat) (w : World) (v : Value) (l : List (List SymS)) : Prop := SlOf AltRow S w 1 v l
structure ProdS where
  a : List (List SymS)
  marks : Int
  nt : List Rng
def ProdRow (S : List Nat) (w : World) (p : ProdS) (row : Array Value) : Prop := ∃ A C N F, row = #[.slice A p.a.length C, .int .i64 p.marks, .slice N p.nt.length F] ∧ Alts S w (.slice A p.a.length C) p.a ∧ Rngs S w (.slice N p.nt.length F) p.nt
theorem prodRow_stab : Stab ProdRow := by
  rintro S T S' w w' x row ⟨A, C, N, F, h1, h2, h3⟩ K hT hS
  exact ⟨A, C, N, F, h1, SlOf.move h2 altRow_stab (by omega) K hT hS, Sl.move h3 (by omega) K hT hS⟩
abbrev Prods (S : List Nat) (w : World) (v : Value) (l : List ProdS) : Prop := SlOf ProdRow S w 3 v l

/-- What is asked of a predicate that is handed on: it only reads, and lays new blocks. -/
def Pred {α : Type} (R : List Nat → World → α → Array Value → Prop) (S : List Nat) (w : World) (g : Nat) (cap : Array Value) (arg : Array Value → Value) (pr : α → Bool) : Prop :=
  (∀ args w, (callFunc g args).run Tryz.prog w = .ok (.enter g args) w) ∧ ∀ (x : α) (row : Array Value) (w' : World), Keep [] w w' → R S w' x row → Calls Tryz.prog g (#[arg row] ++ cap) w' fun e w'' => e = .returned (.bool (pr x)) ∧ Keep [] w' w''
/-- The same of the elements of a list alone. -/
def PredOn {α : Type} (l : List α) (R : List Nat → World → α → Array Value → Prop) (S : List Nat) (w : World) (g : Nat) (cap : Array Value) (arg : Array Value → Value) (pr : α → Bool) : Prop :=
  (∀ args w, (callFunc g args).run Tryz.prog w = .ok (.enter g args) w) ∧ ∀ x ∈ l, ∀ (row : Array Value) (w' : World), Keep [] w w' → R S w' x row → Calls Tryz.prog g (#[arg row] ++ cap) w' fun e w'' => e = .returned (.bool (pr x)) ∧ Keep [] w' w''
theorem Pred.on {α : Type} {R : List Nat → World → α → Array Value → Prop} {S : List Nat} {w : World} {g : Nat} {cap : Array Value} {arg : Array Value → Value} {pr : α → Bool} (h : Pred R S w g cap arg pr) (l : List α) : PredOn l R S w g cap arg pr := ⟨h.1, fun x _ => h.2 x⟩
theorem any_drop {α : Type} (pr : α → Bool) (l : List α) (k : Nat) (h : ∀ j (hj : j < k) (hl : j < l.length), pr l[j] = false) : l.any pr = (l.drop k).any pr := by
  conv => lhs; rw [← List.take_append_drop k l]
  rw [List.any_append]
  have : (l.take k).any pr = false := by
    rw [List.any_eq_false]
    intro x hx
    obtain ⟨j, hj, rfl⟩ := List.getElem_of_mem hx
    rw [List.length_take] at hj
    rw [List.getElem_take, h j (by omega) (by omega)]
    simp
  rw [this]; rfl

set_option maxHeartbeats 2000000 in
theorem symIndexOn_any (S : List Nat) (v : Value) (l : List SymS) (g : Nat) (cap : Array Value) (pr : SymS → Bool) (w : World) (H : Syms S w v l) (hp : PredOn l SymRow S w g cap (fun row => .agg row) pr) :
    Calls Tryz.prog 57 #[v, .func (.func g) #[] cap] w fun e w' => (∃ i : Int, e = .returned (.int .i64 i) ∧ decide (0 ≤ i) = l.any pr) ∧ Keep [] w w' := by
  obtain ⟨hg, hp⟩ := hp
  obtain ⟨A, C, rfl, hm, hr⟩ := SlOf.at H
  go_enter Tryz.func57, Tryz.ntmps57
  go_wp2
  go_loopw [5, 8] (fun _ i wr => ∃ k : Nat, k ≤ l.length ∧ i = .int .i64 k ∧ Hid (∀ j (hj : j < k) (hl : j < l.length), pr l[j] = false) ∧ Keep [] w wr) (fun _ i _ => l.length - (intOf i).toNat)
  case atStart => exact ⟨0, by omega, rfl, Lib.hid (fun j hj => by omega), Keep.refl _ _⟩
  case round =>
    obtain ⟨k, hk, rfl, hn, Kr⟩ := hrel
    by_cases hlt : k < l.length
    · have hlt' : (k : Int) < (l.length : Int) := by omega
      have HW : Syms S wr (.slice A l.length C) l := SlOf.move H symRow_stab (by omega) Kr (by simp) (fun x hx => .inl hx)
      obtain ⟨A2, C2, hv, _, hr2⟩ := SlOf.at HW
      simp only [Value.slice.injEq, true_and] at hv
      obtain ⟨rfl, rfl⟩ := hv
      obtain ⟨b, o, rfl, hb, hc⟩ := hr2 (by omega)
      obtain ⟨row, hz, hcell, hR⟩ := hc k hlt
      have hR' := hR
      obtain ⟨A3, C3, rfl, hR3⟩ := hR'
      have e0 := hcell 0 (by omega)
      have e1 := hcell 1 (by omega)
      have e2 := hcell 2 (by omega)
      have hcall := hp l[k] (List.getElem_mem _) _ wr Kr hR
      clear hr hr2 hc hcell hp HW hR hR3 H
      simp at e0 e1 e2
      have HLT := Lib.hid hlt
      go_wp2
      refine hcall.mono ?_
      rintro e w2 ⟨rfl, K2⟩
      have hlt := HLT.out
      cases hq : pr l[k]
      · have hn2 : Hid (∀ j (hj : j < k + 1) (hl : j < l.length), pr l[j] = false) := Lib.hid (fun j hj hl => by
          by_cases e : j = k
          · subst e; exact hq
          · exact hn.out j (by omega) hl)
        clear e0 e1 e2 hcall hn
        go_wp2
        go_roundw
        case rel => exact ⟨k + 1, by omega, by go_num, hn2, Kr.trans K2⟩
        case measure => simp [intOf]; omega
      · have hany : l.any pr = true := List.any_eq_true.2 ⟨l[k], List.getElem_mem _, hq⟩
        clear e0 e1 e2 hcall hn
        go_wp2
        go_ret
        exact ⟨⟨k, rfl, by rw [hany]; simp⟩, Kr.trans K2⟩
    · have hany : l.any pr = false := by
        rw [List.any_eq_false]
        intro x hx
        obtain ⟨j, hj, rfl⟩ := List.getElem_of_mem hx
        simp [hn.out j (by omega) hj]
      go_wp2
      go_ret
      exact ⟨⟨-1, rfl, by rw [hany]; rfl⟩, Kr⟩
theorem symIndex_any (S : List Nat) (v : Value) (l : List SymS) (g : Nat) (cap : Array Value) (pr : SymS → Bool) (w : World) (H : Syms S w v l) (hp : Pred SymRow S w g cap (fun row => .agg row) pr) :
    Calls Tryz.prog 57 #[v, .func (.func g) #[] cap] w fun e w' => (∃ i : Int, e = .returned (.int .i64 i) ∧ decide (0 ≤ i) = l.any pr) ∧ Keep [] w w' :=
  symIndexOn_any S v l g cap pr w H (hp.on l)
set_option maxHeartbeats 2000000 in
theorem symContainsOn_any (S : List Nat) (v : Value) (l : List SymS) (g : Nat) (cap : Array Value) (pr : SymS → Bool) (w : World) (H : Syms S w v l) (hp : PredOn l SymRow S w g cap (fun row => .agg row) pr) :
    Calls Tryz.prog 35 #[v, .func (.func g) #[] cap] w fun e w' => e = .returned (.bool (l.any pr)) ∧ Keep [] w w' := by
  go_enter Tryz.func35, Tryz.ntmps35
  go_wp2_with fail
  refine (symIndexOn_any S v l g cap pr w H hp).mono ?_
  rintro e w1 ⟨⟨i, rfl, hi⟩, K⟩
  go_wp2
  go_ret
  exact ⟨by rw [← hi]; rfl, K⟩
theorem symContains_any (S : List Nat) (v : Value) (l : List SymS) (g : Nat) (cap : Array Value) (pr : SymS → Bool) (w : World) (H : Syms S w v l) (hp : Pred SymRow S w g cap (fun row => .agg row) pr) :
    Calls Tryz.prog 35 #[v, .func (.func g) #[] cap] w fun e w' => e = .returned (.bool (l.any pr)) ∧ Keep [] w w' :=
  symContainsOn_any S v l g cap pr w H (hp.on l)
set_option maxHeartbeats 2000000 in
theorem altIndexOn_any (S : List Nat) (v : Value) (l : List (List SymS)) (g : Nat) (cap : Array Value) (pr : List SymS → Bool) (w : World) (H : SlOf AltRow S w 1 v l) (hp : PredOn l AltRow S w g cap (fun row => row.getD 0 undef) pr) :
    Calls Tryz.prog 58 #[v, .func (.func g) #[] cap] w fun e w' => (∃ i : Int, e = .returned (.int .i64 i) ∧ decide (0 ≤ i) = l.any pr) ∧ Keep [] w w' := by
  obtain ⟨hg, hp⟩ := hp
  obtain ⟨A, C, rfl, hm, hr⟩ := SlOf.at H
  go_enter Tryz.func58, Tryz.ntmps58
  go_wp2
  go_loopw [5, 8] (fun _ i wr => ∃ k : Nat, k ≤ l.length ∧ i = .int .i64 k ∧ Hid (∀ j (hj : j < k) (hl : j < l.length), pr l[j] = false) ∧ Keep [] w wr) (fun _ i _ => l.length - (intOf i).toNat)
  case atStart => exact ⟨0, by omega, rfl, Lib.hid (fun j hj => by omega), Keep.refl _ _⟩
  case round =>
    obtain ⟨k, hk, rfl, hn, Kr⟩ := hrel
    by_cases hlt : k < l.length
    · have hlt' : (k : Int) < (l.length : Int) := by omega
      have HW : SlOf AltRow S wr 1 (.slice A l.length C) l := SlOf.move H altRow_stab (by omega) Kr (by simp) (fun x hx => .inl hx)
      obtain ⟨A2, C2, hv, _, hr2⟩ := SlOf.at HW
      simp only [Value.slice.injEq, true_and] at hv
      obtain ⟨rfl, rfl⟩ := hv
      obtain ⟨b, o, rfl, hb, hc⟩ := hr2 (by omega)
      obtain ⟨row, hz, hcell, hR⟩ := hc k hlt
      have hR' := hR
      obtain ⟨A3, C3, rfl, hR3⟩ := hR'
      have e0 := hcell 0 (by omega)
      have hcall := hp l[k] (List.getElem_mem _) _ wr Kr hR
      clear hr hr2 hc hcell hp HW hR hR3 H
      simp at e0
      have HLT := Lib.hid hlt
      go_wp2
      refine hcall.mono ?_
      rintro e w2 ⟨rfl, K2⟩
      have hlt := HLT.out
      cases hq : pr l[k]
      · have hn2 : Hid (∀ j (hj : j < k + 1) (hl : j < l.length), pr l[j] = false) := Lib.hid (fun j hj hl => by
          by_cases e : j = k
          · subst e; exact hq
          · exact hn.out j (by omega) hl)
        clear e0 hcall hn
        go_wp2
        go_roundw
        case rel => exact ⟨k + 1, by omega, by go_num, hn2, Kr.trans K2⟩
        case measure => simp [intOf]; omega
      · have hany : l.any pr = true := List.any_eq_true.2 ⟨l[k], List.getElem_mem _, hq⟩
        clear e0 hcall hn
        go_wp2
        go_ret
        exact ⟨⟨k, rfl, by rw [hany]; simp⟩, Kr.trans K2⟩
    · have hany : l.any pr = false := by
        rw [List.any_eq_false]
        intro x hx
        obtain ⟨j, hj, rfl⟩ := List.getElem_of_mem hx
        simp [hn.out j (by omega) hj]
      go_wp2
      go_ret
      exact ⟨⟨-1, rfl, by rw [hany]; rfl⟩, Kr⟩
theorem altIndex_any (S : List Nat) (v : Value) (l : List (List SymS)) (g : Nat) (cap : Array Value) (pr : List SymS → Bool) (w : World) (H : SlOf AltRow S w 1 v l) (hp : Pred AltRow S w g cap (fun row => row.getD 0 undef) pr) :
    Calls Tryz.prog 58 #[v, .func (.func g) #[] cap] w fun e w' => (∃ i : Int, e = .returned (.int .i64 i) ∧ decide (0 ≤ i) = l.any pr) ∧ Keep [] w w' :=
  altIndexOn_any S v l g cap pr w H (hp.on l)
set_option maxHeartbeats 2000000 in
theorem altContainsOn_any (S : List Nat) (v : Value) (l : List (List SymS)) (g : Nat) (cap : Array Value) (pr : List SymS → Bool) (w : World) (H : SlOf AltRow S w 1 v l) (hp : PredOn l AltRow S w g cap (fun row => row.getD 0 undef) pr) :
    Calls Tryz.prog 37 #[v, .func (.func g) #[] cap] w fun e w' => e = .returned (.bool (l.any pr)) ∧ Keep [] w w' := by
  go_enter Tryz.func37, Tryz.ntmps37
  go_wp2_with fail
  refine (altIndexOn_any S v l g cap pr w H hp).mono ?_
  rintro e w1 ⟨⟨i, rfl, hi⟩, K⟩
  go_wp2
  go_ret
  exact ⟨by rw [← hi]; rfl, K⟩
theorem altContains_any (S : List Nat) (v : Value) (l : List (List SymS)) (g : Nat) (cap : Array Value) (pr : List SymS → Bool) (w : World) (H : SlOf AltRow S w 1 v l) (hp : Pred AltRow S w g cap (fun row => row.getD 0 undef) pr) :
    Calls Tryz.prog 37 #[v, .func (.func g) #[] cap] w fun e w' => e = .returned (.bool (l.any pr)) ∧ Keep [] w w' :=
  altContainsOn_any S v l g cap pr w H (hp.on l)

def RngRow (_S : List Nat) (_w : World) (x : Rng) (row : Array Value) : Prop := row = #[.int .i64 x.lo, .int .i64 x.hi]
theorem rngRow_stab : Stab RngRow := fun _ _ _ _ _ _ _ h _ _ _ => h
theorem Rngs.of {S : List Nat} {w : World} {v : Value} {l : List Rng} (h : Rngs S w v l) : SlOf RngRow S w 2 v l := ⟨_, h, by simp, fun i hi hi' => by simp [RngRow, Rng.row]⟩
set_option maxHeartbeats 2000000 in
theorem rngIndex_any (S : List Nat) (v : Value) (l : List (Rng)) (g : Nat) (cap : Array Value) (pr : Rng → Bool) (w : World) (H : SlOf RngRow S w 2 v l) (hp : Pred RngRow S w g cap (fun row => .agg row) pr) :
    Calls Tryz.prog 76 #[v, .func (.func g) #[] cap] w fun e w' => (∃ i : Int, e = .returned (.int .i64 i) ∧ decide (0 ≤ i) = l.any pr) ∧ Keep [] w w' := by
  obtain ⟨hg, hp⟩ := hp
  obtain ⟨A, C, rfl, hm, hr⟩ := SlOf.at H
  go_enter Tryz.func76, Tryz.ntmps76
  go_wp2
  go_loopw [5, 8] (fun _ i wr => ∃ k : Nat, k ≤ l.length ∧ i = .int .i64 k ∧ Hid (∀ j (hj : j < k) (hl : j < l.length), pr l[j] = false) ∧ Keep [] w wr) (fun _ i _ => l.length - (intOf i).toNat)
  case atStart => exact ⟨0, by omega, rfl, Lib.hid (fun j hj => by omega), Keep.refl _ _⟩
  case round =>
    obtain ⟨k, hk, rfl, hn, Kr⟩ := hrel
    by_cases hlt : k < l.length
    · have hlt' : (k : Int) < (l.length : Int) := by omega
      have HW : SlOf RngRow S wr 2 (.slice A l.length C) l := SlOf.move H rngRow_stab (by omega) Kr (by simp) (fun x hx => .inl hx)
      obtain ⟨A2, C2, hv, _, hr2⟩ := SlOf.at HW
      simp only [Value.slice.injEq, true_and] at hv
      obtain ⟨rfl, rfl⟩ := hv
      obtain ⟨b, o, rfl, hb, hc⟩ := hr2 (by omega)
      obtain ⟨row, hz, hcell, hR⟩ := hc k hlt
      have hR' := hR
      have hR3 : True := trivial
      subst hR'
      have e0 := hcell 0 (by omega)
      have e1 := hcell 1 (by omega)
      have hcall := hp l[k] _ wr Kr hR
      clear hr hr2 hc hcell hp HW hR hR3 H
      simp at e0 e1
      have HLT := Lib.hid hlt
      go_wp2
      refine hcall.mono ?_
      rintro e w2 ⟨rfl, K2⟩
      have hlt := HLT.out
      cases hq : pr l[k]
      · have hn2 : Hid (∀ j (hj : j < k + 1) (hl : j < l.length), pr l[j] = false) := Lib.hid (fun j hj hl => by
          by_cases e : j = k
          · subst e; exact hq
          · exact hn.out j (by omega) hl)
        clear e0 e1 hcall hn
        go_wp2
        go_roundw
        case rel => exact ⟨k + 1, by omega, by go_num, hn2, Kr.trans K2⟩
        case measure => simp [intOf]; omega
      · have hany : l.any pr = true := List.any_eq_true.2 ⟨l[k], List.getElem_mem _, hq⟩
        clear e0 e1 hcall hn
        go_wp2
        go_ret
        exact ⟨⟨k, rfl, by rw [hany]; simp⟩, Kr.trans K2⟩
    · have hany : l.any pr = false := by
        rw [List.any_eq_false]
        intro x hx
        obtain ⟨j, hj, rfl⟩ := List.getElem_of_mem hx
        simp [hn.out j (by omega) hj]
      go_wp2
      go_ret
      exact ⟨⟨-1, rfl, by rw [hany]; rfl⟩, Kr⟩
set_option maxHeartbeats 2000000 in
theorem rngContains_any (S : List Nat) (v : Value) (l : List (Rng)) (g : Nat) (cap : Array Value) (pr : Rng → Bool) (w : World) (H : SlOf RngRow S w 2 v l) (hp : Pred RngRow S w g cap (fun row => .agg row) pr) :
    Calls Tryz.prog 55 #[v, .func (.func g) #[] cap] w fun e w' => e = .returned (.bool (l.any pr)) ∧ Keep [] w w' := by
  go_enter Tryz.func55, Tryz.ntmps55
  go_wp2_with fail
  refine (rngIndex_any S v l g cap pr w H hp).mono ?_
  rintro e w1 ⟨⟨i, rfl, hi⟩, K⟩
  go_wp2
  go_ret
  exact ⟨by rw [← hi]; rfl, K⟩
end Go.Proofs.YtbpidoiellcccaaGreatDoor
namespace Go.Proofs.YtbpidoiellcccaaGreatDoor
open Go Go.RowKit

def rngAt (l : List Rng) (i : Nat) : Rng := l.getD i ⟨0, 0⟩
def badAt (l : List Rng) (i : Nat) : Bool := decide ((rngAt l i).lo < 0) || decide ((rngAt l i).hi < (rngAt l i).lo) || decide (1114111 < (rngAt l i).hi) || (decide (0 < i) && decide ((rngAt l i).lo - 1 ≤ (rngAt l (i - 1)).hi))
/-- Are ranges in order? -/
def rmay (l : List Rng) : Bool := !(List.range l.length).any (badAt l)

set_option maxRecDepth 20000 in
set_option maxHeartbeats 4000000 in
theorem rmay_any (S : List Nat) (v : Value) (l : List Rng) (w : World) (H : Rngs S w v l) :
    Calls Tryz.prog 36 #[v] w fun e w' => e = .returned (.bool (rmay l)) ∧ Keep [] w w' := by
  obtain ⟨A, C, hv, hm, hr⟩ := SlOf.at (Rngs.of H)
  subst hv
  go_enter Tryz.func36, Tryz.ntmps36
  go_wp2
  go_loopw [7] (fun i wr => ∃ k : Nat, k ≤ l.length ∧ i = .int .i64 k ∧ Hid (∀ j, j < k → badAt l j = false) ∧ Keep [] w wr) (fun i _ => l.length - (intOf i).toNat)
  case atStart => exact ⟨0, by omega, rfl, Lib.hid (fun j hj => by omega), Keep.refl _ _⟩
  case round =>
    obtain ⟨k, hk, rfl, hn, Kr⟩ := hrel
    by_cases hlt : k < l.length
    · have hlt' : (k : Int) < (l.length : Int) := by omega
      have HW : SlOf RngRow S wr 2 (.slice A l.length C) l := SlOf.move (Rngs.of H) rngRow_stab (by omega) Kr (by simp) (fun x hx => .inl hx)
      obtain ⟨A2, C2, hv, _, hr2⟩ := SlOf.at HW
      simp only [Value.slice.injEq, true_and] at hv
      obtain ⟨rfl, rfl⟩ := hv
      obtain ⟨b, o, rfl, hb, hc⟩ := hr2 (by omega)
      obtain ⟨row, hz, hcell, hR⟩ := hc k hlt
      have hR' : row = #[.int .i64 l[k].lo, .int .i64 l[k].hi] := hR
      have e0 := hcell 0 (by omega)
      have e1 := hcell 1 (by omega)
      rw [hR'] at e0 e1
      simp at e0 e1
      have hat : rngAt l k = l[k] := by simp [rngAt, hlt]
      have hbk : badAt l k = (decide (l[k].lo < 0) || decide (l[k].hi < l[k].lo) || decide (1114111 < l[k].hi) || (decide (0 < k) && decide (l[k].lo - 1 ≤ (rngAt l (k - 1)).hi))) := by rw [badAt, hat]
      have hp : 0 < k → wr.cell? ⟨b, o + (k - 1) * 2 + 1, none⟩ = some (.int .i64 (rngAt l (k - 1)).hi) := fun h0 => by
        obtain ⟨row1, hz1, hcell1, hR1⟩ := hc (k - 1) (by omega)
        have hR1' : row1 = #[.int .i64 l[k - 1].lo, .int .i64 l[k - 1].hi] := hR1
        have e := hcell1 1 (by omega)
        rw [hR1'] at e
        have hat1 : rngAt l (k - 1) = l[k - 1]'(by omega) := by simp [rngAt, show k - 1 < l.length by omega]
        rw [hat1]
        simpa using e
      generalize hlo : l[k].lo = lo at *
      generalize hhi : l[k].hi = hi at *
      clear hr hr2 hc hcell HW hR hR' hz H hat hlo hhi row
      have HBK := Lib.hid hbk; clear hbk
      have HP := Lib.hid hp; clear hp
      have HLT := Lib.hid hlt
      cases h1 : decide (lo < 0)
      · cases h2 : decide (hi < lo)
        · cases h3 : decide (1114111 < hi)
          · have g1 : ¬lo < 0 := by simpa using h1
            have g2 : ¬hi < lo := by simpa using h2
            have g3 : ¬1114111 < hi := by simpa using h3
            cases h4 : decide ((0 : Int) < (k : Int))
            · have h4' : decide (0 < k) = false := by simp at h4 ⊢; omega
              have hb : badAt l k = false := by rw [HBK.out]; rw [h1, h2, h3, h4']; rfl
              have hn2 : Hid (∀ j, j < k + 1 → badAt l j = false) := Lib.hid (fun j hj => by
                by_cases e : j = k
                · rw [e]; exact hb
                · exact hn.out j (by omega))
              clear hb hn
              clear g1 g2 g3
              go_wp2
              go_quiet (fail)
              go_wp2
              have hlt := HLT.out
              go_roundw
              case rel => exact ⟨k + 1, by omega, by go_num, hn2, (Kr.alloc _).drewN _⟩
              case measure => simp [intOf]; omega
            · have h0 : 0 < k := by simp at h4; omega
              have h4' : decide (0 < k) = true := by simpa using h0
              have e2 := HP.out h0
              generalize hq : (rngAt l (k - 1)).hi = q at *
              obtain ⟨m, rfl⟩ : ∃ m, k = m + 1 := ⟨k - 1, by omega⟩
              rw [show m + 1 - 1 = m by omega] at e2 hq
              have hw1 : IntKind.i64.wrap (lo - 1) = lo - 1 := IntWalk.i64_in _ (by omega)
              have hw2 : IntKind.i64.wrap ((m : Int) + 1 - 1) = (m : Int) := by rw [show (m : Int) + 1 - 1 = m by omega]; exact IntWalk.i64_in _ (by omega)
              have hw3 : IntKind.i64.wrap (m : Int) = (m : Int) := IntWalk.i64_in _ (by omega)
              have hbl : b < wr.heap.size := World.block_lt_of_cell? wr _ e2
              have hk1 : (0 : Int) ≤ (m : Int) := by omega
              have hk2 : (m : Int) < (l.length : Int) := by omega
              cases h5 : decide (lo - 1 ≤ q)
              · clear g1 g2 g3
                have hb : badAt l (m + 1) = false := by rw [HBK.out]; rw [h1, h2, h3, h4', h5]; rfl
                have hn2 : Hid (∀ j, j < m + 1 + 1 → badAt l j = false) := Lib.hid (fun j hj => by
                  by_cases e : j = m + 1
                  · rw [e]; exact hb
                  · exact hn.out j (by omega))
                clear hb hn
                go_wp2
                go_quiet (fail)
                go_wp2
                have hlt := HLT.out
                go_roundw
                case rel => exact ⟨m + 1 + 1, by omega, by go_num, hn2, (Kr.alloc _).drewN _⟩
                case measure => simp [intOf]; omega
              · clear g1 g2 g3
                have hb : badAt l (m + 1) = true := by rw [HBK.out]; rw [h1, h2, h3, h4', h5]; rfl
                have hF : rmay l = false := by
                  simp only [rmay, Bool.not_eq_false', List.any_eq_true, List.mem_range]
                  exact ⟨m + 1, HLT.out, hb⟩
                clear hb
                go_wp2
                go_quiet (fail)
                go_wp2
                go_ret
                exact ⟨by rw [hF]; rfl, (Kr.alloc _).drewN _⟩
          · skip
            have hb : badAt l k = true := by rw [HBK.out]; rw [h1, h2, h3]; rfl
            have hF : rmay l = false := by
              simp only [rmay, Bool.not_eq_false', List.any_eq_true, List.mem_range]
              exact ⟨k, HLT.out, hb⟩
            clear hb
            go_wp2
            go_quiet (fail)
            go_wp2
            go_ret
            exact ⟨by rw [hF]; rfl, (Kr.alloc _).drewN _⟩
        · skip
          have hb : badAt l k = true := by rw [HBK.out]; rw [h1, h2]; rfl
          have hF : rmay l = false := by
            simp only [rmay, Bool.not_eq_false', List.any_eq_true, List.mem_range]
            exact ⟨k, HLT.out, hb⟩
          clear hb
          go_wp2
          go_quiet (fail)
          go_wp2
          go_ret
          exact ⟨by rw [hF]; rfl, (Kr.alloc _).drewN _⟩
      · skip
        have hb : badAt l k = true := by rw [HBK.out]; rw [h1]; rfl
        have hF : rmay l = false := by
          simp only [rmay, Bool.not_eq_false', List.any_eq_true, List.mem_range]
          exact ⟨k, HLT.out, hb⟩
        clear hb
        go_wp2
        go_quiet (fail)
        go_wp2
        go_ret
        exact ⟨by rw [hF]; rfl, (Kr.alloc _).drewN _⟩
    · have hmay : rmay l = true := by
        simp only [rmay, Bool.not_eq_true', List.any_eq_false, List.mem_range]
        intro j hj
        simp [hn.out j (by omega)]
      go_wp2
      go_ret
      exact ⟨by rw [hmay]; rfl, Kr⟩
end Go.Proofs.YtbpidoiellcccaaGreatDoor
namespace Go.Proofs.YtbpidoiellcccaaGreatDoor
open Go Go.RowKit

theorem SlOf.pick {α : Type} {R : List Nat → World → α → Array Value → Prop} {S : List Nat} {w : World} {k n C : Nat} {A : Option Addr} {xs : List α} (h : SlOf R S w k (.slice A n C) xs) (i : Nat) (hi : i < xs.length) :
    ∃ b o, A = some ⟨b, o, none⟩ ∧ b ∉ S ∧ ∃ row : Array Value, row.size = k ∧ (∀ j, j < k → w.cell? ⟨b, o + i * k + j, none⟩ = row[j]?) ∧ R S w xs[i] row := by
  obtain ⟨A', C', hv, _, hr⟩ := SlOf.at h
  simp only [Value.slice.injEq] at hv
  obtain ⟨rfl, _, _⟩ := hv
  obtain ⟨b, o, ha, hb, hc⟩ := hr (by omega)
  exact ⟨b, o, ha, hb, hc i hi⟩
theorem Prods.pick {S : List Nat} {w : World} {A : Option Addr} {n C : Nat} {ps : List ProdS} (h : Prods S w (.slice A n C) ps) (k : Nat) (hk : k < ps.length) :
    ∃ b o A2 C2 N2 F2, A = some ⟨b, o, none⟩ ∧ b ∉ S ∧ w.cell? ⟨b, o + k * 3, none⟩ = some (.slice A2 ps[k].a.length C2) ∧ w.cell? ⟨b, o + k * 3 + 1, none⟩ = some (.int .i64 ps[k].marks) ∧ w.cell? ⟨b, o + k * 3 + 2, none⟩ = some (.slice N2 ps[k].nt.length F2) ∧
      Alts S w (.slice A2 ps[k].a.length C2) ps[k].a ∧ Rngs S w (.slice N2 ps[k].nt.length F2) ps[k].nt := by
  obtain ⟨b, o, ha, hb, row, _, hc, hR⟩ := SlOf.pick h k hk
  obtain ⟨A2, C2, N2, F2, rfl, h2, h3⟩ := hR
  exact ⟨b, o, A2, C2, N2, F2, ha, hb, by simpa using hc 0 (by omega), by simpa using hc 1 (by omega), by simpa using hc 2 (by omega), h2, h3⟩
theorem Alts.pick {S : List Nat} {w : World} {A : Option Addr} {n C : Nat} {al : List (List SymS)} (h : Alts S w (.slice A n C) al) (k : Nat) (hk : k < al.length) :
    ∃ b o A2 C2, A = some ⟨b, o, none⟩ ∧ b ∉ S ∧ w.cell? ⟨b, o + k, none⟩ = some (.slice A2 al[k].length C2) ∧ Syms S w (.slice A2 al[k].length C2) al[k] := by
  obtain ⟨b, o, ha, hb, row, _, hc, hR⟩ := SlOf.pick h k hk
  obtain ⟨A2, C2, rfl, h2⟩ := hR
  exact ⟨b, o, A2, C2, ha, hb, by simpa using hc 0 (by omega), h2⟩
theorem Syms.pick {S : List Nat} {w : World} {A : Option Addr} {n C : Nat} {l : List SymS} (h : Syms S w (.slice A n C) l) (k : Nat) (hk : k < l.length) :
    ∃ b o A2 C2, A = some ⟨b, o, none⟩ ∧ b ∉ S ∧ w.cell? ⟨b, o + k * 3, none⟩ = some (.int .i64 l[k].k) ∧ w.cell? ⟨b, o + k * 3 + 1, none⟩ = some (.slice A2 l[k].r.length C2) ∧ w.cell? ⟨b, o + k * 3 + 2, none⟩ = some (.int .i64 l[k].n) ∧
      Rngs S w (.slice A2 l[k].r.length C2) l[k].r := by
  obtain ⟨b, o, ha, hb, row, _, hc, hR⟩ := SlOf.pick h k hk
  obtain ⟨A2, C2, rfl, h2⟩ := hR
  exact ⟨b, o, A2, C2, ha, hb, by simpa using hc 0 (by omega), by simpa using hc 1 (by omega), by simpa using hc 2 (by omega), h2⟩
theorem Rngs.pick {S : List Nat} {w : World} {A : Option Addr} {n C : Nat} {l : List Rng} (h : Rngs S w (.slice A n C) l) (k : Nat) (hk : k < l.length) :
    ∃ b o, A = some ⟨b, o, none⟩ ∧ b ∉ S ∧ w.cell? ⟨b, o + k * 2, none⟩ = some (.int .i64 l[k].lo) ∧ w.cell? ⟨b, o + k * 2 + 1, none⟩ = some (.int .i64 l[k].hi) := by
  obtain ⟨b, o, ha, hb, row, _, hc, hR⟩ := SlOf.pick (Rngs.of h) k hk
  rw [show row = _ from hR] at hc
  exact ⟨b, o, ha, hb, by simpa using hc 0 (by omega), by simpa using hc 1 (by omega)⟩
theorem SlOf.len {α : Type} {R : List Nat → World → α → Array Value → Prop} {S : List Nat} {w : World} {k n C : Nat} {A : Option Addr} {xs : List α} (h : SlOf R S w k (.slice A n C) xs) : n = xs.length ∧ xs.length ≤ 9223372036854775807 ∧ xs.length ≤ C := by
  obtain ⟨A', C', hv, hm, _⟩ := SlOf.at h
  simp only [Value.slice.injEq] at hv
  obtain ⟨_, rfl, rfl⟩ := hv
  exact ⟨rfl, hm⟩
theorem Rngs.len {S : List Nat} {w : World} {n C : Nat} {A : Option Addr} {xs : List Rng} (h : Rngs S w (.slice A n C) xs) : n = xs.length ∧ xs.length ≤ 9223372036854775807 ∧ xs.length ≤ C := SlOf.len (Rngs.of h)
/-- Data stay where nothing of theirs turns. -/
theorem Prods.mv {S S' : List Nat} {w w' : World} {v : Value} {ps : List ProdS} (h : Prods S w v ps) (K : Keep S w w') (hS : ∀ b ∈ S', b ∈ S ∨ w.heap.size ≤ b) : Prods S' w' v ps := SlOf.move h prodRow_stab (by omega) K (fun _ hx => .inl hx) hS
theorem Prods.mv0 {S : List Nat} {w w' : World} {v : Value} {ps : List ProdS} (h : Prods S w v ps) (K : Keep [] w w') : Prods S w' v ps := SlOf.move h prodRow_stab (by omega) K (by simp) (fun _ hx => .inl hx)
theorem Alts.mv0 {S : List Nat} {w w' : World} {v : Value} {ps : List (List SymS)} (h : Alts S w v ps) (K : Keep [] w w') : Alts S w' v ps := SlOf.move h altRow_stab (by omega) K (by simp) (fun _ hx => .inl hx)
theorem Syms.mv0 {S : List Nat} {w w' : World} {v : Value} {ps : List SymS} (h : Syms S w v ps) (K : Keep [] w w') : Syms S w' v ps := SlOf.move h symRow_stab (by omega) K (by simp) (fun _ hx => .inl hx)
theorem Rngs.mv0 {S : List Nat} {w w' : World} {v : Value} {ps : List Rng} (h : Rngs S w v ps) (K : Keep [] w w') : Rngs S w' v ps := Sl.move h (by omega) K (by simp) (fun _ hx => .inl hx)
end Go.Proofs.YtbpidoiellcccaaGreatDoor
