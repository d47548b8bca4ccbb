/- Alternatives are put one behind the other, in a nonterminal of the own. -/
import Derived.Test.YtbpidoiellcccaaGreatDoorK15
import Derived.Test.YtbpidoiellcccaaGreatDoorK26
set_option linter.unusedVariables false
set_option linter.unusedSimpArgs false
namespace Go.Proofs.YtbpidoiellcccaaGreatDoor
open Go Go.RowKit Go.MapKept

theorem OwnL.blk {α : Type} {R : List Nat → World → α → Array Value → Prop} {S : List Nat} {w : World} {base g C n : Nat} {E : TypeId} {k : Nat} {xs : List α} (h : OwnL R S w base E k (.slice (some ⟨g, 0, none⟩) n C) xs) (h0 : 0 < xs.length) : ∃ cur, Blk w g cur E := by
  obtain ⟨rows, h1, h2, _⟩ := h
  rcases h2.2 with ⟨_, h3⟩ | ⟨g', cap, cur, hv, _, hg, _⟩
  · omega
  · simp only [Value.slice.injEq, Option.some.injEq, Addr.mk.injEq, and_true] at hv
    obtain ⟨rfl, _, _⟩ := hv
    exact ⟨cur, hg⟩
/-- One cell of one element is other, whatever came between. -/
theorem OwnL.restore {α : Type} {R : List Nat → World → α → Array Value → Prop} (st : Stab R) {S : List Nat} {w w' : World} {base g C : Nat} {E : TypeId} {k : Nat} {xs : List α} (h : OwnL R S w base E k (.slice (some ⟨g, 0, none⟩) xs.length C) xs) (n j : Nat) (u : Value) (x : α)
    (hn : n < xs.length) (hj : j < k) {cur : Array Value} (hB : Blk w g cur E) (hB' : Blk w' g (cur.setIfInBounds (n * k + j) u) E) (K : Keep [g] w w') (hx : ∀ row : Array Value, row.size = k → R ([g] ++ S) w' xs[n] row → R ([g] ++ S) w' x (row.setIfInBounds j u)) :
    OwnL R S w' base E k (.slice (some ⟨g, 0, none⟩) xs.length C) (xs.set n x) := by
  obtain ⟨rows, h1, h2, h3⟩ := h
  have hob : ownB (.slice (some ⟨g, 0, none⟩) xs.length C) = [g] := rfl
  rw [hob] at h3
  have hrs : ∀ i (h : i < rows.length), rows[i].size = k := fun i hi => (h3 i (by omega) hi).1
  refine ⟨rows.set n ((rows[n]'(by omega)).setIfInBounds j u), by simp [h1], ?_, fun i hi hi' => ?_⟩
  · have hfs := flat_setJ k rows n j u hrs hj (by omega)
    obtain ⟨hA, hC⟩ := h2
    rw [← hfs]
    rw [List.length_set]
    refine ⟨by rw [List.length_set]; exact hA, ?_⟩
    rcases hC with ⟨h4, h5⟩ | ⟨g', cap, cur', hv, hb, hgg, hnc, hcm, hcs, htk⟩
    · omega
    · right
      simp only [Value.slice.injEq, Option.some.injEq, Addr.mk.injEq, and_true, true_and] at hv
      obtain ⟨rfl, rfl⟩ := hv
      obtain rfl : cur = cur' := by
        unfold Blk at hB
        rw [hgg] at hB
        simpa using hB.symm
      refine ⟨g, C, cur.setIfInBounds (n * k + j) u, rfl, hb, hB', hnc, hcm, by simp [hcs], ?_⟩
      rw [Array.toList_setIfInBounds, List.take_set, htk]
  · rw [hob]
    have hT : ∀ b ∈ [g], b ∈ [g] ++ S ∨ w.heap.size ≤ b := fun b hb => .inl (by simp at hb; simp [hb])
    have hSS : ∀ b ∈ [g] ++ S, b ∈ [g] ++ S ∨ w.heap.size ≤ b := fun b hb => .inl hb
    by_cases e : n = i
    · subst e
      simp only [List.getElem_set_self]
      exact ⟨by rw [Array.size_setIfInBounds]; exact hrs _ _, hx _ (hrs _ _) (st _ _ _ _ _ _ _ (h3 n hn (by omega)).2 K hT hSS)⟩
    · simp only [List.getElem_set_ne e]
      exact ⟨hrs i (by simpa using hi'), st _ _ _ _ _ _ _ (h3 i (by simpa using hi) (by simpa using hi')).2 K hT hSS⟩
/-- Since Wi the row g has turned in one cell alone, of what was there: alternatives stand in it. -/
def StA (Wi : World) (g x i : Nat) (cur : Array Value) (als : List (List SymS)) (wr : World) : Prop :=
  ∃ v9, Keep [g] Wi wr ∧ Blk wr g (cur.setIfInBounds (i * 3) v9) 41 ∧ OwnL AltRow [g, x] wr Wi.heap.size 44 1 v9 als
theorem StA.first {Wi : World} {g x i : Nat} {cur : Array Value} (B : Blk Wi g cur 41) : StA Wi g x i cur [] (Wi.setCell ⟨g, i * 3, none⟩ (.slice none 0 0)) :=
  ⟨_, (Keep.refl _ _).setCell (p := ⟨g, i * 3, none⟩) (.inl (by simp)) _, B.set _ _, OwnL.nil _ _ _ _ _⟩
theorem StA.store {Wi w : World} {g x i : Nat} {cur : Array Value} {v v' : Value} {als : List (List SymS)} (K : Keep [g] Wi w) (B : Blk w g (cur.setIfInBounds (i * 3) v) 41) (hg : g < Wi.heap.size) (O : OwnL AltRow [g, x] w Wi.heap.size 44 1 v' als) :
    StA Wi g x i cur als (w.setCell ⟨g, i * 3, none⟩ v') := by
  refine ⟨v', K.setCell (p := ⟨g, i * 3, none⟩) (.inl (by simp)) _, ?_, O.move altRow_stab ((Keep.refl [g] w).setCell (p := ⟨g, i * 3, none⟩) (.inl (by simp)) _) (fun b hb => .inl ⟨by simp at hb; simp [hb], fun h => by have := (O.base _ h).1; simp at hb; omega⟩) (fun x hx => .inl hx)⟩
  have := B.set (i * 3) v'
  rwa [Array.setIfInBounds_setIfInBounds] at this
theorem StA.own {Wi wr : World} {g x i base C n : Nat} {cur : Array Value} {xs : List ProdS} {als : List (List SymS)} (hn : xs.length = n) (OX : OwnL ProdRow [x] Wi base 41 3 (.slice (some ⟨g, 0, none⟩) n C) xs) (hi : i < xs.length) (B : Blk Wi g cur 41) (hgx : g < Wi.heap.size ∧ x < Wi.heap.size) (h : StA Wi g x i cur als wr) :
    OwnL ProdRow [x] wr base 41 3 (.slice (some ⟨g, 0, none⟩) n C) (xs.set i ⟨als, xs[i].marks, xs[i].nt⟩) := by
  subst hn
  obtain ⟨v9, K, B9, O⟩ := h
  have hA := O.read (S' := [g] ++ [x]) altRow_stab (fun b hb => .inl (by simpa using hb)) (fun b hb hb' => by have h1 := (O.base b hb).1; simp at hb'; omega)
  obtain ⟨A9, C9, rfl⟩ := O.slice
  refine OwnL.restore prodRow_stab OX i 0 _ _ hi (by omega) B (by simpa using B9) K (fun row hr hR => ?_)
  obtain ⟨A2, C2, N2, F2, rfl, h2, h3⟩ := hR
  exact ⟨A9, C9, N2, F2, rfl, hA, h3⟩
/-- The first i are other. -/
def mixF {α : Type} (f : α → α) (l : List α) (i : Nat) : List α := (l.take i).map f ++ l.drop i
theorem mixF_len {α : Type} (f : α → α) (l : List α) (i : Nat) : (mixF f l i).length = l.length := by simp [mixF]; omega
theorem mixF_zero {α : Type} (f : α → α) (l : List α) : mixF f l 0 = l := by simp [mixF]
theorem mixF_all {α : Type} (f : α → α) (l : List α) : mixF f l l.length = l.map f := by simp [mixF]
theorem mixF_get {α : Type} (f : α → α) (l : List α) (i : Nat) (hi : i < l.length) (hi' : i < (mixF f l i).length) : (mixF f l i)[i] = l[i] := by
  have e : (mixF f l i)[i]? = some l[i] := by
    have e1 : l.drop i = l[i] :: l.drop (i + 1) := List.drop_eq_getElem_cons hi
    have e3 : i - ((l.take i).map f).length = 0 := by simp; omega
    unfold mixF
    rw [e1, List.getElem?_append_right (by simp; omega), e3]
    rfl
  rw [List.getElem?_eq_getElem hi'] at e
  exact Option.some.inj e
theorem mixF_set {α : Type} (f : α → α) (l : List α) (i : Nat) (hi : i < l.length) : (mixF f l i).set i (f l[i]) = mixF f l (i + 1) := by
  have e1 : l.drop i = l[i] :: l.drop (i + 1) := List.drop_eq_getElem_cons hi
  have e2 : l.take (i + 1) = l.take i ++ [l[i]] := by rw [List.take_add_one, List.getElem?_eq_getElem hi]; rfl
  have e3 : i - ((l.take i).map f).length = 0 := by simp; omega
  unfold mixF
  rw [e2, e1, List.map_append, List.set_append_right _ _ (by simp; omega), e3, List.set_cons_zero, List.append_assoc]
  rfl
theorem mixF_same {α : Type} (f : α → α) (l : List α) (i : Nat) (hi : i < l.length) (h : f l[i] = l[i]) : mixF f l (i + 1) = mixF f l i := by
  rw [← mixF_set f l i hi, h]
  have e := mixF_get f l i hi (by rw [mixF_len]; exact hi)
  refine List.ext_getElem (by simp) (fun j h1 h2 => ?_)
  by_cases e2 : i = j
  · subst e2; rw [List.getElem_set_self, e]
  · rw [List.getElem_set_ne e2]
/-- One alternative, of the call's own, in a block of one cell. -/
theorem alt_src {S : List Nat} {wq w : World} {base b n C : Nat} {A : Option Addr} {E T : TypeId} {l : List SymS} (O : OwnL SymRow S wq base E 3 (.slice A n C) l) (hn : n = l.length) (K : Keep [] wq w) (hS : ∀ x ∈ S, x < base) (B : Blk w b #[.slice A n C] T) (hb : b ∉ S) : Alts S w (.slice (some ⟨b, 0, none⟩) 1 1) [l] :=
  one_alt B hb hn (by
    subst hn
    exact Syms.mv0 (O.read symRow_stab (S' := S) (fun b hb => .inl hb) (fun b hb h => by have := (O.base b hb).1; have := hS b h; omega)) K)
/-- Bools that a call made, later. -/
theorem bool_later {w w' : World} {lo : Nat} {v : Value} {bs : List Bool} (h : BoolV w lo v bs) (K : Keep [] w w') : BoolV w' lo v bs := h.keep K (by simp)
end Go.Proofs.YtbpidoiellcccaaGreatDoor
