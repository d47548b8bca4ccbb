/- ReachMakes: the plain law. -/
import Derived.Test.YtacihjabkiedcaaGreatDoorH35
import Derived.Test.YtacihjabkiedcaaGreatDoorH22
import Derived.Test.YtacihjabkiedcaaGreatDoorH17
set_option linter.unusedVariables false
set_option linter.unusedSimpArgs false
namespace Go.Proofs.YtacihjabkiedcaaGreatDoor
open Go Go.RowKit Go.MapKept

/-- The symbol with the largest set. -/
def bigS (s : SymS) : SymS := if s.k = 2 then s else ⟨s.k, [⟨0, 255⟩], s.n⟩
def bigP (p : ProdS) : ProdS := ⟨p.a.map (·.map bigS), p.marks, p.nt⟩
def bigG (ps : List ProdS) : List ProdS := ps.map bigP
theorem some_big : someF [⟨0, 255⟩] = true := by
  unfold someF
  obtain ⟨h1, h2⟩ := twoR_law (fun x y => x && !y) [⟨0, 255⟩] [⟨55296, 57343⟩]
  rw [decide_eq_true_eq]
  refine (ordR_some h1).2 ⟨0, ?_⟩
  rw [h2 0]
  simp [hasR, inR]
theorem okS_big {P : Nat → Prop} {s : SymS} (h : okS someF P s) : okS someF P (bigS s) := by
  unfold bigS
  split
  · exact h
  · rename_i h2
    refine .inr ⟨h2, ?_⟩
    unfold tokM
    split
    · simp
    · exact some_big
theorem mak_big (ps : List ProdS) (x : Nat) (h : Mak someF ps x) : Mak someF (bigG ps) x := by
  refine mak_mono (fun k p hp => ⟨bigP p, by simp [bigG, hp], fun a ha => ⟨a.map bigS, List.mem_map_of_mem ha, fun P hs s hs' => ?_⟩⟩) x h
  obtain ⟨t, ht, rfl⟩ := List.mem_map.1 hs'
  exact okS_big (hs t ht)
theorem symBad_big {m : Nat} {s : SymS} (h : symBad m s = false) : symBad m (bigS s) = false := by
  unfold bigS
  split
  · exact h
  · rename_i h2
    unfold symBad at h ⊢
    simp only
    split at h
    · rename_i h0
      rw [if_pos h0]
      simp only [Bool.not_eq_false', setR, Bool.and_eq_true] at h ⊢
      refine ⟨⟨h.1.1, by simp⟩, ?_⟩
      simp [rmay, badAt, rngAt, List.range_succ]
    · simp [h2] at h
theorem gmay_big {ps : List ProdS} (h : gmay ps = true) : gmay (bigG ps) = true := by
  unfold gmay at h ⊢
  have hl : (bigG ps).length = ps.length := by simp [bigG]
  rw [hl]
  simp only [Bool.and_eq_true, Bool.not_eq_true', List.any_eq_false, decide_eq_true_eq] at h ⊢
  refine ⟨⟨fun q hq => ?_, h.1.2⟩, h.2⟩
  obtain ⟨p, hp, rfl⟩ := List.mem_map.1 hq
  have h1 := h.1.1 p hp
  unfold prodBad at h1 ⊢
  simp only [Bool.not_eq_true, Bool.or_eq_false_iff, List.any_eq_false] at h1 ⊢
  obtain ⟨⟨⟨⟨⟨a1, a2⟩, a3⟩, a4⟩, a5⟩, a6⟩ := h1
  refine ⟨⟨⟨⟨⟨by simpa [bigP] using a1, by simpa [bigP] using a2⟩, a3⟩, a4⟩, a5⟩, fun a ha => ?_⟩
  obtain ⟨b, hb, rfl⟩ := List.mem_map.1 ha
  have h2 := a6 b hb
  unfold altOdd at h2 ⊢
  simp only [Bool.or_eq_false_iff, List.any_eq_false, Bool.not_eq_true] at h2 ⊢
  refine ⟨by simpa using h2.1, fun s hs => ?_⟩
  obtain ⟨t, ht, rfl⟩ := List.mem_map.1 hs
  exact symBad_big (h2.2 t ht)
theorem small_big {ps : List ProdS} (h : SmallG ps) : SmallG (bigG ps) := by
  intro q hq a ha s hs
  obtain ⟨p, hp, rfl⟩ := List.mem_map.1 hq
  obtain ⟨b, hb, rfl⟩ := List.mem_map.1 ha
  obtain ⟨t, ht, rfl⟩ := List.mem_map.1 hs
  unfold bigS
  split
  · exact h p hp b hb t ht
  · simp
theorem bigG_len (ps : List ProdS) : (bigG ps).length = ps.length := by simp [bigG]
/-- What is empty is made, and with larger sets no fewer are. -/
theorem makes_plain {ps : List ProdS} (hg : gmay ps = true) :
    ((makesR someF ps).length = ps.length ∧ (allR ps).length = ps.length ∧ (makesR someF (bigG ps)).length = ps.length) ∧
    ∀ i (h1 : i < (makesR someF ps).length) (h2 : i < (allR ps).length) (h3 : i < (makesR someF (bigG ps)).length),
      ((allR ps)[i] = true → (makesR someF ps)[i] = true) ∧ ((makesR someF ps)[i] = true → (makesR someF (bigG ps))[i] = true) := by
  have hgb := gmay_big hg
  have e : allR ps = bl ps.length (emptyF ps) := by unfold allR; rw [if_pos hg]
  refine ⟨⟨makesR_leng someF hg, by rw [e]; simp [bl], (makesR_leng someF hgb).trans (bigG_len ps)⟩, fun i h1 h2 h3 => ?_⟩
  have hi : i < ps.length := by rw [makesR_leng someF hg] at h1; exact h1
  refine ⟨fun h => (makesR_iff someF hg hi h1).2 (emp_mak someF ps i ?_), fun h => (makesR_iff someF hgb (by rw [bigG_len]; exact hi) h3).2 (mak_big ps i ((makesR_iff someF hg hi h1).1 h))⟩
  have h4 : (allR ps)[i] = decide ((i : Int) ∈ emptyF ps) := by simp [e, bl]
  rw [h4] at h
  exact (mem_emptyF ps i).1 (by simpa using h)
end Go.Proofs.YtacihjabkiedcaaGreatDoor
namespace Go.Proofs.YtacihjabkiedcaaGreatDoor
open Go Go.RowKit Go.MapKept

theorem OwnL.blk {α : Type} {R : List Nat → World → α → Array Value → Prop} {S : List Nat} {w : World} {base g C n : Nat} {E : TypeId} {k : Nat} {xs : List α} (h : OwnL R S w base E k (.slice (some ⟨g, 0, none⟩) n C) xs) (h0 : 0 < xs.length) : ∃ cur, Blk w g cur E := by
  obtain ⟨rows, h1, h2, _⟩ := h
  rcases h2.2 with ⟨_, h3⟩ | ⟨g', cap, cur, hv, _, hg, _⟩
  · omega
  · simp only [Value.slice.injEq, Option.some.injEq, Addr.mk.injEq, and_true] at hv
    obtain ⟨rfl, _, _⟩ := hv
    exact ⟨cur, hg⟩
/-- One cell of one element is other, whatever came between. -/
theorem OwnL.restore {α : Type} {R : List Nat → World → α → Array Value → Prop} (st : Stab R) {S : List Nat} {w w' : World} {base g C : Nat} {E : TypeId} {k : Nat} {xs : List α} (h : OwnL R S w base E k (.slice (some ⟨g, 0, none⟩) xs.length C) xs) (n j : Nat) (u : Value) (x : α)
    (hn : n < xs.length) (hj : j < k) {cur : Array Value} (hB : Blk w g cur E) (hB' : Blk w' g (cur.setIfInBounds (n * k + j) u) E) (K : Keep [g] w w') (hx : ∀ row : Array Value, row.size = k → R ([g] ++ S) w' xs[n] row → R ([g] ++ S) w' x (row.setIfInBounds j u)) :
    OwnL R S w' base E k (.slice (some ⟨g, 0, none⟩) xs.length C) (xs.set n x) := by
  obtain ⟨rows, h1, h2, h3⟩ := h
  have hob : ownB (.slice (some ⟨g, 0, none⟩) xs.length C) = [g] := rfl
  rw [hob] at h3
  have hrs : ∀ i (h : i < rows.length), rows[i].size = k := fun i hi => (h3 i (by omega) hi).1
  refine ⟨rows.set n ((rows[n]'(by omega)).setIfInBounds j u), by simp [h1], ?_, fun i hi hi' => ?_⟩
  · have hfs := flat_setJ k rows n j u hrs hj (by omega)
    obtain ⟨hA, hC⟩ := h2
    rw [← hfs]
    rw [List.length_set]
    refine ⟨by rw [List.length_set]; exact hA, ?_⟩
    rcases hC with ⟨h4, h5⟩ | ⟨g', cap, cur', hv, hb, hgg, hnc, hcm, hcs, htk⟩
    · omega
    · right
      simp only [Value.slice.injEq, Option.some.injEq, Addr.mk.injEq, and_true, true_and] at hv
      obtain ⟨rfl, rfl⟩ := hv
      obtain rfl : cur = cur' := by
        unfold Blk at hB
        rw [hgg] at hB
        simpa using hB.symm
      refine ⟨g, C, cur.setIfInBounds (n * k + j) u, rfl, hb, hB', hnc, hcm, by simp [hcs], ?_⟩
      rw [Array.toList_setIfInBounds, List.take_set, htk]
  · rw [hob]
    have hT : ∀ b ∈ [g], b ∈ [g] ++ S ∨ w.heap.size ≤ b := fun b hb => .inl (by simp at hb; simp [hb])
    have hSS : ∀ b ∈ [g] ++ S, b ∈ [g] ++ S ∨ w.heap.size ≤ b := fun b hb => .inl hb
    by_cases e : n = i
    · subst e
      simp only [List.getElem_set_self]
      exact ⟨by rw [Array.size_setIfInBounds]; exact hrs _ _, hx _ (hrs _ _) (st _ _ _ _ _ _ _ (h3 n hn (by omega)).2 K hT hSS)⟩
    · simp only [List.getElem_set_ne e]
      exact ⟨hrs i (by simpa using hi'), st _ _ _ _ _ _ _ (h3 i (by simpa using hi) (by simpa using hi')).2 K hT hSS⟩
/-- Since Wi the row g has turned in one cell alone, of what was there: alternatives stand in it. -/
def StA (Wi : World) (g x i : Nat) (cur : Array Value) (als : List (List SymS)) (wr : World) : Prop :=
  ∃ v9, Keep [g] Wi wr ∧ Blk wr g (cur.setIfInBounds (i * 3) v9) 37 ∧ OwnL AltRow [g, x] wr Wi.heap.size 40 1 v9 als
theorem StA.first {Wi : World} {g x i : Nat} {cur : Array Value} (B : Blk Wi g cur 37) : StA Wi g x i cur [] (Wi.setCell ⟨g, i * 3, none⟩ (.slice none 0 0)) :=
  ⟨_, (Keep.refl _ _).setCell (p := ⟨g, i * 3, none⟩) (.inl (by simp)) _, B.set _ _, OwnL.nil _ _ _ _ _⟩
theorem StA.store {Wi w : World} {g x i : Nat} {cur : Array Value} {v v' : Value} {als : List (List SymS)} (K : Keep [g] Wi w) (B : Blk w g (cur.setIfInBounds (i * 3) v) 37) (hg : g < Wi.heap.size) (O : OwnL AltRow [g, x] w Wi.heap.size 40 1 v' als) :
    StA Wi g x i cur als (w.setCell ⟨g, i * 3, none⟩ v') := by
  refine ⟨v', K.setCell (p := ⟨g, i * 3, none⟩) (.inl (by simp)) _, ?_, O.move altRow_stab ((Keep.refl [g] w).setCell (p := ⟨g, i * 3, none⟩) (.inl (by simp)) _) (fun b hb => .inl ⟨by simp at hb; simp [hb], fun h => by have := (O.base _ h).1; simp at hb; omega⟩) (fun x hx => .inl hx)⟩
  have := B.set (i * 3) v'
  rwa [Array.setIfInBounds_setIfInBounds] at this
theorem StA.own {Wi wr : World} {g x i base C n : Nat} {cur : Array Value} {xs : List ProdS} {als : List (List SymS)} (hn : xs.length = n) (OX : OwnL ProdRow [x] Wi base 37 3 (.slice (some ⟨g, 0, none⟩) n C) xs) (hi : i < xs.length) (B : Blk Wi g cur 37) (hgx : g < Wi.heap.size ∧ x < Wi.heap.size) (h : StA Wi g x i cur als wr) :
    OwnL ProdRow [x] wr base 37 3 (.slice (some ⟨g, 0, none⟩) n C) (xs.set i ⟨als, xs[i].marks, xs[i].nt⟩) := by
  subst hn
  obtain ⟨v9, K, B9, O⟩ := h
  have hA := O.read (S' := [g] ++ [x]) altRow_stab (fun b hb => .inl (by simpa using hb)) (fun b hb hb' => by have h1 := (O.base b hb).1; simp at hb'; omega)
  obtain ⟨A9, C9, rfl⟩ := O.slice
  refine OwnL.restore prodRow_stab OX i 0 _ _ hi (by omega) B (by simpa using B9) K (fun row hr hR => ?_)
  obtain ⟨A2, C2, N2, F2, rfl, h2, h3⟩ := hR
  exact ⟨A9, C9, N2, F2, rfl, hA, h3⟩
/-- The first i are other. -/
def mixF {α : Type} (f : α → α) (l : List α) (i : Nat) : List α := (l.take i).map f ++ l.drop i
theorem mixF_len {α : Type} (f : α → α) (l : List α) (i : Nat) : (mixF f l i).length = l.length := by simp [mixF]; omega
theorem mixF_zero {α : Type} (f : α → α) (l : List α) : mixF f l 0 = l := by simp [mixF]
theorem mixF_all {α : Type} (f : α → α) (l : List α) : mixF f l l.length = l.map f := by simp [mixF]
theorem mixF_get {α : Type} (f : α → α) (l : List α) (i : Nat) (hi : i < l.length) (hi' : i < (mixF f l i).length) : (mixF f l i)[i] = l[i] := by
  have e : (mixF f l i)[i]? = some l[i] := by
    have e1 : l.drop i = l[i] :: l.drop (i + 1) := List.drop_eq_getElem_cons hi
    have e3 : i - ((l.take i).map f).length = 0 := by simp; omega
    unfold mixF
    rw [e1, List.getElem?_append_right (by simp; omega), e3]
    rfl
  rw [List.getElem?_eq_getElem hi'] at e
  exact Option.some.inj e
theorem mixF_set {α : Type} (f : α → α) (l : List α) (i : Nat) (hi : i < l.length) : (mixF f l i).set i (f l[i]) = mixF f l (i + 1) := by
  have e1 : l.drop i = l[i] :: l.drop (i + 1) := List.drop_eq_getElem_cons hi
  have e2 : l.take (i + 1) = l.take i ++ [l[i]] := by rw [List.take_add_one, List.getElem?_eq_getElem hi]; rfl
  have e3 : i - ((l.take i).map f).length = 0 := by simp; omega
  unfold mixF
  rw [e2, e1, List.map_append, List.set_append_right _ _ (by simp; omega), e3, List.set_cons_zero, List.append_assoc]
  rfl
theorem mixF_same {α : Type} (f : α → α) (l : List α) (i : Nat) (hi : i < l.length) (h : f l[i] = l[i]) : mixF f l (i + 1) = mixF f l i := by
  rw [← mixF_set f l i hi, h]
  have e := mixF_get f l i hi (by rw [mixF_len]; exact hi)
  refine List.ext_getElem (by simp) (fun j h1 h2 => ?_)
  by_cases e2 : i = j
  · subst e2; rw [List.getElem_set_self, e]
  · rw [List.getElem_set_ne e2]
/-- One more nonterminal has the largest sets. -/
theorem StA.mix {Wi wr : World} {g x i base C : Nat} {cur : Array Value} {ps : List ProdS} (OX : OwnL ProdRow [x] Wi base 37 3 (.slice (some ⟨g, 0, none⟩) ps.length C) (mixF bigP ps i)) (hi : i < ps.length) (B : Blk Wi g cur 37) (hgx : g < Wi.heap.size ∧ x < Wi.heap.size)
    (h : StA Wi g x i cur ((ps[i].a.take ps[i].a.length).map (List.map bigS)) wr) : OwnL ProdRow [x] wr base 37 3 (.slice (some ⟨g, 0, none⟩) ps.length C) (mixF bigP ps (i + 1)) := by
  have hml := mixF_len bigP ps i
  have hmg := mixF_get bigP ps i hi (by omega)
  rw [List.take_length] at h
  have h := StA.own hml OX (by omega) B hgx h
  rw [← mixF_set bigP ps i hi]
  have e : bigP ps[i] = ⟨ps[i].a.map (List.map bigS), (mixF bigP ps i)[i].marks, (mixF bigP ps i)[i].nt⟩ := by rw [hmg]; rfl
  rw [e]
  exact h
/-- A symbol of the call's own is given the largest set. -/
theorem own_big {S : List Nat} {w : World} {base ga C nb : Nat} {E T : TypeId} {l : List SymS} {j : Nat} (O : OwnL SymRow S w base E 3 (.slice (some ⟨ga, 0, none⟩) l.length C) (mixF bigS l j)) (hj : j < l.length) (hk : l[j].k ≠ 2)
    (B : Blk w nb #[.int .i64 0, .int .i64 255] T) (hn : nb ∉ [ga] ++ S) : OwnL SymRow S (w.setCell ⟨ga, j * 3 + 1, none⟩ (.slice (some ⟨nb, 0, none⟩) 1 1)) base E 3 (.slice (some ⟨ga, 0, none⟩) l.length C) (mixF bigS l (j + 1)) := by
  have hl := mixF_len bigS l j
  have hg := mixF_get bigS l j hj (by omega)
  rw [← mixF_set bigS l j hj, ← hl]
  rw [← hl] at O
  refine OwnL.store symRow_stab O j 1 _ _ (by omega) (by omega) (fun row hr hR => ?_)
  rw [hg] at hR
  obtain ⟨A2, C2, rfl, h2⟩ := hR
  have e : bigS l[j] = ⟨l[j].k, [⟨0, 255⟩], l[j].n⟩ := by unfold bigS; rw [if_neg hk]
  rw [e]
  refine ⟨some ⟨nb, 0, none⟩, 1, rfl, ?_⟩
  obtain ⟨rows, h3, h4, h5⟩ := one_rng (r := ⟨0, 255⟩) B hn
  have er : rows = [(⟨0, 255⟩ : Rng)].map Rng.row := by
    refine List.ext_getElem (by simp [h4]) (fun i hi hi' => ?_)
    rw [List.getElem_map]
    exact h5 i (by simpa using hi') hi
  rw [er] at h3
  exact h3
/-- What stands at the j-th symbol of the call's own, and what comes of it. -/
theorem mix_row {S : List Nat} {w : World} {base ga C : Nat} {E : TypeId} {l : List SymS} {j : Nat} (O : OwnL SymRow S w base E 3 (.slice (some ⟨ga, 0, none⟩) l.length C) (mixF bigS l j)) (hj : j < l.length) :
    ∃ k A5 r5 C5, w.cell? ⟨ga, j * 3, none⟩ = some (.int .i64 k) ∧ w.cell? ⟨ga, j * 3 + 1, none⟩ = some (.slice A5 r5 C5) ∧ w.frozen? ⟨ga, j * 3 + 1, none⟩ = false ∧ (k = 2 → mixF bigS l (j + 1) = mixF bigS l j) ∧
      (k ≠ 2 → ∀ T, (∀ b ∈ S, b < w.heap.size) → OwnL SymRow S ((w.setCell ⟨ga, j * 3 + 1, none⟩ (.slice (some ⟨w.heap.size, 0, none⟩) 1 1)).alloc (.cells #[.int .i64 0, .int .i64 255] T)) base E 3 (.slice (some ⟨ga, 0, none⟩) l.length C) (mixF bigS l (j + 1))) := by
  have hml := mixF_len bigS l j
  have hmg := mixF_get bigS l j hj (by omega)
  obtain ⟨g, he, hg1, hg2⟩ := O.form (by omega)
  simp only [Option.some.injEq, Addr.mk.injEq, and_true] at he
  obtain rfl := he
  have hrd : Syms [] w (.slice (some ⟨ga, 0, none⟩) l.length C) (mixF bigS l j) := by
    have h := O
    rw [← hml] at h ⊢
    exact h.read symRow_stab (by simp) (by simp)
  obtain ⟨bs, os, A5, C5, he, -, s0, s1, -, -⟩ := hrd.pick j (by omega)
  simp only [Option.some.injEq, Addr.mk.injEq, and_true] at he
  obtain ⟨rfl, rfl⟩ := he
  rw [hmg] at s0
  simp only [Nat.zero_add] at s0 s1
  refine ⟨_, _, _, _, s0, s1, O.frozen (by omega) _, fun h => mixF_same bigS l j hj (by unfold bigS; rw [if_pos h]), fun h T hS => ?_⟩
  have KB := (Keep.refl [] w).alloc (.cells #[.int .i64 0, .int .i64 255] T)
  have := own_big (O.move symRow_stab KB (by simp) (fun x hx => .inl hx)) hj h (Blk.new w _ T) (fun hx => by
    rcases List.mem_append.1 hx with hx | hx
    · simp at hx; omega
    · have := hS _ hx; omega)
  rwa [World.setCell_alloc_past _ ga (j * 3 + 1) _ hg2] at this
/-- One alternative, of the call's own, in a block of one cell. -/
theorem alt_src {S : List Nat} {wq w : World} {base b n C : Nat} {A : Option Addr} {E T : TypeId} {l : List SymS} (O : OwnL SymRow S wq base E 3 (.slice A n C) l) (hn : n = l.length) (K : Keep [] wq w) (hS : ∀ x ∈ S, x < base) (B : Blk w b #[.slice A n C] T) (hb : b ∉ S) : Alts S w (.slice (some ⟨b, 0, none⟩) 1 1) [l] :=
  one_alt B hb hn (by
    subst hn
    exact Syms.mv0 (O.read symRow_stab (S' := S) (fun b hb => .inl hb) (fun b hb h => by have := (O.base b hb).1; have := hS b h; omega)) K)
/-- Bools that a call made, later. -/
theorem bool_later {w w' : World} {lo : Nat} {v : Value} {bs : List Bool} (h : BoolV w lo v bs) (K : Keep [] w w') : BoolV w' lo v bs := h.keep K (by simp)
end Go.Proofs.YtacihjabkiedcaaGreatDoor
