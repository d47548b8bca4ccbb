/- Who is empty, as bools: the walk of null.All. -/
import Derived.Test.YtacihjabkiedcaaGreatDoorH21
import Derived.Test.YtacihjabkiedcaaGreatDoorH18
set_option linter.unusedVariables false
set_option linter.unusedSimpArgs false
namespace Go.Proofs.YtacihjabkiedcaaGreatDoor
open Go Go.RowKit Go.MapKept

/-- Whether each is empty. -/
def allR (ps : List ProdS) : List Bool := if gmay ps = true then bl ps.length (emptyF ps) else []
/-- What is told when k are told. -/
def partB (n : Nat) (L : List Int) (k : Nat) : List Bool := (List.range n).map (fun (j : Nat) => decide (j < k) && decide ((j : Int) ∈ L))
theorem partB_len (n : Nat) (L : List Int) (k : Nat) : (partB n L k).length = n := by simp [partB]
theorem partB_zero (n : Nat) (L : List Int) : partB n L 0 = List.replicate n false := by
  apply List.ext_getElem (by simp [partB])
  intro i h1 h2
  simp [partB]
theorem partB_succ (n : Nat) (L : List Int) (k : Nat) (h : k < n) : partB n L (k + 1) = (partB n L k).set k (decide ((k : Int) ∈ L)) := by
  apply List.ext_getElem (by simp [partB])
  intro i h1 h2
  rw [List.getElem_set]
  simp only [partB, List.getElem_map, List.getElem_range]
  by_cases e : k = i
  · subst e; simp
  · rw [if_neg e]
    have : (i < k + 1) = (i < k) := by simp; omega
    simp only [this]
theorem partB_all (n : Nat) (L : List Int) : partB n L n = bl n L := by
  apply List.ext_getElem (by simp [partB, bl])
  intro i h1 h2
  have : i < n := by simpa [partB] using h1
  simp [partB, bl, this]
set_option maxRecDepth 20000 in
set_option maxHeartbeats 4000000 in
theorem all_nulls (S : List Nat) (A K : Option Addr) (C m D : Nat) (ps : List ProdS) (w : World) (HP : Prods S w (.slice A ps.length C) ps) (hS : ∀ b ∈ S, b < w.heap.size) :
    Calls Tryz.prog 25 #[.agg #[.slice A ps.length C, .slice K m D]] w fun e w' => (∃ v, e = .returned v ∧ BoolV w' w.heap.size v (allR ps)) ∧ Keep [] w w' := by
  have K0 := (Keep.refl [] w).alloc (.cells #[.slice A ps.length C, .slice K m D] 25)
  have HP0 : Prods S _ (.slice A ps.length C) ps := SlOf.move HP prodRow_stab (by omega) K0 (by simp) (fun x hx => .inl hx)
  have B0 := Blk.new w #[.slice A ps.length C, .slice K m D] 25
  have hcall := may_any S (.slice A ps.length C) (.slice K m D) ps _ HP0
  have HC := Lib.hid hcall; clear hcall
  cases hg : gmay ps with
  | false =>
    have hr : allR ps = [] := by simp [allR, hg]
    rw [hr]
    go_enter Tryz.func25, Tryz.ntmps25
    go_wp2_with fail
    refine HC.out.mono ?_
    rintro e w1 ⟨rfl, K1⟩
    rw [hg]
    go_wp2
    go_ret
    exact ⟨⟨_, rfl, .inl ⟨rfl, rfl⟩⟩, K0.trans K1⟩
  | true =>
    obtain ⟨hl0, hl1⟩ := gmay_len hg
    obtain ⟨R, hRes⟩ : ∃ R, R = allR ps := ⟨_, rfl⟩
    rw [← hRes]
    have HRS : Hid (R = partB ps.length (emptyF ps) ps.length) := Lib.hid (by rw [hRes, partB_all]; simp [allR, hg])
    have HPP := Lib.hid HP0
    have HSS := Lib.hid hS
    clear hRes HP0 HP hS
    go_enter Tryz.func25, Tryz.ntmps25
    go_wp2_with fail
    refine HC.out.mono ?_
    rintro e w1 ⟨rfl, K1⟩
    rw [hg]
    have B1 := B0.keep K1 (by simp)
    have b0 := B1.cell 0
    have b1 := B1.cell 1
    have K01 := K0.trans K1
    have hsz : w.heap.size ≤ w1.heap.size := K01.size
    have hcall2 := nullOf_any A K C m D S ps w1 (SlOf.move HPP.out prodRow_stab (by omega) K1 (by simp) (fun x hx => .inl hx)) (fun b hb => Nat.lt_of_lt_of_le (HSS.out b hb) hsz) (by omega)
    have HC2 := Lib.hid hcall2
    clear hcall2 HC B0
    go_wp2_with fail
    refine HC2.out.mono ?_
    rintro e w2 ⟨rfl, hF, K2⟩
    clear HC2 b0 b1
    have B2 := B1.keep K2 (by simp)
    have c0 := B2.cell 0
    have hmk := make_bools w2 ps.length (by omega)
    have KA := (Keep.refl [] w2).alloc (.cells (boolC (List.replicate ps.length false)) 4)
    have BR0 := Blk.new w2 (boolC (List.replicate ps.length false)) 4
    have HF := Lib.hid (hF.keep KA (by simp) (by simp))
    have HK := Lib.hid ((K01.trans K2).trans KA)
    have hfb : w1.heap.size + 2 < w2.heap.size ∧ w1.heap.size + 1 < w2.heap.size := ⟨hF.B.lt, hF.M.lt⟩
    obtain ⟨hfb1, hfb2⟩ := hfb
    generalize emptyF ps = L at HF HRS
    have hT0 : Keep [w2.heap.size] (w2.alloc (.cells (boolC (List.replicate ps.length false)) 4)) (w2.alloc (.cells (boolC (List.replicate ps.length false)) 4)) ∧ Blk (w2.alloc (.cells (boolC (List.replicate ps.length false)) 4)) w2.heap.size (boolC (partB ps.length L 0)) 4 := ⟨Keep.refl _ _, by rw [partB_zero]; exact BR0⟩
    have HT0 := Lib.hid hT0
    obtain ⟨W3, hW3⟩ : ∃ W, W = w2.alloc (.cells (boolC (List.replicate ps.length false)) 4) := ⟨_, rfl⟩
    rw [← hW3] at HF HK HT0
    have hbr : w.heap.size ≤ w2.heap.size := (K01.trans K2).size
    have HW3 := Lib.hid hW3
    clear hF KA BR0 hT0 hW3 K01 K2 K1 B1 B2
    go_wp2
    rw [← HW3.out]
    clear c0 hmk HW3
    go_loopw [17] (fun i wr => ∃ k : Nat, k ≤ ps.length ∧ i = .int .i64 k ∧ Keep [w2.heap.size] W3 wr ∧ Blk wr w2.heap.size (boolC (partB ps.length L k)) 4) (fun i _ => ps.length - (intOf i).toNat)
    case atStart => exact ⟨0, by omega, rfl, HT0.out⟩
    case round =>
      clear HT0
      obtain ⟨k, hk, rfl, Kr, BRr⟩ := hrel
      by_cases hlt : k < ps.length
      · have hlt' : (k : Int) < (ps.length : Int) := by omega
        have HLT := Lib.hid hlt
        have HSU : Hid (partB ps.length L (k + 1) = (partB ps.length L k).set k (decide ((k : Int) ∈ L))) := Lib.hid (partB_succ _ _ _ hlt)
        have hpl : (partB ps.length L k).length = ps.length := partB_len _ _ _
        generalize partB ps.length L k = q at BRr HSU hpl
        have HQL := Lib.hid hpl
        clear hpl
        have Fr := HF.out.keep Kr (by simp; omega) (by simp; omega)
        have g2 := Fr.B.cell 2
        have hlk := set_look Fr.M (k : Int)
        have r0 := BRr.cell k
        rw [boolC_at _ _ (by rw [HQL.out]; exact hlt)] at r0
        have f0 := BRr.frozen k
        generalize decide ((k : Int) ∈ L) = bn at hlk HSU
        have HFIN : Hid (Keep [w2.heap.size] W3 (wr.setCell ⟨w2.heap.size, k, none⟩ (.bool bn)) ∧ Blk (wr.setCell ⟨w2.heap.size, k, none⟩ (.bool bn)) w2.heap.size (boolC (partB ps.length L (k + 1))) 4) := Lib.hid ⟨Kr.setCell (p := ⟨w2.heap.size, k, none⟩) (by simp) (.bool bn), by rw [HSU.out, ← boolC_set]; exact BRr.set k (.bool bn)⟩
        clear HSU Fr BRr Kr
        go_wp2
        go_roundw
        case rel => exact ⟨k + 1, by have := HLT.out; omega, by go_num, HFIN.out⟩
        case measure => simp [intOf]; have := HLT.out; omega
      · obtain rfl : k = ps.length := by omega
        have HFIN : Hid (BoolV wr w.heap.size (.slice (some ⟨w2.heap.size, 0, none⟩) ps.length ps.length) R ∧ Keep [] w wr) := Lib.hid ⟨.inr ⟨by rw [HRS.out]; intro e; have h9 := congrArg List.length e; rw [partB_len] at h9; exact absurd h9 (by simp only [List.length_nil]; omega), _, by rw [HRS.out, partB_len], by rw [HRS.out]; exact BRr, hbr⟩, HK.out.then Kr (fun x hx => by simp at hx; subst hx; right; exact hbr)⟩
        clear BRr Kr
        go_wp2
        go_ret
        exact ⟨⟨_, rfl, HFIN.out.1⟩, HFIN.out.2⟩
end Go.Proofs.YtacihjabkiedcaaGreatDoor
namespace Go.Proofs.YtacihjabkiedcaaGreatDoor
open Go Go.RowKit Go.MapKept

theorem onlyF_mono {L M : List Int} (h : ∀ x ∈ L, x ∈ M) (l : List SymS) (ho : onlyF L l = true) : onlyF M l = true := by
  unfold onlyF at ho ⊢
  simp only [Bool.not_eq_true', List.any_eq_false] at ho ⊢
  intro s hs
  have h1 := ho s hs
  unfold hard at h1 ⊢
  simp at h1 ⊢
  exact ⟨h1.1, h _ h1.2⟩
theorem any_mono {L M : List Int} (h : ∀ x ∈ L, x ∈ M) (al : List (List SymS)) (ho : al.any (onlyF L) = true) : al.any (onlyF M) = true := by
  obtain ⟨a, ha, h1⟩ := List.any_eq_true.1 ho
  exact List.any_eq_true.2 ⟨a, ha, onlyF_mono h a h1⟩
/-- Each has an alternative of which all are there. -/
def Sound (ps : List ProdS) (L : List Int) : Prop := ∀ x ∈ L, ∃ n : Nat, ∃ p, x = n ∧ ps[n]? = some p ∧ p.a.any (onlyF L) = true
theorem estep_sound (ps : List ProdS) (q : List Int × Bool) (k : Nat) (h : Sound ps q.1) : Sound ps (estep ps q k).1 := by
  unfold estep
  split
  · rename_i p hp
    split
    · exact h
    · split
      · rename_i hn ha
        have hm : ∀ x ∈ q.1, x ∈ q.1 ++ [(k : Int)] := fun x hx => List.mem_append_left _ hx
        intro x hx
        rcases List.mem_append.1 hx with hx | hx
        · obtain ⟨n, p', e, hp', h1⟩ := h x hx
          exact ⟨n, p', e, hp', any_mono hm _ h1⟩
        · simp at hx
          exact ⟨k, p, hx, hp, any_mono hm _ ha⟩
      · exact h
  · exact h
theorem epass_sound (ps : List ProdS) (q : List Int × Bool) (h : Sound ps q.1) : ∀ k, Sound ps (epass ps k q).1
  | 0 => h
  | k + 1 => by rw [epass_succ]; exact estep_sound ps _ k (epass_sound ps q h k)
theorem epass_flag (ps : List ProdS) (q : List Int × Bool) (k : Nat) (h : (estep ps q k).2 = false) : q.2 = false ∧ estep ps q k = q ∧ ∀ p, ps[k]? = some p → (k : Int) ∈ q.1 ∨ p.a.any (onlyF q.1) = false := by
  unfold estep at h ⊢
  split at h
  · rename_i p hp
    split at h
    · rename_i hk
      simp only [hk, if_true]
      exact ⟨h, trivial, fun p' _ => .inl trivial⟩
    · rename_i hk
      split at h
      · cases h
      · rename_i ha
        rw [if_neg hk, if_neg ha]
        exact ⟨h, rfl, fun p' hp' => .inr (by rw [hp] at hp'; obtain rfl := Option.some.inj hp'; simpa using ha)⟩
  · rename_i hp
    exact ⟨h, rfl, fun p' hp' => by rw [hp] at hp'; cases hp'⟩
theorem epass_shut (ps : List ProdS) (L : List Int) : ∀ k, (epass ps k (L, false)).2 = false → epass ps k (L, false) = (L, false) ∧ ∀ j, j < k → ∀ p, ps[j]? = some p → (j : Int) ∈ L ∨ p.a.any (onlyF L) = false
  | 0, _ => ⟨rfl, fun j hj => by omega⟩
  | k + 1, h => by
    rw [epass_succ] at h ⊢
    obtain ⟨h1, h2, h3⟩ := epass_flag ps _ k h
    obtain ⟨i1, i2⟩ := epass_shut ps L k h1
    rw [h2, i1]
    refine ⟨rfl, fun j hj p hp => ?_⟩
    by_cases e : j = k
    · subst e
      rw [i1] at h3
      exact h3 p hp
    · exact i2 j (by omega) p hp
theorem emptyL_law (ps : List ProdS) : ∀ f L, falses (bl ps.length L) < f → Sound ps L → Sound ps (emptyL ps f L) ∧ ∀ j, j < ps.length → ∀ p, ps[j]? = some p → (j : Int) ∈ emptyL ps f L ∨ p.a.any (onlyF (emptyL ps f L)) = false
  | 0, L, hf, _ => by omega
  | f + 1, L, hf, hs => by
    unfold emptyL
    have hl := epass_less ps L ps.length
    split
    · rename_i hb
      have hl2 : falses (bl ps.length (epass ps ps.length (L, false)).1) < falses (bl ps.length L) := by
        rcases hl with ⟨h, _⟩ | ⟨_, h⟩
        · rw [hb] at h; cases h
        · exact h
      exact emptyL_law ps f _ (by omega) (epass_sound ps _ hs _)
    · rename_i hb
      obtain ⟨h1, h2⟩ := epass_shut ps L ps.length (by simpa using hb)
      rw [h1]
      exact ⟨hs, h2⟩
/-- A nonterminal is empty just if all symbols of an alternative are. -/
theorem emptyF_law (ps : List ProdS) (n : Nat) (hn : n < ps.length) : decide ((n : Int) ∈ emptyF ps) = ps[n].a.any (onlyF (emptyF ps)) := by
  obtain ⟨h1, h2⟩ := emptyL_law ps (ps.length + 1) [] (by have := falses_nil ps.length; omega) (fun x hx => absurd hx (by simp))
  rw [Bool.eq_iff_iff, decide_eq_true_eq]
  constructor
  · intro h
    obtain ⟨m, p, e, hp, ha⟩ := h1 _ h
    obtain rfl : n = m := by omega
    rw [List.getElem?_eq_getElem hn] at hp
    obtain rfl := Option.some.inj hp
    exact ha
  · intro h
    rcases h2 n hn _ (List.getElem?_eq_getElem hn) with hh | hh
    · exact hh
    · change ps[n].a.any (onlyF (emptyF ps)) = false at hh
      rw [h] at hh; cases hh
theorem onlyF_append (L : List Int) (a b : List SymS) : onlyF L (a ++ b) = (onlyF L a && onlyF L b) := by
  simp [onlyF, List.any_append]
end Go.Proofs.YtacihjabkiedcaaGreatDoor
namespace Go.Proofs.YtacihjabkiedcaaGreatDoor
open Go Go.RowKit Go.MapKept

theorem onlyF_iff (L : List Int) (l : List SymS) : onlyF L l = true ↔ ∀ s ∈ l, s.k = 2 ∧ s.n ∈ L := by
  unfold onlyF
  simp only [Bool.not_eq_true', List.any_eq_false]
  constructor
  · intro h s hs
    have h1 := h s hs
    unfold hard at h1
    simpa using h1
  · intro h s hs
    have h1 := h s hs
    unfold hard
    simp [h1]
/-- With all symbols of an alternative its nonterminal is there. -/
def Clo (ps : List ProdS) (P : Int → Prop) : Prop := ∀ (k : Nat) (p : ProdS), ps[k]? = some p → ∀ a ∈ p.a, (∀ s ∈ a, s.k = 2 ∧ P s.n) → P k
/-- It is in all sets that are closed. -/
def Emp (ps : List ProdS) (x : Int) : Prop := ∀ P : Int → Prop, Clo ps P → P x
theorem emp_clo (ps : List ProdS) : Clo ps (Emp ps) := fun k p hp a ha h P hP => hP k p hp a ha (fun s hs => ⟨(h s hs).1, (h s hs).2 P hP⟩)
theorem emp_step {ps : List ProdS} {L : List Int} (hL : ∀ x ∈ L, Emp ps x) {k : Nat} {p : ProdS} (hp : ps[k]? = some p) {a : List SymS} (ha : a ∈ p.a) (h : onlyF L a = true) : Emp ps k :=
  emp_clo ps k p hp a ha (fun s hs => ⟨((onlyF_iff L a).1 h s hs).1, hL _ ((onlyF_iff L a).1 h s hs).2⟩)
theorem estep_emp (ps : List ProdS) (q : List Int × Bool) (k : Nat) (h : ∀ x ∈ q.1, Emp ps x) : ∀ x ∈ (estep ps q k).1, Emp ps x := by
  unfold estep
  split
  · rename_i p hp
    split
    · exact h
    · split
      · rename_i hn ha
        intro x hx
        rcases List.mem_append.1 hx with hx | hx
        · exact h x hx
        · simp at hx
          subst hx
          obtain ⟨a, ha1, ha2⟩ := List.any_eq_true.1 ha
          exact emp_step h hp ha1 ha2
      · exact h
  · exact h
theorem epass_emp (ps : List ProdS) (q : List Int × Bool) (h : ∀ x ∈ q.1, Emp ps x) : ∀ k, ∀ x ∈ (epass ps k q).1, Emp ps x
  | 0 => h
  | k + 1 => by rw [epass_succ]; exact estep_emp ps _ k (epass_emp ps q h k)
theorem emptyL_emp (ps : List ProdS) : ∀ f L, (∀ x ∈ L, Emp ps x) → ∀ x ∈ emptyL ps f L, Emp ps x
  | 0, L, h => h
  | f + 1, L, h => by
    unfold emptyL
    split
    · exact emptyL_emp ps f _ (epass_emp ps _ h _)
    · exact epass_emp ps _ h _
theorem mem_emptyF (ps : List ProdS) (x : Int) : x ∈ emptyF ps ↔ Emp ps x := by
  constructor
  · exact emptyL_emp ps _ _ (fun x hx => absurd hx (by simp)) x
  · intro h
    refine h (fun y => y ∈ emptyF ps) (fun k p hp a ha hs => ?_)
    have hk : k < ps.length := (List.getElem?_eq_some_iff.1 hp).1
    obtain ⟨_, h2⟩ := emptyL_law ps (ps.length + 1) [] (by have := falses_nil ps.length; omega) (fun x hx => absurd hx (by simp))
    rcases h2 k hk p hp with h3 | h3
    · exact h3
    · exfalso
      change p.a.any (onlyF (emptyF ps)) = false at h3
      have : p.a.any (onlyF (emptyF ps)) = true := List.any_eq_true.2 ⟨a, ha, (onlyF_iff _ _).2 hs⟩
      rw [h3] at this
      cases this
/-- More alternatives, no fewer empty. -/
theorem emp_mono {ps qs : List ProdS} (h : ∀ (k : Nat) p, ps[k]? = some p → ∃ q, qs[k]? = some q ∧ ∀ a ∈ p.a, a ∈ q.a) (x : Int) (hx : Emp ps x) : Emp qs x := by
  intro P hP
  refine hx P (fun k p hp a ha hs => ?_)
  obtain ⟨q, hq, hqa⟩ := h k p hp
  exact hP k q hq a (hqa a ha) hs
end Go.Proofs.YtacihjabkiedcaaGreatDoor
