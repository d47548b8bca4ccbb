/- Who has a text, said by itself: the least set that is closed. -/
import Derived.Test.YtacihjabkiedcaaGreatDoorH16
import Derived.Test.YtacihjabkiedcaaGreatDoorH22
import Derived.Test.YtacihjabkiedcaaGreatDoorH17
set_option linter.unusedVariables false
set_option linter.unusedSimpArgs false
namespace Go.Proofs.YtacihjabkiedcaaGreatDoor
open Go Go.RowKit Go.MapKept

def tokM (sm : List Rng → Bool) (s : SymS) : Bool := if s.k = 0 then !(decide (s.r.length = 0)) else sm s.r
/-- The symbol has a text, if those of P have. -/
def okS (sm : List Rng → Bool) (P : Nat → Prop) (s : SymS) : Prop := (s.k = 2 ∧ P s.n.toNat) ∨ (s.k ≠ 2 ∧ tokM sm s = true)
theorem makesB_iff (sm : List Rng → Bool) (out : List Bool) (l : List SymS) : makesB sm out l = true ↔ ∀ s ∈ l, okS sm (fun x => out.getD x false = true) s := by
  unfold makesB
  simp only [Bool.not_eq_true', List.any_eq_false]
  refine forall_congr' fun s => forall_congr' fun _ => ?_
  unfold vainB okS tokM
  by_cases h : s.k = 2
  · simp [h]
  · by_cases h0 : s.k = 0
    · simp [h0]
    · simp [h, h0]
def CloM (sm : List Rng → Bool) (ps : List ProdS) (P : Nat → Prop) : Prop := ∀ (k : Nat) (p : ProdS), ps[k]? = some p → ∀ a ∈ p.a, (∀ s ∈ a, okS sm P s) → P k
def Mak (sm : List Rng → Bool) (ps : List ProdS) (x : Nat) : Prop := ∀ P : Nat → Prop, CloM sm ps P → P x
theorem okS_mono {sm : List Rng → Bool} {P Q : Nat → Prop} {s : SymS} (h : okS sm P s) (hPQ : ∀ x, P x → Q x) : okS sm Q s := by
  rcases h with ⟨h1, h2⟩ | h
  · exact .inl ⟨h1, hPQ _ h2⟩
  · exact .inr h
theorem mak_clo (sm : List Rng → Bool) (ps : List ProdS) : CloM sm ps (Mak sm ps) := fun k p hp a ha h P hP => hP k p hp a ha (fun s hs => okS_mono (h s hs) (fun _ hx => hx P hP))
theorem getD_set (l : List Bool) (n x : Nat) (h : (l.set n true).getD x false = true) : x = n ∨ l.getD x false = true := by
  by_cases e : n = x
  · exact .inl e.symm
  · right
    rw [List.getD_eq_getElem?_getD, List.getElem?_set_ne e, ← List.getD_eq_getElem?_getD] at h
    exact h
theorem mstep_mak (sm : List Rng → Bool) (ps : List ProdS) (q : List Bool × Bool) (k : Nat) (h : ∀ x, q.1.getD x false = true → Mak sm ps x) : ∀ x, (mstep sm ps q k).1.getD x false = true → Mak sm ps x := by
  unfold mstep
  split
  · rename_i p hp
    split
    · rename_i hc
      intro x hx
      rcases getD_set _ _ _ hx with rfl | hx
      · obtain ⟨a, ha1, ha2⟩ := List.any_eq_true.1 hc.2
        exact mak_clo sm ps x p hp a ha1 (fun s hs => okS_mono ((makesB_iff sm _ a).1 ha2 s hs) h)
      · exact h x hx
    · exact h
  · exact h
theorem mpass_mak (sm : List Rng → Bool) (ps : List ProdS) (q : List Bool × Bool) (h : ∀ x, q.1.getD x false = true → Mak sm ps x) : ∀ k, ∀ x, (mpass sm ps k q).1.getD x false = true → Mak sm ps x
  | 0 => h
  | k + 1 => by rw [mpass_succ]; exact mstep_mak sm ps _ k (mpass_mak sm ps q h k)
theorem makesL_mak (sm : List Rng → Bool) (ps : List ProdS) : ∀ f out, (∀ x, out.getD x false = true → Mak sm ps x) → ∀ x, (makesL sm ps f out).getD x false = true → Mak sm ps x
  | 0, out, h => h
  | f + 1, out, h => by
    unfold makesL
    split
    · exact makesL_mak sm ps f _ (mpass_mak sm ps _ h _)
    · exact mpass_mak sm ps _ h _
theorem mstep_flag (sm : List Rng → Bool) (ps : List ProdS) (q : List Bool × Bool) (k : Nat) (h : (mstep sm ps q k).2 = false) : q.2 = false ∧ mstep sm ps q k = q ∧ ∀ p, ps[k]? = some p → q.1[k]? ≠ some false ∨ p.a.any (makesB sm q.1) = false := by
  unfold mstep at h ⊢
  split at h
  · rename_i p hp
    split at h
    · cases h
    · rename_i hc
      refine ⟨h, by rw [if_neg hc], fun p' hp' => ?_⟩
      rw [hp] at hp'
      obtain rfl := Option.some.inj hp'
      by_cases h1 : q.1[k]? = some false
      · right
        cases h2 : p.a.any (makesB sm q.1) with
        | false => rfl
        | true => exact absurd ⟨h1, h2⟩ hc
      · exact .inl h1
  · rename_i hp
    exact ⟨h, rfl, fun p' hp' => by rw [hp] at hp'; cases hp'⟩
theorem mpass_shut (sm : List Rng → Bool) (ps : List ProdS) (out : List Bool) : ∀ k, (mpass sm ps k (out, false)).2 = false → mpass sm ps k (out, false) = (out, false) ∧ ∀ j, j < k → ∀ p, ps[j]? = some p → out[j]? ≠ some false ∨ p.a.any (makesB sm out) = false
  | 0, _ => ⟨rfl, fun j h => absurd h (by omega)⟩
  | k + 1, h => by
    rw [mpass_succ] at h ⊢
    obtain ⟨h1, h2, h3⟩ := mstep_flag sm ps _ k h
    obtain ⟨h4, h5⟩ := mpass_shut sm ps out k h1
    rw [h4] at h2 h3
    rw [h4, h2]
    refine ⟨rfl, fun j hj p hp => ?_⟩
    by_cases e : j = k
    · subst e; exact h3 p hp
    · exact h5 j (by omega) p hp
theorem makesL_law (sm : List Rng → Bool) (ps : List ProdS) : ∀ f out, falses out < f → ∀ j, j < ps.length → ∀ p, ps[j]? = some p → (makesL sm ps f out)[j]? ≠ some false ∨ p.a.any (makesB sm (makesL sm ps f out)) = false
  | 0, out, h => absurd h (by omega)
  | f + 1, out, h => by
    unfold makesL
    split
    · rename_i hb
      refine makesL_law sm ps f _ ?_
      rcases mpass_less sm ps out ps.length with ⟨h1, _⟩ | ⟨_, h1⟩
      · rw [hb] at h1; cases h1
      · omega
    · rename_i hb
      obtain ⟨h1, h2⟩ := mpass_shut sm ps out ps.length (by simpa using hb)
      rw [h1]
      exact h2
theorem makesF_len (sm : List Rng → Bool) (ps : List ProdS) : (makesF sm ps).length = ps.length := by simp [makesF, makesL_len]
theorem falses_rep (n : Nat) : falses (List.replicate n false) = n := by simp [falses, List.countP_replicate]
theorem makesF_iff (sm : List Rng → Bool) (ps : List ProdS) (x : Nat) (hx : x < ps.length) : (makesF sm ps).getD x false = true ↔ Mak sm ps x := by
  constructor
  · exact makesL_mak sm ps _ _ (fun y hy => by
      rw [List.getD_eq_getElem?_getD] at hy
      by_cases h : y < ps.length
      · rw [List.getElem?_replicate, if_pos h] at hy; cases hy
      · rw [List.getElem?_replicate, if_neg h] at hy; cases hy) x
  · intro h
    refine h (fun y => (makesF sm ps).getD y false = true) (fun k p hp a ha hs => ?_)
    have hk : k < ps.length := (List.getElem?_eq_some_iff.1 hp).1
    have h2 := makesL_law sm ps (ps.length + 1) (List.replicate ps.length false) (by rw [falses_rep]; omega) k hk p hp
    change (makesF sm ps)[k]? ≠ some false ∨ p.a.any (makesB sm (makesF sm ps)) = false at h2
    have hkl : k < (makesF sm ps).length := by rw [makesF_len]; exact hk
    rcases h2 with h3 | h3
    · show (makesF sm ps).getD k false = true
      rw [List.getElem?_eq_getElem hkl] at h3
      rw [List.getD_eq_getElem?_getD, List.getElem?_eq_getElem hkl]
      cases hv : (makesF sm ps)[k] with
      | true => rfl
      | false => rw [hv] at h3; exact absurd rfl h3
    · exfalso
      have : p.a.any (makesB sm (makesF sm ps)) = true := List.any_eq_true.2 ⟨a, ha, (makesB_iff _ _ _).2 hs⟩
      rw [h3] at this; cases this
/-- Alternatives of which each is as good as one here. -/
theorem mak_mono {sm : List Rng → Bool} {ps qs : List ProdS} (h : ∀ (k : Nat) p, ps[k]? = some p → ∃ q, qs[k]? = some q ∧ ∀ a ∈ p.a, ∃ b ∈ q.a, ∀ P : Nat → Prop, (∀ s ∈ a, okS sm P s) → ∀ s ∈ b, okS sm P s) (x : Nat) (hx : Mak sm ps x) : Mak sm qs x := by
  intro P hP
  refine hx P (fun k p hp a ha hs => ?_)
  obtain ⟨q, hq, hqa⟩ := h k p hp
  obtain ⟨b, hb, hab⟩ := hqa a ha
  exact hP k q hq b hb (hab P hs)
/-- What is empty has a text. -/
theorem emp_mak (sm : List Rng → Bool) (ps : List ProdS) (n : Nat) (h : Emp ps n) : Mak sm ps n := by
  intro P hP
  have := h (fun i => P i.toNat) (fun k p hp a ha hs => hP k p hp a ha (fun s hs' => .inl (hs s hs')))
  simpa using this
theorem moreP_get (ps : List ProdS) (n : Nat) (l : List SymS) (hn : n < ps.length) (k : Nat) (q : ProdS) (hq : (moreP ps n l)[k]? = some q) : (k = n ∧ q.a = ps[n].a ++ [l]) ∨ (k ≠ n ∧ ps[k]? = some q) := by
  rw [moreP_eq ps n l hn] at hq
  by_cases e : n = k
  · subst e
    rw [List.getElem?_set_self hn] at hq
    exact .inl ⟨rfl, by rw [← Option.some.inj hq]⟩
  · rw [List.getElem?_set_ne e] at hq
    exact .inr ⟨fun h => e h.symm, hq⟩
/-- With an alternative of itself alone it has a text just if it had. -/
theorem mak_self (sm : List Rng → Bool) (ps : List ProdS) (n : Nat) (hn : n < ps.length) (r : List Rng) (x : Nat) : Mak sm (moreP ps n [⟨2, r, n⟩]) x ↔ Mak sm ps x := by
  constructor
  · intro h P hP
    refine h P (fun k q hq a ha hs => ?_)
    rcases moreP_get ps n _ hn k q hq with ⟨rfl, hqa⟩ | ⟨_, hq⟩
    · rw [hqa] at ha
      rcases List.mem_append.1 ha with ha | ha
      · exact hP k ps[k] (List.getElem?_eq_getElem hn) a ha hs
      · simp at ha
        subst ha
        rcases hs ⟨2, r, k⟩ (by simp) with ⟨_, h2⟩ | ⟨h2, _⟩
        · simpa using h2
        · exact absurd rfl h2
    · exact hP k q hq a ha hs
  · refine mak_mono (fun k p hp => ?_) x
    by_cases e : n = k
    · subst e
      rw [List.getElem?_eq_getElem hn] at hp
      obtain rfl := Option.some.inj hp
      exact ⟨_, by rw [moreP_eq ps n _ hn, List.getElem?_set_self hn], fun a ha => ⟨a, List.mem_append_left _ ha, fun _ h => h⟩⟩
    · exact ⟨p, by rw [moreP_eq ps n _ hn, List.getElem?_set_ne e]; exact hp, fun a ha => ⟨a, ha, fun _ h => h⟩⟩
theorem mak_nil (sm : List Rng → Bool) (ps : List ProdS) (n : Nat) (hn : n < ps.length) : Mak sm (moreP ps n []) n :=
  mak_clo sm _ n ⟨ps[n].a ++ [[]], ps[n].marks, ps[n].nt⟩ (by rw [moreP_eq ps n _ hn, List.getElem?_set_self hn]) [] (by simp) (fun s hs => by simp at hs)
theorem moreP_gmay (ps : List ProdS) (n : Nat) (l : List SymS) (hn : n < ps.length) (h : gmay ps = true) (h7 : ps[n].a.length ≤ 7) (hl : altOdd ps.length l = false) : gmay (moreP ps n l) = true := by
  unfold gmay at h ⊢
  rw [moreP_len]
  simp only [Bool.and_eq_true, Bool.not_eq_true', List.any_eq_false, decide_eq_true_eq] at h ⊢
  refine ⟨⟨fun q hq => ?_, h.1.2⟩, h.2⟩
  obtain ⟨k, hk⟩ := List.getElem?_of_mem hq
  rcases moreP_get ps n l hn k q hk with ⟨rfl, _⟩ | ⟨_, hk⟩
  · rw [moreP_eq ps k l hn, List.getElem?_set_self hn] at hk
    obtain rfl := Option.some.inj hk
    have h1 := h.1.1 ps[k] (List.getElem_mem hn)
    unfold prodBad at h1 ⊢
    simp only [Bool.not_eq_true, Bool.or_eq_false_iff, List.any_append, List.length_append, List.length_cons, List.length_nil] at h1 ⊢
    obtain ⟨⟨⟨⟨⟨a1, a2⟩, a3⟩, a4⟩, a5⟩, a6⟩ := h1
    exact ⟨⟨⟨⟨⟨by simp, by simp; omega⟩, a3⟩, a4⟩, a5⟩, by simp [a6, hl]⟩
  · exact h.1.1 q (List.mem_of_getElem? hk)
theorem self_odd (ps : List ProdS) (n : Nat) (hn : n < ps.length) : altOdd ps.length [⟨2, [], n⟩] = false := by
  simp [altOdd, symBad]; omega
theorem nil_odd (m : Nat) : altOdd m [] = false := by simp [altOdd]
end Go.Proofs.YtacihjabkiedcaaGreatDoor
