/- Places from which on something may be otherwise, and ranges in order that are picked: the plain law. -/
import Derived.Test.YtacihjabkiedcaaGreatDoorH29
import Derived.Test.YtacihjabkiedcaaGreatDoorH28
set_option linter.unusedVariables false
set_option linter.unusedSimpArgs false
namespace Go.Proofs.YtacihjabkiedcaaGreatDoor
open Go Go.RowKit

def loB (r : Rng) : Int := min (max r.lo 0) 1114112
def hiB (r : Rng) : Int := min (max r.hi (-1)) 1114111 + 1
def pts (l : List Rng) : List Int := [0, 1114112] ++ l.flatMap fun r => [loB r, hiB r]
/-- The places, rising, each once. -/
def bordF (l : List Rng) : List Int := compI (sortI (pts l))
theorem bordF_mem (l : List Rng) (z : Int) : z ∈ bordF l ↔ z ∈ pts l := by
  have hs : ∀ z, z ∈ sortI (pts l) ↔ z ∈ pts l := fun z => by unfold sortI; exact List.mem_mergeSort
  constructor
  · intro h
    exact (hs z).1 ((compI_sub _).2 z h)
  · intro h
    exact compI_mem _ _ ((hs z).2 h)
theorem bordF_rise (l : List Rng) : (bordF l).Pairwise (fun a b => a < b) := compI_strict _ (sortI_sorted _)
theorem pts_in (l : List Rng) : ∀ z ∈ pts l, 0 ≤ z ∧ z ≤ 1114112 := by
  intro z hz
  unfold pts at hz
  rcases List.mem_append.1 hz with h | h
  · simp at h
    rcases h with rfl | rfl <;> omega
  · obtain ⟨r, _, h⟩ := List.mem_flatMap.1 h
    simp [loB, hiB] at h
    rcases h with h | h <;> omega
theorem rise_at {xs : List Int} (h : xs.Pairwise (fun a b => a < b)) {i j : Nat} (hj : j < xs.length) (hij : i < j) : xs[i]'(by omega) < xs[j] := List.pairwise_iff_getElem.1 h i j (by omega) hj hij
theorem bordF_first (l : List Rng) : ∃ h : 0 < (bordF l).length, (bordF l)[0] = 0 := by
  have h0 : (0 : Int) ∈ bordF l := (bordF_mem l 0).2 (by simp [pts])
  obtain ⟨i, hi, he⟩ := List.getElem_of_mem h0
  refine ⟨by omega, ?_⟩
  by_cases e : i = 0
  · subst e; exact he
  · have h1 := rise_at (bordF_rise l) hi (Nat.pos_of_ne_zero e)
    have h2 := (pts_in l _ ((bordF_mem l _).1 (List.getElem_mem (by omega : 0 < (bordF l).length)))).1
    omega
theorem bordF_last (l : List Rng) : ∃ h : 1 < (bordF l).length, (bordF l)[(bordF l).length - 1]'(by omega) = 1114112 := by
  have h0 : (1114112 : Int) ∈ bordF l := (bordF_mem l _).2 (by simp [pts])
  obtain ⟨i, hi, he⟩ := List.getElem_of_mem h0
  obtain ⟨hp, hf⟩ := bordF_first l
  have hi0 : i ≠ 0 := by intro e; subst e; omega
  refine ⟨by omega, ?_⟩
  by_cases e : i = (bordF l).length - 1
  · subst e; exact he
  · have h1 := rise_at (bordF_rise l) (by omega : (bordF l).length - 1 < (bordF l).length) (by omega : i < (bordF l).length - 1)
    have h2 := (pts_in l _ ((bordF_mem l _).1 (List.getElem_mem (by omega : (bordF l).length - 1 < (bordF l).length)))).2
    omega
/-- Between two places that follow one another there is none. -/
theorem rise_next {xs : List Int} (h : xs.Pairwise (fun a b => a < b)) {k : Nat} (hk : k + 1 < xs.length) {x : Int} (hx : x ∈ xs) (h1 : xs[k] < x) : xs[k + 1] ≤ x := by
  obtain ⟨j, hj, rfl⟩ := List.getElem_of_mem hx
  by_cases e : j ≤ k
  · exfalso
    by_cases e2 : j = k
    · subst e2; omega
    · have := rise_at h (by omega : k < xs.length) (by omega : j < k)
      omega
  · by_cases e2 : j = k + 1
    · subst e2; exact Int.le_refl _
    · have := rise_at h hj (by omega : k + 1 < j)
      omega
theorem bordF_const (l : List Rng) {k : Nat} (hk : k + 1 < (bordF l).length) {n : Int} (h1 : (bordF l)[k] ≤ n) (h2 : n < (bordF l)[k + 1]) {r : Rng} (hr : r ∈ l) : inR n r = inR (bordF l)[k] r := by
  have hb := pts_in l
  have h3 := hb _ ((bordF_mem l _).1 (List.getElem_mem (by omega : k < (bordF l).length)))
  have h4 := hb _ ((bordF_mem l _).1 (List.getElem_mem hk))
  have hlo : loB r ∈ bordF l := (bordF_mem l _).2 (List.mem_append_right _ (List.mem_flatMap.2 ⟨r, hr, by simp⟩))
  have hhi : hiB r ∈ bordF l := (bordF_mem l _).2 (List.mem_append_right _ (List.mem_flatMap.2 ⟨r, hr, by simp⟩))
  have e1 : r.lo ≤ n ↔ r.lo ≤ (bordF l)[k] := by
    constructor
    · intro h
      by_cases hc : r.lo ≤ (bordF l)[k]
      · exact hc
      · exfalso
        have he : loB r = r.lo := by unfold loB; omega
        have := rise_next (bordF_rise l) hk hlo (by omega)
        omega
    · intro h; omega
  have e2 : n ≤ r.hi ↔ (bordF l)[k] ≤ r.hi := by
    constructor
    · intro h; omega
    · intro h
      by_cases hc : n ≤ r.hi
      · exact hc
      · exfalso
        have he : hiB r = r.hi + 1 := by unfold hiB; omega
        have := rise_next (bordF_rise l) hk hhi (by omega)
        omega
  unfold inR
  rw [decide_eq_decide.2 e1, decide_eq_decide.2 e2]
theorem hasR_const (l a : List Rng) (ha : ∀ r ∈ a, r ∈ l) {k : Nat} (hk : k + 1 < (bordF l).length) {n : Int} (h1 : (bordF l)[k] ≤ n) (h2 : n < (bordF l)[k + 1]) : hasR a n = hasR a (bordF l)[k] := by
  unfold hasR
  rw [Bool.eq_iff_iff, List.any_eq_true, List.any_eq_true]
  constructor
  · rintro ⟨r, hr, h⟩
    exact ⟨r, hr, by rw [← bordF_const l hk h1 h2 (ha r hr)]; exact h⟩
  · rintro ⟨r, hr, h⟩
    exact ⟨r, hr, by rw [bordF_const l hk h1 h2 (ha r hr)]; exact h⟩
theorem rngSl_pick {S : List Nat} {w : World} {A : Option Addr} {n C : Nat} {l : List Rng} (h : SlOf RngRow S w 2 (.slice A n C) l) (k : Nat) (hk : k < l.length) :
    ∃ b o, A = some ⟨b, o, none⟩ ∧ b ∉ S ∧ w.cell? ⟨b, o + k * 2, none⟩ = some (.int .i64 l[k].lo) ∧ w.cell? ⟨b, o + k * 2 + 1, none⟩ = some (.int .i64 l[k].hi) := by
  obtain ⟨b, o, ha, hb, row, _, hc, hR⟩ := SlOf.pick h k hk
  rw [show row = _ from hR] at hc
  exact ⟨b, o, ha, hb, by first | (simp; done) | simpa using hc 0 (by omega), by first | (simp; done) | simpa using hc 1 (by omega)⟩
/-- One more pair of places. -/
def pickStep (is : Int → Bool) (out : List Rng) (fr up : Int) : List Rng := if is fr = true then (match out.getLast? with
  | some r => if r.hi = fr - 1 then out.dropLast ++ [⟨r.lo, up⟩] else out ++ [⟨fr, up⟩]
  | none => [⟨fr, up⟩]) else out
def pickF (is : Int → Bool) (xs : List Int) : Nat → List Rng
  | 0 => []
  | k + 1 => pickStep is (pickF is xs k) (xs.getD k 0) (xs.getD (k + 1) 0 - 1)
/-- Ranges in order, with a number between. -/
def OrdR (l : List Rng) : Prop := (∀ r ∈ l, 0 ≤ r.lo ∧ r.lo ≤ r.hi ∧ r.hi ≤ 1114111) ∧ l.Pairwise (fun a b => a.hi + 1 < b.lo)
theorem hasR_append (a b : List Rng) (n : Int) : hasR (a ++ b) n = (hasR a n || hasR b n) := by simp [hasR, List.any_append]
theorem hasR_one (r : Rng) (n : Int) : hasR [r] n = inR n r := by simp [hasR]
theorem pick_law (is : Int → Bool) (xs : List Int) (hr : xs.Pairwise (fun a b => a < b)) (hb : ∀ z ∈ xs, 0 ≤ z ∧ z ≤ 1114112) (h0 : ∀ h : 0 < xs.length, xs[0] = 0)
    (hc : ∀ (k : Nat) (hk : k + 1 < xs.length) (n : Int), xs[k] ≤ n → n < xs[k + 1] → is n = is xs[k]) : ∀ (k : Nat) (hk : k < xs.length), OrdR (pickF is xs k) ∧ (∀ r ∈ pickF is xs k, r.hi < xs[k]) ∧ ∀ n, hasR (pickF is xs k) n = (decide (0 ≤ n) && decide (n < xs[k]) && is n)
  | 0, hk => by
    refine ⟨⟨by simp [pickF], by simp [pickF]⟩, by simp [pickF], fun n => ?_⟩
    rw [h0 hk]
    have : (decide (0 ≤ n) && decide (n < 0)) = false := by
      rw [Bool.and_eq_false_iff]
      by_cases h : 0 ≤ n
      · exact .inr (decide_eq_false (by omega))
      · exact .inl (decide_eq_false h)
    rw [this]
    simp [pickF, hasR]
  | k + 1, hk => by
    obtain ⟨⟨i1, i2⟩, i3, i4⟩ := pick_law is xs hr hb h0 hc k (by omega)
    have hlt := rise_at hr hk (Nat.lt_succ_self k)
    have hb1 := hb _ (List.getElem_mem (by omega : k < xs.length))
    have hb2 := hb _ (List.getElem_mem hk)
    have hck := hc k hk
    have e1 : xs.getD k 0 = xs[k] := by simp [List.getD, (by omega : k < xs.length)]
    have e2 : xs.getD (k + 1) 0 = xs[k + 1] := by simp [List.getD, hk]
    rw [pickF, e1, e2]
    generalize pickF is xs k = R at i1 i2 i3 i4
    generalize xs[k] = fr at hlt hb1 hck i3 i4
    generalize xs[k + 1] = up at hlt hb2 hck
    unfold pickStep
    cases hf : is fr with
    | false =>
      rw [if_neg (by simp)]
      refine ⟨⟨i1, i2⟩, fun r h => by have := i3 r h; omega, fun n => ?_⟩
      rw [i4 n]
      by_cases h1 : n < fr
      · simp [h1, show n < up by omega]
      · by_cases h2 : n < up
        · rw [hck n (by omega) h2, hf]; simp
        · simp [h1, h2]
    | true =>
      rw [if_pos rfl]
      have hmem : ∀ n, (decide (0 ≤ n) && decide (n < up) && is n) = ((decide (0 ≤ n) && decide (n < fr) && is n) || inR n ⟨fr, up - 1⟩) := by
        intro n
        unfold inR
        by_cases h1 : n < fr
        · simp [h1, show n < up by omega, show ¬ fr ≤ n by omega]
        · by_cases h2 : n < up
          · rw [hck n (by omega) h2, hf]
            simp [h1, h2, show 0 ≤ n by omega, show fr ≤ n by omega, show n ≤ up - 1 by omega]
          · simp [h1, h2, show ¬ n ≤ up - 1 by omega]
      cases hl : R.getLast? with
      | none =>
        have hR : R = [] := List.getLast?_eq_none_iff.1 hl
        subst hR
        refine ⟨⟨?_, by simp⟩, ?_, fun n => ?_⟩
        · intro r h
          simp at h; subst h
          exact ⟨by simp only; omega, by simp only; omega, by simp only; omega⟩
        · intro r h
          simp at h; subst h
          simp only; omega
        · rw [hmem n, ← i4 n]
          simp [hasR]
      | some r =>
        obtain ⟨R', hR⟩ := List.getLast?_eq_some_iff.1 hl
        subst hR
        have j1 := i1 r (by simp)
        have j3 := i3 r (by simp)
        rw [List.pairwise_append] at i2
        obtain ⟨p1, _, p3⟩ := i2
        by_cases hh : r.hi = fr - 1
        · simp only
          rw [if_pos hh, List.dropLast_concat]
          refine ⟨⟨fun q h => ?_, ?_⟩, fun q h => ?_, fun n => ?_⟩
          · rcases List.mem_append.1 h with h | h
            · exact i1 q (by simp [h])
            · simp at h; subst h; exact ⟨j1.1, by simp only; omega, by simp only; omega⟩
          · rw [List.pairwise_append]
            exact ⟨p1, by simp, fun a ha b hb => by simp at hb; subst hb; exact p3 a ha r (by simp)⟩
          · rcases List.mem_append.1 h with h | h
            · have := i3 q (by simp [h]); omega
            · simp at h; subst h; simp only; omega
          · rw [hmem n, ← i4 n, hasR_append, hasR_append, hasR_one, hasR_one, Bool.or_assoc]
            congr 1
            unfold inR
            rw [Bool.eq_iff_iff]
            simp
            omega
        · simp only
          rw [if_neg hh]
          refine ⟨⟨fun q h => ?_, ?_⟩, fun q h => ?_, fun n => ?_⟩
          · rcases List.mem_append.1 h with h | h
            · exact i1 q h
            · simp at h; subst h; exact ⟨by simp only; omega, by simp only; omega, by simp only; omega⟩
          · rw [List.pairwise_append]
            refine ⟨by rw [List.pairwise_append]; exact ⟨p1, by simp, p3⟩, by simp, fun a ha b hb => ?_⟩
            simp at hb; subst hb
            simp only
            rcases List.mem_append.1 ha with ha | ha
            · have := p3 a ha r (by simp)
              omega
            · simp at ha; subst ha; omega
          · rcases List.mem_append.1 h with h | h
            · have := i3 q h; omega
            · simp at h; subst h; simp only; omega
          · rw [hmem n, ← i4 n, hasR_append, hasR_one]
/-- The ranges, in order, of which something is so. -/
def pickR (is : Int → Bool) (l : List Rng) : List Rng := pickF is (bordF l) ((bordF l).length - 1)
theorem pickR_law (is : Int → Bool) (l : List Rng) (hc : ∀ (k : Nat) (hk : k + 1 < (bordF l).length) (n : Int), (bordF l)[k] ≤ n → n < (bordF l)[k + 1] → is n = is (bordF l)[k]) :
    OrdR (pickR is l) ∧ ∀ n, hasR (pickR is l) n = (decide (0 ≤ n) && decide (n ≤ 1114111) && is n) := by
  obtain ⟨h1, h2⟩ := bordF_last l
  obtain ⟨i1, i2, i3⟩ := pick_law is (bordF l) (bordF_rise l) (fun z hz => pts_in l z ((bordF_mem l z).1 hz)) (fun h => (bordF_first l).2) hc ((bordF l).length - 1) (by omega)
  refine ⟨i1, fun n => ?_⟩
  unfold pickR
  rw [i3 n, h2]
  congr 2
  rw [decide_eq_decide]
  omega
def twoR (f : Bool → Bool → Bool) (a b : List Rng) : List Rng := pickR (fun n => f (hasR a n) (hasR b n)) (a ++ b)
theorem twoR_law (f : Bool → Bool → Bool) (a b : List Rng) : OrdR (twoR f a b) ∧ ∀ n, hasR (twoR f a b) n = (decide (0 ≤ n) && decide (n ≤ 1114111) && f (hasR a n) (hasR b n)) := by
  refine pickR_law _ _ (fun k hk n h1 h2 => ?_)
  rw [hasR_const (a ++ b) a (fun r hr => List.mem_append_left _ hr) hk h1 h2, hasR_const (a ++ b) b (fun r hr => List.mem_append_right _ hr) hk h1 h2]
theorem ordR_some {l : List Rng} (h : OrdR l) : l ≠ [] ↔ ∃ n, hasR l n = true := by
  constructor
  · intro hne
    cases l with
    | nil => exact absurd rfl hne
    | cons r l =>
      have := h.1 r List.mem_cons_self
      exact ⟨r.lo, by simp [hasR, inR]; left; omega⟩
  · rintro ⟨n, hn⟩ e
    subst e
    simp [hasR] at hn
/-- Ranges in order of the same numbers are the same. -/
theorem ordR_eq : ∀ (a b : List Rng), OrdR a → OrdR b → (∀ n, hasR a n = hasR b n) → a = b
  | [], [], _, _, _ => rfl
  | [], r :: b, _, hb, h => by
    have := (ordR_some hb).1 (by simp)
    obtain ⟨n, hn⟩ := this
    rw [← h n] at hn
    simp [hasR] at hn
  | r :: a, [], ha, _, h => by
    have := (ordR_some ha).1 (by simp)
    obtain ⟨n, hn⟩ := this
    rw [h n] at hn
    simp [hasR] at hn
  | r :: a, s :: b, ha, hb, h => by
    obtain ⟨a1, a2⟩ := ha
    obtain ⟨b1, b2⟩ := hb
    rw [List.pairwise_cons] at a2 b2
    have hr := a1 r List.mem_cons_self
    have hs := b1 s List.mem_cons_self
    have hin : ∀ (r : Rng) (l : List Rng) (n : Int), hasR (r :: l) n = (inR n r || hasR l n) := fun r l n => by simp [hasR]
    have hla : ∀ n, n ≤ r.hi + 1 → hasR a n = false := fun n hn => by
      unfold hasR
      rw [List.any_eq_false]
      intro q hq
      have := a2.1 q hq
      unfold inR
      simp; omega
    have hlb : ∀ n, n ≤ s.hi + 1 → hasR b n = false := fun n hn => by
      unfold hasR
      rw [List.any_eq_false]
      intro q hq
      have := b2.1 q hq
      unfold inR
      simp; omega
    have inT : ∀ (n : Int) (r : Rng), inR n r = true ↔ r.lo ≤ n ∧ n ≤ r.hi := fun n r => by unfold inR; simp
    have inF : ∀ (n : Int) (r : Rng), ¬(r.lo ≤ n ∧ n ≤ r.hi) → inR n r = false := fun n r hn => by
      cases hq : inR n r with
      | false => rfl
      | true => exact absurd ((inT _ _).1 hq) hn
    have elo : r.lo = s.lo := by
      have h1 := h r.lo
      have h2 := h s.lo
      rw [hin, hin] at h1 h2
      have t1 : inR r.lo r = true := (inT _ _).2 ⟨by omega, by omega⟩
      have t2 : inR s.lo s = true := (inT _ _).2 ⟨by omega, by omega⟩
      rw [t1, Bool.true_or] at h1
      rw [t2, Bool.true_or] at h2
      by_cases c : r.lo < s.lo
      · exfalso
        have u1 : inR r.lo s = false := inF _ _ (by omega)
        rw [u1, hlb r.lo (by omega)] at h1
        cases h1
      · by_cases c2 : s.lo < r.lo
        · exfalso
          have u1 : inR s.lo r = false := inF _ _ (by omega)
          rw [u1, hla s.lo (by omega)] at h2
          cases h2
        · omega
    have ehi : r.hi = s.hi := by
      by_cases c : r.hi < s.hi
      · exfalso
        have h1 := h (r.hi + 1)
        rw [hin, hin] at h1
        have u1 : inR (r.hi + 1) r = false := inF _ _ (by omega)
        have u2 : inR (r.hi + 1) s = true := (inT _ _).2 ⟨by omega, by omega⟩
        rw [u1, u2, hla (r.hi + 1) (by omega)] at h1
        cases h1
      · by_cases c2 : s.hi < r.hi
        · exfalso
          have h1 := h (s.hi + 1)
          rw [hin, hin] at h1
          have u1 : inR (s.hi + 1) s = false := inF _ _ (by omega)
          have u2 : inR (s.hi + 1) r = true := (inT _ _).2 ⟨by omega, by omega⟩
          rw [u1, u2, hlb (s.hi + 1) (by omega)] at h1
          cases h1
        · omega
    have ers : r = s := by cases r; cases s; simp_all
    subst ers
    rw [ordR_eq a b ⟨fun q hq => a1 q (List.mem_cons_of_mem _ hq), a2.2⟩ ⟨fun q hq => b1 q (List.mem_cons_of_mem _ hq), b2.2⟩ (fun n => ?_)]
    by_cases c : n ≤ r.hi + 1
    · rw [hla n c, hlb n c]
    · have h1 := h n
      rw [hin, hin] at h1
      have u1 : inR n r = false := inF _ _ (by omega)
      rw [u1, Bool.false_or, Bool.false_or] at h1
      exact h1
end Go.Proofs.YtacihjabkiedcaaGreatDoor
