/- What each still waits for, and what is ready: plain. -/
import Derived.Test.YtbpidoiellcccaaGreatDoorK22
set_option linter.unusedVariables false
set_option linter.unusedSimpArgs false
namespace Go.Proofs.YtbpidoiellcccaaGreatDoor
open Go Go.RowKit Go.MapKept

/-- How many of those that n waits for are left. -/
def waitF (ps : List ProdS) (S : Nat → Bool) (n : Nat) : Nat := (leftsR ps n).countP fun z => S z.toNat
def waitsS (ps : List ProdS) (S : Nat → Bool) : List Int := (List.range ps.length).map fun n => (waitF ps S n : Int)
def allS (ps : List ProdS) : Nat → Bool := fun n => decide (n < ps.length)
theorem lfP_lt {ps : List ProdS} {n k : Nat} (h : lfP ps n k = true) : n < ps.length ∧ k < ps.length := by
  unfold lfP at h
  simp only [Bool.and_eq_true, decide_eq_true_eq] at h
  have := leftsR_in _ h.2
  exact ⟨h.1, by omega⟩
theorem lfP_mem {ps : List ProdS} {n k : Nat} (hn : n < ps.length) : lfP ps n k = true ↔ (k : Int) ∈ leftsR ps n := by simp [lfP, hn]
theorem waitF_zero {ps : List ProdS} {S : Nat → Bool} {n : Nat} (hn : n < ps.length) : waitF ps S n = 0 ↔ ∀ k, lfP ps n k = true → S k = false := by
  unfold waitF
  rw [List.countP_eq_zero]
  constructor
  · intro h k hk
    have := h _ ((lfP_mem hn).1 hk)
    simpa using this
  · intro h z hz
    have h1 := leftsR_in z hz
    have := h z.toNat ((lfP_mem hn).2 (by rw [show ((z.toNat : Nat) : Int) = z by omega]; exact hz))
    simp [this]
theorem count_del (S : Nat → Bool) (n : Nat) (hS : S n = true) : ∀ l : List Int, l.Nodup → (∀ z ∈ l, 0 ≤ z) → l.countP (fun z => S z.toNat) = l.countP (fun z => del S n z.toNat) + (if (n : Int) ∈ l then 1 else 0)
  | [], _, _ => by simp
  | z :: l, hn, hz => by
    have ih := count_del S n hS l (List.nodup_cons.1 hn).2 (fun y hy => hz y (by simp [hy]))
    have h0 := hz z (by simp)
    rw [List.countP_cons, List.countP_cons, ih]
    by_cases e : z = n
    · subst e
      have h1 : del S n (n : Int).toNat = false := by simp [del]
      have h2 : S (n : Int).toNat = true := by simpa using hS
      have h3 := (List.nodup_cons.1 hn).1
      simp [h1, h3, hS, del_self]
    · have h1 : del S n z.toNat = S z.toNat := del_ne S (by omega)
      have h2 : (n : Int) ≠ z := fun h => e h.symm
      simp only [h1, List.mem_cons, h2, false_or]
      omega
theorem waitF_del {ps : List ProdS} {S : Nat → Bool} {n m : Nat} (hS : S n = true) (hm : m < ps.length) : waitF ps S m = waitF ps (del S n) m + (if lfP ps m n = true then 1 else 0) := by
  unfold waitF
  rw [count_del S n hS _ (leftsR_nodup ps m) (fun z hz => (leftsR_in z hz).1)]
  congr 1
  by_cases e : (n : Int) ∈ leftsR ps m
  · rw [if_pos e, if_pos ((lfP_mem hm).2 e)]
  · rw [if_neg e, if_neg (fun h => e ((lfP_mem hm).1 h))]
theorem ready_iff {ps : List ProdS} {S : Nat → Bool} {n : Nat} (hS : ∀ n, S n = true → n < ps.length) : Ready (lfP ps) S n ↔ S n = true ∧ waitF ps S n = 0 := by
  unfold Ready
  constructor
  · rintro ⟨h1, h2⟩; exact ⟨h1, (waitF_zero (hS n h1)).2 h2⟩
  · rintro ⟨h1, h2⟩; exact ⟨h1, (waitF_zero (hS n h1)).1 h2⟩
theorem waitsS_all (ps : List ProdS) : waitsS ps (allS ps) = waitsR ps ps.length := by
  apply List.ext_getElem (by simp [waitsS, waitsR])
  intro i h1 h2
  have hi : i < ps.length := by simpa [waitsS] using h1
  simp only [waitsS, waitsR, List.getElem_map, List.getElem_range, if_pos hi]
  congr 1
  unfold waitF
  rw [List.countP_eq_length]
  intro z hz
  have := leftsR_in z hz
  simp [allS]; omega
theorem nth_map (N : Nat) (f : Nat → Int) (i : Nat) (h : i < N) : nth ((List.range N).map f) i = f i := by simp [nth, h]
theorem nth_waitsS (ps : List ProdS) (S : Nat → Bool) (i : Nat) (h : i < ps.length) : nth (waitsS ps S) i = waitF ps S i := nth_map _ _ _ h
/-- The first rounds: those of the first n that wait for none. -/
def FillI (ps : List ProdS) (n : Nat) (a : List Int) : Prop := a.Nodup ∧ a.length ≤ n ∧ ∀ z, z ∈ a ↔ ∃ m : Nat, z = m ∧ m < n ∧ waitF ps (allS ps) m = 0
theorem FillI.zero (ps : List ProdS) : FillI ps 0 [] := ⟨List.nodup_nil, by simp, fun z => by simp⟩
theorem FillI.put {ps : List ProdS} {n : Nat} {a b : List Int} (h : FillI ps n a) (hp : b.Perm (a ++ [(n : Int)])) (h0 : waitF ps (allS ps) n = 0) : FillI ps (n + 1) b := by
  obtain ⟨h1, h2, h3⟩ := h
  have hnn : (n : Int) ∉ a := fun hm => by
    obtain ⟨m, e, hm, _⟩ := (h3 _).1 hm
    omega
  refine ⟨hp.nodup_iff.2 ?_, by rw [hp.length_eq]; simp; omega, fun z => ?_⟩
  · rw [List.nodup_append]
    exact ⟨h1, by simp, fun x hx y hy => by simp at hy; subst hy; rintro rfl; exact hnn hx⟩
  · rw [hp.mem_iff, List.mem_append, h3 z, List.mem_singleton]
    constructor
    · rintro (⟨m, rfl, hm, hw⟩ | rfl)
      · exact ⟨m, rfl, by omega, hw⟩
      · exact ⟨n, rfl, by omega, h0⟩
    · rintro ⟨m, rfl, hm, hw⟩
      by_cases e : m = n
      · subst e; exact .inr rfl
      · exact .inl ⟨m, rfl, by omega, hw⟩
theorem FillI.skip {ps : List ProdS} {n : Nat} {a : List Int} (h : FillI ps n a) (h0 : waitF ps (allS ps) n ≠ 0) : FillI ps (n + 1) a := by
  obtain ⟨h1, h2, h3⟩ := h
  refine ⟨h1, by omega, fun z => ?_⟩
  rw [h3 z]
  constructor
  · rintro ⟨m, rfl, hm, hw⟩; exact ⟨m, rfl, by omega, hw⟩
  · rintro ⟨m, rfl, hm, hw⟩
    by_cases e : m = n
    · subst e; exact absurd hw h0
    · exact ⟨m, rfl, by omega, hw⟩
/-- The pile has just what is ready. -/
def PileI (ps : List ProdS) (S : Nat → Bool) (a : List Int) : Prop := a.Nodup ∧ ∀ z, z ∈ a ↔ ∃ m : Nat, z = m ∧ Ready (lfP ps) S m
theorem FillI.done {ps : List ProdS} {a : List Int} (h : FillI ps ps.length a) : PileI ps (allS ps) a := by
  refine ⟨h.1, fun z => ?_⟩
  rw [h.2.2 z]
  constructor
  · rintro ⟨m, rfl, hm, hw⟩; exact ⟨m, rfl, (ready_iff (fun n h => by simpa [allS] using h)).2 ⟨by simpa [allS] using hm, hw⟩⟩
  · rintro ⟨m, rfl, hr⟩
    have := (ready_iff (fun n h => by simpa [allS] using h)).1 hr
    exact ⟨m, rfl, by simpa [allS] using this.1, this.2⟩
/-- n is taken; those of D that wait for it have been told. -/
def TellI (ps : List ProdS) (S : Nat → Bool) (n : Nat) (D a wt : List Int) : Prop :=
  wt = (List.range ps.length).map (fun (m : Nat) => (waitF ps S m : Int) - (if (m : Int) ∈ D then 1 else 0)) ∧ a.Nodup ∧ ∀ z, z ∈ a ↔ ∃ m : Nat, z = m ∧ ((Ready (lfP ps) S m ∧ m ≠ n) ∨ ((m : Int) ∈ D ∧ waitF ps (del S n) m = 0))
theorem TellI.start {ps : List ProdS} {S : Nat → Bool} {n : Nat} {a b : List Int} (h : PileI ps S a) (hp : a.Perm ((n : Int) :: b)) : TellI ps S n [] b (waitsS ps S) := by
  have hnd := hp.nodup_iff.1 h.1
  refine ⟨?_, (List.nodup_cons.1 hnd).2, fun z => ?_⟩
  · unfold waitsS
    simp
  · constructor
    · intro hz
      obtain ⟨m, rfl, hr⟩ := (h.2 z).1 (hp.mem_iff.2 (by simp [hz]))
      exact ⟨m, rfl, .inl ⟨hr, fun e => by subst e; exact (List.nodup_cons.1 hnd).1 hz⟩⟩
    · rintro ⟨m, rfl, h1 | h1⟩
      · have := hp.mem_iff.1 ((h.2 _).2 ⟨m, rfl, h1.1⟩)
        rcases List.mem_cons.1 this with h2 | h2
        · exact absurd (by omega) h1.2
        · exact h2
      · simp at h1
theorem TellI.val {ps : List ProdS} {S : Nat → Bool} {n k : Nat} {D a wt : List Int} (h : TellI ps S n D a wt) (hS : S n = true) (hk : lfP ps k n = true) (hD : (k : Int) ∉ D) : nth wt k = (waitF ps (del S n) k : Int) + 1 := by
  have hkl := (lfP_lt hk).1
  rw [h.1, nth_map _ _ _ hkl, if_neg hD, waitF_del hS hkl, if_pos hk]
  omega
theorem TellI.wt {ps : List ProdS} {S : Nat → Bool} {n k : Nat} {D a wt : List Int} (h : TellI ps S n D a wt) (hS : S n = true) (hk : lfP ps k n = true) (hD : (k : Int) ∉ D) :
    wt.set k (waitF ps (del S n) k : Int) = (List.range ps.length).map (fun (m : Nat) => (waitF ps S m : Int) - (if (m : Int) ∈ D ++ [(k : Int)] then 1 else 0)) := by
  have hkl := (lfP_lt hk).1
  have hv := h.val hS hk hD
  rw [h.1] at hv ⊢
  apply List.ext_getElem (by simp)
  intro i h1 h2
  have hi : i < ps.length := by simpa using h2
  rw [List.getElem_set]
  by_cases e : k = i
  · subst e
    rw [nth_map _ _ _ hkl, if_neg hD] at hv
    simp
    omega
  · rw [if_neg e]
    have e2 : (i : Int) ≠ k := by omega
    simp [e2]
theorem TellI.skip {ps : List ProdS} {S : Nat → Bool} {n k : Nat} {D a wt : List Int} (h : TellI ps S n D a wt) (hS : S n = true) (hk : lfP ps k n = true) (hD : (k : Int) ∉ D) (h0 : waitF ps (del S n) k ≠ 0) : TellI ps S n (D ++ [(k : Int)]) a (wt.set k (waitF ps (del S n) k : Int)) := by
  refine ⟨h.wt hS hk hD, h.2.1, fun z => ?_⟩
  rw [h.2.2 z]
  constructor
  · rintro ⟨m, rfl, h1 | h1⟩
    · exact ⟨m, rfl, .inl h1⟩
    · exact ⟨m, rfl, .inr ⟨by simp [h1.1], h1.2⟩⟩
  · rintro ⟨m, rfl, h1 | ⟨h1, h2⟩⟩
    · exact ⟨m, rfl, .inl h1⟩
    · rcases List.mem_append.1 h1 with h1 | h1
      · exact ⟨m, rfl, .inr ⟨h1, h2⟩⟩
      · obtain rfl : m = k := by simp at h1; omega
        exact absurd h2 h0
theorem TellI.put {ps : List ProdS} {S : Nat → Bool} {n k : Nat} {D a b wt : List Int} (h : TellI ps S n D a wt) (hS : S n = true) (hk : lfP ps k n = true) (hD : (k : Int) ∉ D) (h0 : waitF ps (del S n) k = 0) (hp : b.Perm (a ++ [(k : Int)])) : TellI ps S n (D ++ [(k : Int)]) b (wt.set k (waitF ps (del S n) k : Int)) := by
  have hka : (k : Int) ∉ a := fun hm => by
    obtain ⟨m, e, h1⟩ := (h.2.2 _).1 hm
    obtain rfl : k = m := by omega
    rcases h1 with h1 | h1
    · have := h1.1.2 n hk
      rw [hS] at this; cases this
    · exact hD h1.1
  refine ⟨h.wt hS hk hD, hp.nodup_iff.2 ?_, fun z => ?_⟩
  · rw [List.nodup_append]
    exact ⟨h.2.1, by simp, fun x hx y hy => by simp at hy; subst hy; rintro rfl; exact hka hx⟩
  · rw [hp.mem_iff, List.mem_append, h.2.2 z, List.mem_singleton]
    constructor
    · rintro (⟨m, rfl, h1 | h1⟩ | rfl)
      · exact ⟨m, rfl, .inl h1⟩
      · exact ⟨m, rfl, .inr ⟨by simp [h1.1], h1.2⟩⟩
      · exact ⟨k, rfl, .inr ⟨by simp, h0⟩⟩
    · rintro ⟨m, rfl, h1 | ⟨h1, h2⟩⟩
      · exact .inl ⟨m, rfl, .inl h1⟩
      · rcases List.mem_append.1 h1 with h1 | h1
        · exact .inl ⟨m, rfl, .inr ⟨h1, h2⟩⟩
        · exact .inr (by simpa using h1)
/-- Who waits for n. -/
def rightL (ps : List ProdS) (n : Nat) : List Int := ((List.range ps.length).filter fun m => lfP ps m n).map fun (m : Nat) => (m : Int)
theorem rightL_at (ps : List ProdS) (n : Nat) (h : n < ps.length) : (rightsR ps ps.length).getD n [] = rightL ps n := by simp [rightsR, rightL, h]
theorem rightL_mem {ps : List ProdS} {n : Nat} : ∀ z, z ∈ rightL ps n ↔ ∃ m : Nat, z = m ∧ lfP ps m n = true := by
  intro z
  simp only [rightL, List.mem_map, List.mem_filter, List.mem_range]
  constructor
  · rintro ⟨m, ⟨_, h2⟩, rfl⟩; exact ⟨m, rfl, h2⟩
  · rintro ⟨m, rfl, h⟩; exact ⟨m, ⟨(lfP_lt h).1, h⟩, rfl⟩
theorem rightL_nodup (ps : List ProdS) (n : Nat) : (rightL ps n).Nodup := by
  unfold rightL
  rw [List.nodup_iff_pairwise_ne, List.pairwise_map]
  exact (List.nodup_iff_pairwise_ne.1 (List.nodup_range.filter _)).imp (fun h => by omega)
theorem rightL_len (ps : List ProdS) (n : Nat) : (rightL ps n).length ≤ ps.length := by
  have := List.length_filter_le (fun m => lfP ps m n) (List.range ps.length)
  simpa [rightL] using this
theorem TellI.done {ps : List ProdS} {S : Nat → Bool} {o : List Int} {n : Nat} {a wt : List Int} (h : TellI ps S n (rightL ps n) a wt) (hr : Ready (lfP ps) S n) (ho : RnkTo (lfP ps) (allS ps) o S) : wt = waitsS ps (del S n) ∧ PileI ps (del S n) a := by
  have hS := hr.1
  have hsub : ∀ m, S m = true → m < ps.length := fun m hm => by have := ho.sub m hm; simpa [allS] using this
  have hsub2 : ∀ m, del S n m = true → m < ps.length := fun m hm => hsub m (by simp [del] at hm; exact hm.1)
  refine ⟨?_, h.2.1, fun z => ?_⟩
  · rw [h.1]
    unfold waitsS
    apply List.map_congr_left
    intro m hm
    have hml : m < ps.length := List.mem_range.1 hm
    rw [waitF_del hS hml]
    by_cases e : lfP ps m n = true
    · rw [if_pos e, if_pos ((rightL_mem _).2 ⟨m, rfl, e⟩)]; omega
    · rw [if_neg e, if_neg (fun hx => by
        obtain ⟨k, e2, hk⟩ := (rightL_mem _).1 hx
        obtain rfl : m = k := by omega
        exact e hk)]
      omega
  · rw [h.2.2 z]
    constructor
    · rintro ⟨m, rfl, ⟨h1, h2⟩ | ⟨h1, h2⟩⟩
      · refine ⟨m, rfl, by rw [del_ne S h2]; exact h1.1, fun k hk => ?_⟩
        have := h1.2 k hk
        simp [del, this]
      · obtain ⟨k, e2, hk⟩ := (rightL_mem _).1 h1
        obtain rfl : m = k := by omega
        have hmn : m ≠ n := fun e => by subst e; have := hr.2 m hk; rw [hS] at this; cases this
        have hSm : S m = true := by
          cases e : S m with
          | true => rfl
          | false =>
            have := (ho.out (fun n k h => by simpa [allS] using (lfP_lt h).1) m (by simpa [allS] using (lfP_lt hk).1) e).1 n (.one hk)
            rw [hS] at this; cases this
        exact ⟨m, rfl, (ready_iff hsub2).2 ⟨by rw [del_ne S hmn]; exact hSm, h2⟩⟩
    · rintro ⟨m, rfl, h1⟩
      have h2 := (ready_iff hsub2).1 h1
      have hmn : m ≠ n := fun e => by subst e; rw [del_self] at h2; cases h2.1
      have hSm : S m = true := by rw [← del_ne S hmn]; exact h2.1
      refine ⟨m, rfl, ?_⟩
      by_cases e : lfP ps m n = true
      · exact .inr ⟨(rightL_mem _).2 ⟨m, rfl, e⟩, h2.2⟩
      · refine .inl ⟨(ready_iff hsub).2 ⟨hSm, ?_⟩, hmn⟩
        rw [waitF_del hS (hsub m hSm), if_neg e]
        omega
/-- The least of the pile is the least that is ready. -/
theorem PileI.least {ps : List ProdS} {S : Nat → Bool} {a : List Int} (h : PileI ps S a) (h0 : 0 < a.length) (hm : ∀ z ∈ a, nth a 0 ≤ z) : ∃ n : Nat, nth a 0 = n ∧ Ready (lfP ps) S n ∧ ∀ m, Ready (lfP ps) S m → n ≤ m := by
  obtain ⟨n, e, hr⟩ := (h.2 _).1 (show nth a 0 ∈ a by simp [nth, h0])
  refine ⟨n, e, hr, fun m hm2 => ?_⟩
  have := hm _ ((h.2 _).2 ⟨m, rfl, hm2⟩)
  omega
theorem PileI.none {ps : List ProdS} {S : Nat → Bool} (h : PileI ps S []) : ∀ n, ¬ Ready (lfP ps) S n := fun n hn => by
  have := (h.2 _).2 ⟨n, rfl, hn⟩
  simp at this
theorem nodup_short : ∀ (N : Nat) (a : List Int), a.Nodup → (∀ z ∈ a, 0 ≤ z ∧ z < N) → a.length ≤ N
  | 0, a, _, h => by
    cases a with
    | nil => simp
    | cons z a => have := h z (by simp); omega
  | N + 1, a, hn, h => by
    by_cases e : (N : Int) ∈ a
    · have h1 := nodup_short N (a.erase N) (hn.erase _) (fun z hz => by
        have h2 := h z (List.mem_of_mem_erase hz)
        have h3 : z ≠ N := fun e2 => by subst e2; exact (List.Nodup.not_mem_erase hn) hz
        omega)
      rw [List.length_erase_of_mem e] at h1
      omega
    · have h1 := nodup_short N a hn (fun z hz => by
        have h2 := h z hz
        have h3 : z ≠ N := fun e2 => by subst e2; exact e hz
        omega)
      omega
theorem PileI.len {ps : List ProdS} {S : Nat → Bool} {a : List Int} (h : PileI ps S a) (hS : ∀ n, S n = true → n < ps.length) : a.length ≤ ps.length := by
  exact nodup_short _ a h.1 (fun z hz => by
    obtain ⟨m, rfl, hr⟩ := (h.2 z).1 hz
    have := hS m hr.1
    omega)
theorem TellI.len {ps : List ProdS} {S : Nat → Bool} {n : Nat} {D a wt : List Int} (h : TellI ps S n D a wt) (hS : ∀ n, S n = true → n < ps.length) (hD : ∀ z ∈ D, ∃ m : Nat, z = m ∧ m < ps.length) : a.length ≤ ps.length := by
  exact nodup_short _ a h.2.1 (fun z hz => by
    obtain ⟨m, rfl, hr | hr⟩ := (h.2.2 z).1 hz
    · have := hS m hr.1.1; omega
    · obtain ⟨k, e, hk⟩ := hD _ hr.1; omega)
end Go.Proofs.YtbpidoiellcccaaGreatDoor
namespace Go.Proofs.YtbpidoiellcccaaGreatDoor
open Go Go.RowKit Go.MapKept

/-- What is seen (l), and what is to be looked at (q): all that is seen is come to; what is not to be looked at has been (but for those of P). -/
structure SeenI (ps : List ProdS) (fr tg : Nat) (P : Nat → Prop) (l q : List Int) : Prop where
  nodup : l.Nodup
  sound : ∀ z ∈ l, ∃ k : Nat, z = k ∧ Comes (lfP ps) fr k
  todo : ∀ z ∈ q, z = fr ∨ z ∈ l
  shut : ∀ x : Nat, (x = fr ∨ (x : Int) ∈ l) → (x : Int) ∈ q ∨ P x ∨ ∀ k, lfP ps x k = true → (k : Int) ∈ l ∧ k ≠ tg
  start : fr < ps.length
theorem SeenI.zero {ps : List ProdS} {fr tg : Nat} (h : fr < ps.length) : SeenI ps fr tg (fun _ => False) [] [(fr : Int)] :=
  ⟨List.nodup_nil, by simp, by simp, fun x hx => by
    rcases hx with rfl | hx
    · exact .inl (by simp)
    · simp at hx, h⟩
theorem SeenI.len {ps : List ProdS} {fr tg : Nat} {P : Nat → Prop} {l q : List Int} (h : SeenI ps fr tg P l q) : l.length ≤ ps.length :=
  nodup_short _ l h.nodup (fun z hz => by
    obtain ⟨k, rfl, hk⟩ := h.sound z hz
    have : k < ps.length := by
      have key : ∀ {a b : Nat}, Comes (lfP ps) a b → b < ps.length := fun h => by
        induction h with
        | one h => exact (lfP_lt h).2
        | more _ _ ih => exact ih
      exact key hk
    omega)
/-- The first one is looked at. -/
theorem SeenI.pop {ps : List ProdS} {fr tg n : Nat} {l q : List Int} (h : SeenI ps fr tg (fun _ => False) l ((n : Int) :: q)) : SeenI ps fr tg (fun x => x = n) l q ∧ n < ps.length ∧ (n = fr ∨ Comes (lfP ps) fr n) := by
  have hn : n = fr ∨ Comes (lfP ps) fr n := by
    rcases h.todo (n : Int) List.mem_cons_self with h1 | h1
    · exact .inl (by omega)
    · obtain ⟨k, e, hk⟩ := h.sound _ h1
      obtain rfl : n = k := by omega
      exact .inr hk
  refine ⟨⟨h.nodup, h.sound, fun z hz => h.todo z (by simp [hz]), fun x hx => ?_, h.start⟩, ?_, hn⟩
  · rcases h.shut x hx with h1 | h1 | h1
    · rcases List.mem_cons.1 h1 with h2 | h2
      · exact .inr (.inl (by omega))
      · exact .inl h2
    · exact absurd h1 (by simp)
    · exact .inr (.inr h1)
  · rcases hn with rfl | hn
    · exact h.start
    · have key : ∀ {a b : Nat}, Comes (lfP ps) a b → b < ps.length := fun h => by
        induction h with
        | one h => exact (lfP_lt h).2
        | more _ _ ih => exact ih
      exact key hn
/-- One that is seen already. -/
theorem SeenI.put {ps : List ProdS} {fr tg n k : Nat} {P : Nat → Prop} {l q : List Int} (h : SeenI ps fr tg P l q) (hn : n = fr ∨ Comes (lfP ps) fr n) (hk : lfP ps n k = true) (hl : (k : Int) ∉ l) : SeenI ps fr tg P (l ++ [(k : Int)]) (q ++ [(k : Int)]) := by
  refine ⟨?_, fun z hz => ?_, fun z hz => ?_, fun x hx => ?_, h.start⟩
  · rw [List.nodup_append]
    exact ⟨h.nodup, by simp, fun x hx y hy => by simp at hy; subst hy; rintro rfl; exact hl hx⟩
  · rcases List.mem_append.1 hz with h1 | h1
    · exact h.sound z h1
    · simp at h1
      refine ⟨k, h1, ?_⟩
      rcases hn with rfl | hn
      · exact .one hk
      · exact hn.snoc hk
  · rcases List.mem_append.1 hz with h1 | h1
    · exact (h.todo z h1).imp_right (fun h => List.mem_append_left _ h)
    · exact .inr (List.mem_append_right _ h1)
  · by_cases e : x = k
    · subst e; exact .inl (by simp)
    · have hx' : x = fr ∨ (x : Int) ∈ l := hx.imp_right (fun h1 => by
        rcases List.mem_append.1 h1 with h2 | h2
        · exact h2
        · simp at h2; omega)
      rcases h.shut x hx' with h1 | h1 | h1
      · exact .inl (List.mem_append_left _ h1)
      · exact .inr (.inl h1)
      · exact .inr (.inr fun j hj => ⟨List.mem_append_left _ (h1 j hj).1, (h1 j hj).2⟩)
/-- All by whom n may begin have been looked at. -/
theorem SeenI.next {ps : List ProdS} {fr tg n : Nat} {l q : List Int} (h : SeenI ps fr tg (fun x => x = n) l q) (ha : ∀ z ∈ leftsR ps n, z ∈ l ∧ z ≠ (tg : Int)) : SeenI ps fr tg (fun _ => False) l q := by
  refine ⟨h.nodup, h.sound, h.todo, fun x hx => ?_, h.start⟩
  rcases h.shut x hx with h1 | rfl | h1
  · exact .inl h1
  · refine .inr (.inr fun k hk => ?_)
    have := ha _ ((lfP_mem (lfP_lt hk).1).1 hk)
    exact ⟨this.1, fun e => this.2 (by rw [e])⟩
  · exact .inr (.inr h1)
theorem SeenI.end {ps : List ProdS} {fr tg : Nat} {l : List Int} (h : SeenI ps fr tg (fun _ => False) l []) : ¬ Comes (lfP ps) fr tg := by
  have key : ∀ {a b : Nat}, Comes (lfP ps) a b → (a = fr ∨ (a : Int) ∈ l) → (b : Int) ∈ l ∧ b ≠ tg := fun h2 => by
    have hs : ∀ x : Nat, (x = fr ∨ (x : Int) ∈ l) → ∀ k, lfP ps x k = true → (k : Int) ∈ l ∧ k ≠ tg := fun x hx => by
      rcases h.shut x hx with h1 | h1 | h1
      · simp at h1
      · exact absurd h1 (by simp)
      · exact h1
    induction h2 with
    | one h2 => exact fun ha => hs _ ha _ h2
    | more h2 _ ih => exact fun ha => ih (.inr (hs _ ha _ h2).1)
  exact fun hc => (key hc (.inl rfl)).2 rfl
end Go.Proofs.YtbpidoiellcccaaGreatDoor
