/- What is read of a text's end, wherever the end stands: tokens. -/
import Derived.Test.YtmfjddhckblbhaaGreatDoorL17
set_option linter.unusedVariables false
set_option linter.unusedSimpArgs false
namespace Go.Proofs.YtmfjddhckblbhaaGreatDoor
open Go Go.RowKit Go.MapKept

theorem extract_list (s : ByteArray) (i j : Nat) : (s.extract i j).data.toList = (s.data.toList.drop i).take (j - i) := by
  rw [ByteArray.data_extract, Array.toList_extract, List.extract_eq_take_drop]
theorem bytes_ext {s t : ByteArray} (h : s.data.toList = t.data.toList) : s = t := by
  cases s; cases t
  simp only at h
  rw [Array.toList_inj.1 h]
theorem hxR_size (s : ByteArray) (i lo j : Nat) (hi : i ≤ s.size) (h : hxR s i = some (lo, j)) : j ≤ s.size := by
  unfold hxR at h
  split at h
  · simp only [Option.some.injEq, Prod.mk.injEq] at h
    have := numR_size s 2 i 0 hi
    omega
  · cases h
theorem litR_fuel {s : ByteArray} : ∀ (n m i : Nat) (acc : List UInt8), s.size < n + i → s.size < m + i → litR s n i acc = litR s m i acc
  | 0, m, i, acc, hn, hm => by
    rw [litR_end (show ¬ i < s.size by omega), litR_end (show ¬ i < s.size by omega)]
  | n + 1, 0, i, acc, hn, hm => by
    rw [litR_end (show ¬ i < s.size by omega), litR_end (show ¬ i < s.size by omega)]
  | n + 1, m + 1, i, acc, hn, hm => by
    unfold litR
    split
    · rfl
    · split
      · rfl
      · split
        · split
          · split
            · exact litR_fuel n m _ _ (by omega) (by omega)
            · rfl
          · rfl
        · split
          · rfl
          · exact litR_fuel n m _ _ (by omega) (by omega)
/-- A token and its place, as it stands in the other text. -/
def mv4 (a b : Nat) (x : Int × ByteArray × List Rng × Nat) : Int × ByteArray × List Rng × Nat := (x.1, x.2.1, x.2.2.1, x.2.2.2 + a - b)
section
variable {u s : ByteArray} {a b : Nat}
theorem Tail.extract (h : Tail u s a b) (i j : Nat) : u.extract (a + i) (a + j) = s.extract (b + i) (b + j) := by
  apply bytes_ext
  rw [extract_list, extract_list, h.at, show a + j - (a + i) = j - i by omega, show b + j - (b + i) = j - i by omega]
theorem Tail.hexR (h : Tail u s a b) (i : Nat) : Proofs.YtmfjddhckblbhaaGreatDoor.hexR u (a + i) = Proofs.YtmfjddhckblbhaaGreatDoor.hexR s (b + i) := by
  unfold Proofs.YtmfjddhckblbhaaGreatDoor.hexR
  rw [h.num]
theorem Tail.lit (h : Tail u s a b) : ∀ (n i : Nat) (acc : List UInt8), litR u n (a + i) acc = (litR s n (b + i) acc).map (mvP a b)
  | 0, _, _ => rfl
  | n + 1, i, acc => by
    unfold litR
    rw [h.byte]
    split
    · rfl
    · split
      · simp only [Option.map_some, mvP, Option.some.injEq, Prod.mk.injEq, true_and]; omega
      · split
        · rw [show a + i + 1 = a + (i + 1) by omega, h.isB, show b + (i + 1) = b + i + 1 by omega]
          split
          · rw [show a + i + 2 = a + (i + 2) by omega, h.hexR, show b + (i + 2) = b + i + 2 by omega]
            split
            · have := Tail.lit h n (i + 4)
              rw [show a + i + 4 = a + (i + 4) by omega, this, show b + (i + 4) = b + i + 4 by omega]
            · rfl
          · rfl
        · split
          · rfl
          · have := Tail.lit h n (i + 1)
            rw [show a + i + 1 = a + (i + 1) by omega, this, show b + (i + 1) = b + i + 1 by omega]
theorem Tail.cl (h : Tail u s a b) (i : Nat) (hi : b + i < s.size) : clR u (a + i) = (clR s (b + i)).map (mv4 a b) := by
  have hz := h.size
  unfold clR
  rw [show a + i + 1 = a + (i + 1) by omega, h.isB, show b + (i + 1) = b + i + 1 by omega]
  cases hq : Proofs.YtmfjddhckblbhaaGreatDoor.isB s (b + i + 1) 94
  · simp only [Bool.false_eq_true, if_false]
    rw [h.items h.sc (scR_ahead s), show b + (i + 1) = b + i + 1 by omega, itemsR_fuel (scR_ahead s) (scR_size s) (u.size + 1) (s.size + 1 + u.size) _ _ (by omega) (by omega) (by omega),
      itemsR_fuel (scR_ahead s) (scR_size s) (s.size + 1) (s.size + 1 + u.size) _ _ (by omega) (by omega) (by omega)]
    cases itemsR (scR s) s 93 (s.size + 1 + u.size) (b + i + 1) [] with
    | none => rfl
    | some p => obtain ⟨l, j⟩ := p; rfl
  · have hb := isB_lt hq
    simp only [if_true]
    rw [show a + i + 2 = a + (i + 2) by omega, h.items h.sc (scR_ahead s), show b + (i + 2) = b + i + 2 by omega, itemsR_fuel (scR_ahead s) (scR_size s) (u.size + 1) (s.size + 1 + u.size) _ _ (by omega) (by omega) (by omega),
      itemsR_fuel (scR_ahead s) (scR_size s) (s.size + 1) (s.size + 1 + u.size) _ _ (by omega) (by omega) (by omega)]
    cases itemsR (scR s) s 93 (s.size + 1 + u.size) (b + i + 2) [] with
    | none => rfl
    | some p => obtain ⟨l, j⟩ := p; rfl
theorem Tail.by (h : Tail u s a b) (i : Nat) (hi : b + i < s.size) : byR u (a + i) = (byR s (b + i)).map (mv4 a b) := by
  have hz := h.size
  unfold byR
  rw [show a + i + 1 = a + (i + 1) by omega, h.items h.hx (hxR_ahead s), show b + (i + 1) = b + i + 1 by omega, itemsR_fuel (hxR_ahead s) (hxR_size s) (u.size + 1) (s.size + 1 + u.size) _ _ (by omega) (by omega) (by omega),
    itemsR_fuel (hxR_ahead s) (hxR_size s) (s.size + 1) (s.size + 1 + u.size) _ _ (by omega) (by omega) (by omega)]
  cases itemsR (hxR s) s 62 (s.size + 1 + u.size) (b + i + 1) [] with
  | none => rfl
  | some p => obtain ⟨l, j⟩ := p; rfl
theorem Tail.way (h : Tail u s a b) (i : Nat) : wayR clR byR u (a + i) = (wayR clR byR s (b + i)).map (mv4 a b) := by
  have hz := h.size
  unfold wayR
  rw [h.byte]
  cases hc : s.data[b + i]? with
  | none => rfl
  | some c =>
    have hi : b + i < s.size := by
      rcases Nat.lt_or_ge (b + i) s.size with h1 | h1
      · exact h1
      · rw [Array.getElem?_eq_none (show s.data.size ≤ b + i from h1)] at hc; cases hc
    simp only
    rw [h.at i, show a + i + 1 = a + (i + 1) by omega, h.at (i + 1), show b + (i + 1) = b + i + 1 by omega]
    generalize wordN (List.drop (b + i + 1) s.data.toList) false = m1
    generalize wordN (List.drop (b + i) s.data.toList) false = m2
    rw [show a + (i + 1) + m1 = a + (i + 1 + m1) by omega, h.extract, show b + (i + 1) = b + i + 1 by omega, show b + (i + 1 + m1) = b + i + 1 + m1 by omega,
      h.extract, show b + (i + 1) = b + i + 1 by omega, show a + i + m2 = a + (i + m2) by omega, h.extract, show b + (i + m2) = b + i + m2 by omega]
    split
    · split
      · simp only [Option.map_some, mv4, Option.some.injEq, Prod.mk.injEq, true_and]; omega
      · rfl
    · split
      · rw [h.lit, show b + (i + 1) = b + i + 1 by omega, litR_fuel (u.size + 1) (s.size + 1 + u.size) _ _ (by omega) (by omega), litR_fuel (s.size + 1) (s.size + 1 + u.size) _ _ (by omega) (by omega)]
        cases litR s (s.size + 1 + u.size) (b + i + 1) [] with
        | none => rfl
        | some p =>
          obtain ⟨l, j⟩ := p
          simp only [Option.map_some, mvP, litTok]
          split <;> rfl
      · split
        · exact h.cl i hi
        · split
          · exact h.by i hi
          · split
            · simp only [Option.map_some, mv4, Option.some.injEq, Prod.mk.injEq, true_and]; omega
            · split
              · simp only [Option.map_some, mv4, Option.some.injEq, Prod.mk.injEq, true_and]; omega
              · rfl
end
end Go.Proofs.YtmfjddhckblbhaaGreatDoor
namespace Go.Proofs.YtmfjddhckblbhaaGreatDoor
open Go Go.RowKit Go.MapKept

/-- u begins by s and a line's end. -/
structure Pre (u s : ByteArray) (m : List UInt8) : Prop where
  eq : u.data.toList = s.data.toList ++ 10 :: m
theorem contR_nl : ∀ (r : Nat) (l : List UInt8), (10 : UInt8) ∈ l → contR r l = none
  | _, [], h => by cases h
  | r, c :: cs, h => by
    unfold contR
    split
    · rename_i hc
      rcases List.mem_cons.1 h with rfl | h
      · exact absurd hc (by decide)
      · exact contR_nl _ cs h
    · rfl
theorem ofU_pre (l m : List UInt8) (hl : l ≠ []) (n h : Nat) : ofU (l ++ 10 :: m) n h = ofU l n h := by
  cases l with
  | nil => exact absurd rfl hl
  | cons c cs =>
    unfold ofU
    simp only [List.cons_append]
    by_cases hc : c.toNat < h
    · rw [if_pos (.inr hc), if_pos (.inr hc)]
    · by_cases hn : cs.length + 1 < n
      · rw [if_pos (show cs.length + 1 < n ∨ c.toNat < h from .inl hn)]
        split
        · rfl
        · rw [contR_nl]
          rw [List.take_append]
          refine List.mem_append.2 (.inr ?_)
          obtain ⟨k, hk⟩ : ∃ k, n - 1 - cs.length = k + 1 := ⟨n - 1 - cs.length - 1, by omega⟩
          rw [hk, List.take_succ_cons]
          exact List.mem_cons_self
      · rw [if_neg (by simp; omega), if_neg (by omega), List.take_append_of_le_length (by omega)]
theorem nextU_pre (l m : List UInt8) (hl : l ≠ []) : nextU (l ++ 10 :: m) = nextU l := by
  have ht : ∀ k, tryU (l ++ 10 :: m) k = tryU l k := fun k => by
    unfold tryU
    split <;> exact ofU_pre l m hl _ _
  have hw : ∀ n k, nextW (l ++ 10 :: m) n k = nextW l n k := by
    intro n
    induction n with
    | zero => intro k; rfl
    | succ n ih => intro k; unfold nextW; rw [ht, ih]
  unfold nextU
  rw [if_neg hl, if_neg (by simp), hw]
theorem wordN_pre : ∀ (l m : List UInt8) (b : Bool), wordN (l ++ 10 :: m) b = wordN l b
  | [], m, b => by
    rw [List.nil_append]
    unfold wordN
    rw [if_neg (by cases b <;> decide)]
  | c :: l, m, b => by
    rw [List.cons_append]
    unfold wordN
    rw [wordN_pre l m true]
theorem itemsR_more {one : Nat → Option (Nat × Nat)} {s : ByteArray} {e : Int} {p : List Rng × Nat} : ∀ (n m i : Nat) (acc : List Rng), n ≤ m → itemsR one s e n i acc = some p → itemsR one s e m i acc = some p
  | 0, _, _, _, _, h => by cases h
  | n + 1, 0, _, _, hm, _ => by omega
  | n + 1, m + 1, i, acc, hm, h => by
    unfold itemsR at h ⊢
    split
    · rename_i h1
      rw [if_pos h1] at h
      exact h
    · rename_i h1
      rw [if_neg h1] at h
      cases h2 : one i with
      | none => rw [h2] at h; cases h
      | some q =>
        obtain ⟨lo, j⟩ := q
        rw [h2] at h
        simp only at h ⊢
        split
        · rename_i h3
          rw [if_pos h3] at h
          cases h4 : one (j + 1) with
          | none => rw [h4] at h; cases h
          | some q =>
            obtain ⟨hi, k⟩ := q
            rw [h4] at h
            simp only at h ⊢
            split
            · rename_i h5; rw [if_pos h5] at h; cases h
            · rename_i h5; rw [if_neg h5] at h; exact itemsR_more n m _ _ (by omega) h
        · rename_i h3
          rw [if_neg h3] at h
          exact itemsR_more n m _ _ (by omega) h
section
variable {u s : ByteArray} {m : List UInt8}
theorem Pre.size (h : Pre u s m) : u.size = s.size + m.length + 1 := by
  have := congrArg List.length h.eq
  rw [lenB, List.length_append, lenB, List.length_cons] at this
  omega
theorem Pre.drop (h : Pre u s m) (i : Nat) (hi : i ≤ s.size) : u.data.toList.drop i = s.data.toList.drop i ++ 10 :: m := by
  rw [h.eq, List.drop_append_of_le_length (by rw [lenB]; exact hi)]
theorem Pre.byte (h : Pre u s m) (i : Nat) (hi : i < s.size) : u.data[i]? = s.data[i]? := by
  have h1 := congrArg (fun l => l[0]?) (h.drop i (by omega))
  have h2 : 0 < (s.data.toList.drop i).length := by rw [List.length_drop, lenB]; omega
  rw [List.getElem?_append_left h2] at h1
  simpa using h1
theorem Pre.nl (h : Pre u s m) : u.data[s.size]? = some 10 := by
  have h1 := congrArg (fun l => l[0]?) (h.drop s.size (Nat.le_refl _))
  rw [show s.data.toList.drop s.size = [] from List.drop_eq_nil_of_le (by rw [lenB]; exact Nat.le_refl _)] at h1
  simpa using h1
theorem isB_none {s : ByteArray} {i : Nat} {c : Int} (h : s.size ≤ i) : isB s i c = false := by
  unfold isB
  rw [dif_neg (by omega)]
theorem Pre.isB (h : Pre u s m) (i : Nat) (hi : i ≤ s.size) (c : Int) (hc : c ≠ 10) : isB u i c = Proofs.YtmfjddhckblbhaaGreatDoor.isB s i c := by
  rcases Nat.lt_or_eq_of_le hi with h1 | rfl
  · rw [isB_get, isB_get, h.byte i h1]
  · rw [isB_none (Nat.le_refl _), isB_get, h.nl]
    simp only [beq_eq_false_iff_ne, ne_eq]
    intro e
    exact hc (by rw [← e]; rfl)
theorem Pre.num (h : Pre u s m) : ∀ (k i n : Nat), i ≤ s.size → numR u k i n = numR s k i n
  | 0, _, _, _ => rfl
  | k + 1, i, n, hi => by
    rcases Nat.lt_or_eq_of_le hi with h1 | rfl
    · unfold numR
      rw [h.byte i h1]
      split
      · rfl
      · split
        · rfl
        · rw [Pre.num h k (i + 1) _ (by omega)]
    · rw [numR_none (s := s) (Nat.lt_irrefl _)]
      unfold numR
      rw [h.nl]
      rfl
theorem Pre.sc (h : Pre u s m) {i : Nat} (hi : i ≤ s.size) {p : Nat × Nat} (hp : scR s i = some p) : scR u i = some p := by
  rw [← hp]
  unfold scR
  rw [h.isB i hi 92 (by decide)]
  cases hq : Proofs.YtmfjddhckblbhaaGreatDoor.isB s i 92
  · simp only [Bool.false_eq_true, if_false]
    rw [h.drop i hi]
    by_cases hl : s.data.toList.drop i = []
    · exfalso
      unfold scR at hp
      rw [hq, hl] at hp
      simp only [Bool.false_eq_true, if_false] at hp
      rw [if_neg (by unfold nextU; simp)] at hp
      cases hp
    · rw [nextU_pre _ _ hl]
  · have h1 := isB_lt hq
    simp only [if_true]
    rw [h.isB (i + 1) (by omega) 117 (by decide)]
    cases hq2 : Proofs.YtmfjddhckblbhaaGreatDoor.isB s (i + 1) 117
    · rfl
    · have h2 := isB_lt hq2
      simp only [if_true]
      have h3 := numR_size s 6 (i + 2) 0 (by omega)
      rw [h.num 6 (i + 2) 0 (by omega), h.isB _ h3 59 (by decide)]
theorem Pre.hx (h : Pre u s m) {i : Nat} (hi : i ≤ s.size) {p : Nat × Nat} (hp : hxR s i = some p) : hxR u i = some p := by
  rw [← hp]
  unfold hxR
  rw [h.num 2 i 0 hi]
theorem Pre.items (h : Pre u s m) {ou os : Nat → Option (Nat × Nat)} (ho : ∀ i p, i ≤ s.size → os i = some p → ou i = some p) (hs : ∀ i lo j, i ≤ s.size → os i = some (lo, j) → j ≤ s.size) (e : Int) (he : e ≠ 10) {p : List Rng × Nat} :
    ∀ (n i : Nat) (acc : List Rng), i ≤ s.size → itemsR os s e n i acc = some p → itemsR ou u e n i acc = some p
  | 0, _, _, _, h => by cases h
  | n + 1, i, acc, hi, hp => by
    unfold itemsR at hp ⊢
    rw [h.isB i hi e he]
    split
    · rename_i h1
      rw [if_pos h1] at hp
      exact hp
    · rename_i h1
      rw [if_neg h1] at hp
      cases h2 : os i with
      | none => rw [h2] at hp; cases hp
      | some q =>
        rw [h2] at hp
        rw [ho i q hi h2]
        obtain ⟨lo, j⟩ := q
        have hj := hs _ _ _ hi h2
        simp only at hp ⊢
        rw [h.isB j hj 45 (by decide)]
        split
        · rename_i h3
          rw [if_pos h3] at hp
          have hj2 := isB_lt h3
          cases h4 : os (j + 1) with
          | none => rw [h4] at hp; cases hp
          | some q =>
            rw [h4] at hp
            rw [ho _ q (by omega) h4]
            obtain ⟨hi2, k⟩ := q
            have hk := hs _ _ _ (by omega) h4
            simp only at hp ⊢
            split
            · rename_i h5; rw [if_pos h5] at hp; cases hp
            · rename_i h5; rw [if_neg h5] at hp; exact Pre.items h ho hs e he n k _ hk hp
        · rename_i h3
          rw [if_neg h3] at hp
          exact Pre.items h ho hs e he n j _ hj hp
theorem Pre.hexR (h : Pre u s m) (i : Nat) (hi : i ≤ s.size) : Proofs.YtmfjddhckblbhaaGreatDoor.hexR u i = Proofs.YtmfjddhckblbhaaGreatDoor.hexR s i := by
  unfold Proofs.YtmfjddhckblbhaaGreatDoor.hexR
  rw [h.num 2 i 0 hi]
theorem Pre.lit (h : Pre u s m) {p : List UInt8 × Nat} : ∀ (n k i : Nat) (acc : List UInt8), n ≤ k → litR s n i acc = some p → litR u k i acc = some p
  | 0, _, _, _, _, hp => by cases hp
  | n + 1, 0, _, _, hk, _ => by omega
  | n + 1, k + 1, i, acc, hk, hp => by
    have hi : i < s.size := by
      rcases Nat.lt_or_ge i s.size with h1 | h1
      · exact h1
      · rw [litR_end (by omega)] at hp; cases hp
    unfold litR at hp ⊢
    rw [h.byte i hi]
    cases hc : s.data[i]? with
    | none => rw [hc] at hp; cases hp
    | some c =>
      rw [hc] at hp
      simp only at hp ⊢
      split
      · rename_i h1; rw [if_pos h1] at hp; exact hp
      · rename_i h1
        rw [if_neg h1] at hp
        split
        · rename_i h2
          rw [if_pos h2] at hp
          rw [h.isB (i + 1) (by omega) 120 (by decide)]
          split
          · rename_i h3
            rw [if_pos h3] at hp
            have := isB_lt h3
            rw [h.hexR (i + 2) (by omega)]
            cases h4 : Proofs.YtmfjddhckblbhaaGreatDoor.hexR s (i + 2) with
            | none => rw [h4] at hp; cases hp
            | some v => rw [h4] at hp; exact Pre.lit h n k _ _ (by omega) hp
          · rename_i h3; rw [if_neg h3] at hp; cases hp
        · rename_i h2
          rw [if_neg h2] at hp
          split
          · rename_i h3; rw [if_pos h3] at hp; cases hp
          · rename_i h3; rw [if_neg h3] at hp; exact Pre.lit h n k _ _ (by omega) hp
theorem Pre.extract (h : Pre u s m) (i j : Nat) (hj : j ≤ s.size) : u.extract i j = s.extract i j := by
  apply bytes_ext
  rw [extract_list, extract_list]
  by_cases hi : i ≤ s.size
  · rw [h.drop i hi, List.take_append_of_le_length (by rw [List.length_drop, lenB]; omega)]
  · rw [show j - i = 0 by omega]; simp
theorem Pre.word (h : Pre u s m) (i : Nat) (hi : i ≤ s.size) (b : Bool) : wordN (u.data.toList.drop i) b = wordN (s.data.toList.drop i) b := by
  rw [h.drop i hi, wordN_pre]
theorem Pre.cl (h : Pre u s m) (i : Nat) (hi : i < s.size) {p : Int × ByteArray × List Rng × Nat} (hp : clR s i = some p) : clR u i = some p := by
  have hz := h.size
  unfold clR at hp ⊢
  rw [h.isB (i + 1) (by omega) 94 (by decide)]
  split at hp
  case h_2 => cases hp
  rename_i l j hit
  have hq : (if Proofs.YtmfjddhckblbhaaGreatDoor.isB s (i + 1) 94 = true then i + 2 else i + 1) ≤ s.size := by
    split
    · rename_i h1; have := isB_lt h1; omega
    · omega
  rw [itemsR_more (s.size + 1) (u.size + 1) _ _ (by omega) (h.items (fun i p hi => h.sc hi) (scR_size s) 93 (by decide) _ _ _ hq hit)]
  exact hp
theorem Pre.by (h : Pre u s m) (i : Nat) (hi : i < s.size) {p : Int × ByteArray × List Rng × Nat} (hp : byR s i = some p) : byR u i = some p := by
  have hz := h.size
  unfold byR at hp ⊢
  split at hp
  case h_2 => cases hp
  rename_i l j hit
  rw [itemsR_more (s.size + 1) (u.size + 1) _ _ (by omega) (h.items (fun i p hi => h.hx hi) (hxR_size s) 62 (by decide) _ _ _ (by omega) hit)]
  exact hp
theorem Pre.way (h : Pre u s m) (i : Nat) {p : Int × ByteArray × List Rng × Nat} (hp : wayR clR byR s i = some p) : wayR clR byR u i = some p := by
  have hz := h.size
  obtain ⟨k, t, r, j⟩ := p
  have hah := wayR_ahead (clR_ahead s) (byR_ahead s) hp
  have hi : i < s.size := by omega
  unfold wayR at hp ⊢
  rw [h.byte i hi, h.word (i + 1) (by omega), h.word i (by omega)]
  cases hc : s.data[i]? with
  | none => rw [hc] at hp; cases hp
  | some c =>
    rw [hc] at hp
    have hw1 := wordN_le (s.data.toList.drop (i + 1)) false
    have hw2 := wordN_le (s.data.toList.drop i) false
    rw [List.length_drop, lenB] at hw1 hw2
    rw [h.extract (i + 1) _ (by omega), h.extract i (i + 1) (by omega), h.extract i (i + _) (by omega)]
    simp only at hp ⊢
    split
    · rename_i h1; rw [if_pos h1] at hp; exact hp
    · rename_i h1
      rw [if_neg h1] at hp
      split
      · rename_i h2
        rw [if_pos h2] at hp
        cases h3 : litR s (s.size + 1) (i + 1) [] with
        | none => rw [h3] at hp; cases hp
        | some q => rw [h.lit (s.size + 1) (u.size + 1) _ _ (by omega) h3, ← h3]; exact hp
      · rename_i h2
        rw [if_neg h2] at hp
        split
        · rename_i h3; rw [if_pos h3] at hp; exact h.cl i hi hp
        · rename_i h3
          rw [if_neg h3] at hp
          split
          · rename_i h4; rw [if_pos h4] at hp; exact h.by i hi hp
          · rename_i h4; rw [if_neg h4] at hp; exact hp
theorem Pre.skip (h : Pre u s m) (i : Nat) (hi : i ≤ s.size) : (skipB s i ≠ s.size → skipB u i = skipB s i) ∧ (skipB s i = s.size → skipB u i = skipB u s.size) := by
  have hz := h.size
  unfold skipB Lib.trimLeftS
  rw [h.drop i hi, h.drop s.size (Nat.le_refl _), List.dropWhile_append, show s.data.toList.drop s.size = [] from List.drop_eq_nil_of_le (by rw [lenB]; exact Nat.le_refl _), List.nil_append]
  have h1 := (List.dropWhile_suffix (fun x => List.contains [32, 9, 10, 13] x) (l := s.data.toList.drop i)).length_le
  rw [List.length_drop, lenB] at h1
  generalize List.dropWhile (fun x => List.contains [32, 9, 10, 13] x) (s.data.toList.drop i) = d at h1
  cases d with
  | nil => simp
  | cons x d =>
    simp only [List.isEmpty_cons, Bool.false_eq_true, if_false, List.length_append, List.length_cons] at h1 ⊢
    omega
end
end Go.Proofs.YtmfjddhckblbhaaGreatDoor
namespace Go.Proofs.YtmfjddhckblbhaaGreatDoor
open Go Go.RowKit Go.MapKept

/-- Two texts, a line's end and a blank between. -/
def joinT (s t : ByteArray) : ByteArray := s ++ { data := #[10, 32] } ++ t
/-- A token that begins later. -/
def shT (a : Nat) (y : TokS) : TokS := ⟨y.k, y.t, y.r, y.a + a⟩
theorem lexR_skip {s : ByteArray} {n i i' : Nat} {acc : List TokS} (hn : 0 < n) (h : skipB s i = skipB s i') : lexR clR byR s n i acc = lexR clR byR s n i' acc := by
  obtain ⟨m, rfl⟩ : ∃ m, n = m + 1 := ⟨n - 1, by omega⟩
  rw [lexR, lexR, h]
theorem lexR_len {s : ByteArray} : ∀ (n i : Nat) (acc ts : List TokS) (a e : Nat), acc.length ≤ 600 → lexR clR byR s n i acc = (ts, a, e) → ts.length ≤ 600
  | 0, _, _, _, _, _, _, h => by
    simp only [lexR, Prod.mk.injEq] at h
    rw [← h.1]; simp
  | n + 1, i, acc, ts, a, e, hl, h => by
    rw [lexR] at h
    split at h
    · simp only [Prod.mk.injEq] at h
      rw [← h.1]; exact hl
    · split at h
      · simp only [Prod.mk.injEq] at h
        rw [← h.1]; simp
      · split at h
        · simp only [Prod.mk.injEq] at h
          rw [← h.1]; simp
        · exact lexR_len n _ _ _ _ _ (by simp; omega) h
theorem lexR_more {s : ByteArray} : ∀ (n i : Nat) (acc ts : List TokS) (a : Nat), i ≤ s.size → s.size < n + i → lexR clR byR s n i acc = (ts, a, 0) → acc.length ≤ ts.length
  | 0, _, _, _, _, hi, hn, h => by omega
  | n + 1, i, acc, ts, a, hi, hn, h => by
    rw [lexR] at h
    split at h
    · simp only [Prod.mk.injEq] at h
      rw [h.1]; exact Nat.le_refl _
    · split at h
      · simp at h
      · rename_i k t r j hw
        have hah := wayR_ahead (clR_ahead s) (byR_ahead s) hw
        have hsk := skipB_le s i hi
        split at h
        · simp at h
        · have := lexR_more n _ _ _ _ hah.2 (by omega) h
          simp at this
          omega
theorem lex_pre {u s : ByteArray} {m : List UInt8} (P : Pre u s m) : ∀ (n i : Nat) (acc ts : List TokS) (a : Nat), i ≤ s.size → s.size < n + i → lexR clR byR s n i acc = (ts, a, 0) → ∀ k, u.size < k + i →
    ∃ k', u.size < k' + s.size ∧ lexR clR byR u k i acc = lexR clR byR u k' s.size ts
  | 0, _, _, _, _, hi, hn, h, _, _ => by omega
  | n + 1, i, acc, ts, a, hi, hn, h, k, hk => by
    have hz := P.size
    rw [lexR] at h
    split at h
    · rename_i h1
      simp only [Prod.mk.injEq] at h
      obtain ⟨rfl, _⟩ := h
      exact ⟨k, by omega, lexR_skip (by omega) ((P.skip i hi).2 h1)⟩
    · rename_i h1
      split at h
      · simp at h
      · rename_i kk t r j hw
        have hah := wayR_ahead (clR_ahead s) (byR_ahead s) hw
        have hsk := skipB_le s i hi
        split at h
        · simp at h
        · rename_i h6
          obtain ⟨k', hk', e⟩ := lex_pre P n _ _ _ _ hah.2 (by omega) h (k - 1) (by omega)
          refine ⟨k', hk', ?_⟩
          have hsu := (P.skip i hi).1 h1
          rw [lexR_go (by omega) (by rw [hsu]; omega) (by rw [hsu]; exact P.way _ hw), if_neg h6, hsu]
          exact e
theorem lex_tail {u s : ByteArray} {a : Nat} (T : Tail u s a 0) (acc0 : List TokS) : ∀ (n i : Nat) (acc ts : List TokS) (at' f : Nat), i ≤ s.size → s.size < n + i → acc0.length + acc.length ≤ 600 → lexR clR byR s n i acc = (ts, at', f) → ∀ k, u.size < k + (a + i) →
    (f = 0 ∧ acc0.length + ts.length ≤ 600 ∧ lexR clR byR u k (a + i) (acc0 ++ acc.map (shT a)) = (acc0 ++ ts.map (shT a), u.size, 0)) ∨
    (f ≠ 0 ∧ lexR clR byR u k (a + i) (acc0 ++ acc.map (shT a)) = ([], at' + a, f)) ∨
    ((lexR clR byR u k (a + i) (acc0 ++ acc.map (shT a))).2.2 = 7 ∧ (f = 0 → 600 < acc0.length + ts.length))
  | 0, _, _, _, _, _, hi, hn, _, _, _, _ => by omega
  | n + 1, i, acc, ts, at', f, hi, hn, hl, h, k, hk => by
    have hz := T.size
    have hsk := skipB_le s i hi
    have hsu : skipB u (a + i) = skipB s i + a := by have := T.skip i (by omega); rw [Nat.zero_add] at this; omega
    have hwu := T.way (skipB s i)
    rw [Nat.zero_add, Nat.add_comm a (skipB s i), ← hsu] at hwu
    have hah0 := h
    rw [lexR] at h
    split at h
    · rename_i h1
      simp only [Prod.mk.injEq] at h
      obtain ⟨rfl, _, rfl⟩ := h
      exact .inl ⟨rfl, hl, lexR_end (by omega) (by omega)⟩
    · rename_i h1
      split at h
      · rename_i hw
        simp only [Prod.mk.injEq] at h
        obtain ⟨rfl, rfl, rfl⟩ := h
        rw [hw] at hwu
        exact .inr (.inl ⟨by omega, by rw [lexR_bad (by omega) (by omega) hwu, hsu]⟩)
      · rename_i kk t r j hw
        have hah := wayR_ahead (clR_ahead s) (byR_ahead s) hw
        rw [hw] at hwu
        simp only [Option.map_some, mv4] at hwu
        rw [show j + a - 0 = a + j by omega] at hwu
        have hgo := lexR_go (n := k) (acc := acc0 ++ acc.map (shT a)) (by omega) (by omega) hwu
        split at h
        · rename_i h6
          simp only [Prod.mk.injEq] at h
          obtain ⟨rfl, rfl, rfl⟩ := h
          refine .inr (.inl ⟨by omega, ?_⟩)
          rw [hgo, if_pos (by simp; omega), hsu]
        · rename_i h6
          by_cases h7 : acc0.length + acc.length = 600
          · refine .inr (.inr ⟨?_, fun hf => ?_⟩)
            · rw [hgo, if_pos (by simp; omega)]
            · subst hf
              have := lexR_more n _ _ _ _ hah.2 (by omega) h
              simp at this
              omega
          · have e : acc0 ++ acc.map (shT a) ++ [(⟨kk, t, r, (skipB u (a + i) : Nat)⟩ : TokS)] = acc0 ++ (acc ++ [(⟨kk, t, r, (skipB s i : Nat)⟩ : TokS)]).map (shT a) := by
              rw [hsu]
              simp [shT]
            have ih := lex_tail T acc0 n j _ ts at' f hah.2 (by omega) (by simp; omega) h (k - 1) (by omega)
            rw [hgo, if_neg (by simp; omega), e]
            exact ih
theorem join_pre (s t : ByteArray) : Pre (joinT s t) s (32 :: t.data.toList) ∧ Tail (joinT s t) t (s.size + 2) 0 ∧ skipB (joinT s t) s.size = skipB (joinT s t) (s.size + 2) ∧ (joinT s t).size = s.size + t.size + 2 := by
  have e : (joinT s t).data.toList = s.data.toList ++ 10 :: 32 :: t.data.toList := by
    unfold joinT
    rw [ByteArray.data_append, ByteArray.data_append, Array.toList_append, Array.toList_append, List.append_assoc]
    rfl
  have P : Pre (joinT s t) s (32 :: t.data.toList) := ⟨e⟩
  have hz := P.size
  rw [List.length_cons, lenB] at hz
  have d1 := P.drop s.size (Nat.le_refl _)
  rw [show s.data.toList.drop s.size = [] from List.drop_eq_nil_of_le (by rw [lenB]; exact Nat.le_refl _), List.nil_append] at d1
  have d2 : (joinT s t).data.toList.drop (s.size + 2) = t.data.toList := by
    rw [← List.drop_drop, d1]; rfl
  refine ⟨P, ⟨by rw [d2]; rfl, by omega, by omega⟩, ?_, by omega⟩
  unfold skipB Lib.trimLeftS
  rw [d1, d2]
  rfl
/-- What is read of two texts with a blank between. -/
theorem blank_law (s t : ByteArray) (hs : s.size ≤ 1000) (ht : t.size ≤ 1000) (a b : List TokS) (p q f : Nat) (ha : lexT s = (a, p, 0)) (hb : lexT t = (b, q, f)) :
    (f = 0 ∧ a.length + b.length ≤ 600 ∧ ∃ x, lexT (joinT s t) = (a ++ b.map (shT (s.size + 2)), x, 0)) ∨
    (f ≠ 0 ∧ ∃ x, lexT (joinT s t) = ([], q + (s.size + 2), f) ∧ x = 0) ∨
    (∃ c x, lexT (joinT s t) = (c, x, 7) ∧ (f = 0 → 600 < a.length + b.length)) := by
  obtain ⟨P, T, hsk, hz⟩ := join_pre s t
  generalize joinT s t = u at P T hsk hz ⊢
  unfold lexT at ha hb ⊢
  rw [if_neg (by omega)] at ha hb ⊢
  have hla := lexR_len _ _ _ _ _ _ (by simp) ha
  obtain ⟨k, hk, e⟩ := lex_pre P _ _ _ _ _ (by omega) (by omega) ha (u.size + 1) (by omega)
  rw [e, lexR_skip (by omega) hsk]
  have h := lex_tail T a _ 0 [] b q f (by omega) (by omega) (by simpa using hla) hb k (by omega)
  simp only [Nat.add_zero, List.map_nil, List.append_nil] at h
  rcases h with ⟨h1, h2, h3⟩ | ⟨h1, h2⟩ | ⟨h1, h2⟩
  · exact .inl ⟨h1, h2, _, h3⟩
  · exact .inr (.inl ⟨h1, 0, h2, rfl⟩)
  · refine .inr (.inr ⟨(lexR clR byR u k (s.size + 2) a).1, (lexR clR byR u k (s.size + 2) a).2.1, ?_, h2⟩)
    rw [← h1]
theorem lexR_at {s : ByteArray} : ∀ (n i : Nat) (acc ts : List TokS) (a e : Nat), i ≤ s.size → (∀ y ∈ acc, 0 ≤ y.a ∧ y.a ≤ s.size) → lexR clR byR s n i acc = (ts, a, e) → ∀ y ∈ ts, 0 ≤ y.a ∧ y.a ≤ s.size
  | 0, _, _, _, _, _, _, _, h => by
    simp only [lexR, Prod.mk.injEq] at h
    rw [← h.1]; simp
  | n + 1, i, acc, ts, a, e, hi, hl, h => by
    rw [lexR] at h
    split at h
    · simp only [Prod.mk.injEq] at h
      rw [← h.1]; exact hl
    · split at h
      · simp only [Prod.mk.injEq] at h
        rw [← h.1]; simp
      · rename_i hw
        have hah := wayR_ahead (clR_ahead s) (byR_ahead s) hw
        split at h
        · simp only [Prod.mk.injEq] at h
          rw [← h.1]; simp
        · refine lexR_at n _ _ _ _ _ hah.2 (fun y hy => ?_) h
          rcases List.mem_append.1 hy with hy | hy
          · exact hl y hy
          · obtain rfl := List.mem_singleton.1 hy
            simp only
            omega
theorem lexT_at {s : ByteArray} {ts : List TokS} {a e : Nat} (h : lexT s = (ts, a, e)) : ∀ y ∈ ts, 0 ≤ y.a ∧ y.a ≤ s.size := by
  unfold lexT at h
  split at h
  · simp only [Prod.mk.injEq] at h
    rw [← h.1]; simp
  · exact lexR_at _ _ _ _ _ _ (by omega) (by simp) h
theorem lexR_fin {s : ByteArray} : ∀ (n i : Nat) (acc ts : List TokS) (a e : Nat), i ≤ s.size → lexR clR byR s n i acc = (ts, a, e) → a ≤ s.size
  | 0, _, _, _, _, _, _, h => by
    simp only [lexR, Prod.mk.injEq] at h
    omega
  | n + 1, i, acc, ts, a, e, hi, h => by
    have hsk := skipB_le s i hi
    rw [lexR] at h
    split at h
    · simp only [Prod.mk.injEq] at h
      omega
    · split at h
      · simp only [Prod.mk.injEq] at h
        omega
      · rename_i hw
        have hah := wayR_ahead (clR_ahead s) (byR_ahead s) hw
        split at h
        · simp only [Prod.mk.injEq] at h
          omega
        · exact lexR_fin n _ _ _ _ _ hah.2 h
theorem lexT_fin {s : ByteArray} {ts : List TokS} {a e : Nat} (h : lexT s = (ts, a, e)) : a ≤ s.size := by
  unfold lexT at h
  split at h
  · simp only [Prod.mk.injEq] at h
    omega
  · exact lexR_fin _ _ _ _ _ _ (by omega) h
theorem lexT_len {s : ByteArray} {ts : List TokS} {a e : Nat} (h : lexT s = (ts, a, e)) : ts.length ≤ 600 := by
  unfold lexT at h
  split at h
  · simp only [Prod.mk.injEq] at h
    rw [← h.1]; simp
  · exact lexR_len _ _ _ _ _ _ (by simp) h
end Go.Proofs.YtmfjddhckblbhaaGreatDoor
