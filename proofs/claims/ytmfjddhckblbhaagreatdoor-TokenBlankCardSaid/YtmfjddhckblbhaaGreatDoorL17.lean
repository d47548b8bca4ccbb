/- What is read of a text's end, wherever the end stands: the plain laws. -/
import Derived.Test.YtmfjddhckblbhaaGreatDoorL13
import Derived.Test.YtmfjddhckblbhaaGreatDoorL14
set_option linter.unusedVariables false
set_option linter.unusedSimpArgs false
namespace Go.Proofs.YtmfjddhckblbhaaGreatDoor
open Go Go.RowKit Go.MapKept

/-- From a on the one text is what the other one is from b on. -/
structure Tail (u s : ByteArray) (a b : Nat) : Prop where
  drop : u.data.toList.drop a = s.data.toList.drop b
  la : a ≤ u.size
  lb : b ≤ s.size
section
variable {u s : ByteArray} {a b : Nat}
theorem Tail.at (h : Tail u s a b) (i : Nat) : u.data.toList.drop (a + i) = s.data.toList.drop (b + i) := by
  rw [← List.drop_drop, ← List.drop_drop, h.drop]
theorem Tail.size (h : Tail u s a b) : u.size + b = s.size + a := by
  have h1 := congrArg List.length h.drop
  have := h.la
  have := h.lb
  rw [List.length_drop, List.length_drop, lenB, lenB] at h1
  omega
theorem Tail.byte (h : Tail u s a b) (i : Nat) : u.data[a + i]? = s.data[b + i]? := by
  have h1 := congrArg (fun l => l[0]?) (h.at i)
  simpa using h1
theorem isB_get (s : ByteArray) (i : Nat) (c : Int) : isB s i c = match s.data[i]? with | some x => ((x.toNat : Int) == c) | none => false := by
  unfold isB
  by_cases h : i < s.size
  · rw [dif_pos h, digitByte s i h]
  · rw [dif_neg h, Array.getElem?_eq_none (show s.data.size ≤ i from Nat.le_of_not_lt h)]
theorem Tail.isB (h : Tail u s a b) (i : Nat) (c : Int) : isB u (a + i) c = Proofs.YtmfjddhckblbhaaGreatDoor.isB s (b + i) c := by
  rw [isB_get, isB_get, h.byte]
theorem Tail.num (h : Tail u s a b) : ∀ (m i n : Nat), numR u m (a + i) n = numR s m (b + i) n
  | 0, _, _ => rfl
  | m + 1, i, n => by
    unfold numR
    rw [h.byte]
    split
    · rfl
    · split
      · rfl
      · rename_i d _
        have := Tail.num h m (i + 1) (n * 16 + d)
        rw [← Nat.add_assoc, ← Nat.add_assoc] at this
        rw [this]
/-- A place, as it stands in the other text. -/
def mvP (a b : Nat) {α : Type} (x : α × Nat) : α × Nat := (x.1, x.2 + a - b)
theorem Tail.sc (h : Tail u s a b) (i : Nat) : scR u (a + i) = (scR s (b + i)).map (mvP a b) := by
  unfold scR
  rw [h.at, h.isB, show a + i + 1 = a + (i + 1) by omega, h.isB, show a + i + 2 = a + (i + 2) by omega, h.num]
  rw [show b + (i + 1) = b + i + 1 by omega, show b + (i + 2) = b + i + 2 by omega]
  generalize numR s 6 (b + i + 2) 0 = p
  rw [show a + (i + 2) + p.2 = a + (i + 2 + p.2) by omega, h.isB, show b + (i + 2 + p.2) = b + i + 2 + p.2 by omega]
  split
  · split
    · split
      · simp only [Option.map_some, mvP, Option.some.injEq, Prod.mk.injEq, true_and]; omega
      · rfl
    · rfl
  · split
    · simp only [Option.map_some, mvP, Option.some.injEq, Prod.mk.injEq, true_and]; omega
    · rfl
theorem Tail.hx (h : Tail u s a b) (i : Nat) : hxR u (a + i) = (hxR s (b + i)).map (mvP a b) := by
  unfold hxR
  rw [h.num]
  split
  · simp only [Option.map_some, mvP, Option.some.injEq, Prod.mk.injEq, true_and]; omega
  · rfl
theorem Tail.items (h : Tail u s a b) {ou os : Nat → Option (Nat × Nat)} (ho : ∀ i, ou (a + i) = (os (b + i)).map (mvP a b)) (ha : ∀ i lo j, os i = some (lo, j) → i < j) (e : Int) :
    ∀ (n i : Nat) (acc : List Rng), itemsR ou u e n (a + i) acc = (itemsR os s e n (b + i) acc).map (mvP a b)
  | 0, _, _ => rfl
  | n + 1, i, acc => by
    unfold itemsR
    rw [h.isB, ho]
    split
    · simp only [Option.map_some, mvP, Option.some.injEq, Prod.mk.injEq, true_and]; omega
    · cases h1 : os (b + i) with
      | none => rfl
      | some p =>
        obtain ⟨lo, j⟩ := p
        have hj := ha _ _ _ h1
        obtain ⟨j', rfl⟩ : ∃ j', j = b + j' := ⟨j - b, by omega⟩
        simp only [Option.map_some, mvP]
        rw [show b + j' + a - b = a + j' by omega, h.isB]
        split
        · rw [show a + j' + 1 = a + (j' + 1) by omega, ho, show b + (j' + 1) = b + j' + 1 by omega]
          cases h2 : os (b + j' + 1) with
          | none => rfl
          | some p =>
            obtain ⟨hi, k⟩ := p
            have hk := ha _ _ _ h2
            obtain ⟨k', rfl⟩ : ∃ k', k = b + k' := ⟨k - b, by omega⟩
            simp only [Option.map_some, mvP]
            split
            · rfl
            · rw [show b + k' + a - b = a + k' by omega]
              exact Tail.items h ho ha e n k' _
        · exact Tail.items h ho ha e n j' _
theorem Tail.skip (h : Tail u s a b) (i : Nat) (hi : b + i ≤ s.size) : skipB u (a + i) = skipB s (b + i) + a - b := by
  unfold skipB
  rw [h.at]
  have h1 := (List.dropWhile_suffix (fun x => List.contains [32, 9, 10, 13] x) (l := s.data.toList.drop (b + i))).length_le
  have h2 : (s.data.toList.drop (b + i)).length = s.size - (b + i) := by rw [List.length_drop, lenB]
  unfold Lib.trimLeftS
  have := h.size
  have := h.lb
  omega
end
/-- How much fuel there is counts for nothing, if there is enough. -/
theorem itemsR_fuel {one : Nat → Option (Nat × Nat)} {s : ByteArray} {e : Int} (ha : ∀ i lo j, one i = some (lo, j) → i < j) (hs : ∀ i lo j, i ≤ s.size → one i = some (lo, j) → j ≤ s.size) : ∀ (n m i : Nat) (acc : List Rng), i ≤ s.size → s.size < n + i → s.size < m + i → itemsR one s e n i acc = itemsR one s e m i acc
  | 0, m, i, acc, hi, hn, hm => by omega
  | n + 1, 0, i, acc, hi, hn, hm => by omega
  | n + 1, m + 1, i, acc, hi, hn, hm => by
    unfold itemsR
    split
    · rfl
    · cases h1 : one i with
      | none => rfl
      | some p =>
        obtain ⟨lo, j⟩ := p
        have hj := ha _ _ _ h1
        have hj2 := hs _ _ _ hi h1
        simp only
        split
        · rename_i hb
          have hb2 := isB_lt hb
          cases h2 : one (j + 1) with
          | none => rfl
          | some p =>
            obtain ⟨h, k⟩ := p
            have hk := ha _ _ _ h2
            have hk2 := hs _ _ _ (by omega) h2
            simp only
            split
            · rfl
            · exact itemsR_fuel ha hs n m k _ hk2 (by omega) (by omega)
        · exact itemsR_fuel ha hs n m j _ hj2 (by omega) (by omega)
theorem scR_size (s : ByteArray) (i lo j : Nat) (hi : i ≤ s.size) (h : scR s i = some (lo, j)) : j ≤ s.size := by
  unfold scR at h
  split at h
  · split at h
    · split at h
      · rename_i h1
        simp only [Option.some.injEq, Prod.mk.injEq] at h
        have := isB_lt h1.2.2
        omega
      · cases h
    · cases h
  · split at h
    · rename_i h1
      simp only [Option.some.injEq, Prod.mk.injEq] at h
      have := (nextU_spec (s.data.toList.drop i)).1
      rw [List.length_drop, lenB] at this
      omega
    · cases h
end Go.Proofs.YtmfjddhckblbhaaGreatDoor
namespace Go.Proofs.YtmfjddhckblbhaaGreatDoor
open Go Go.RowKit Go.MapKept

/-- The surrogates. -/
def surr : List Rng := [⟨55296, 57343⟩]
def full : List Rng := [⟨0, 1114111⟩]
/-- A class, as a token. -/
def clsT (l : List Rng) : TokS := ⟨2, { data := #[] }, l, 0⟩
/-- A text, told behind a ^. -/
def hatT (s : ByteArray) : ByteArray := { data := #[91, 94] } ++ s.extract 1 s.size
theorem less_less (L : List Rng) : lessF (lessF full (normR L)) surr = lessF (lessF full (lessF (normR L) surr)) surr := by
  refine ordR_eq _ _ (lessF_law _ _).1 (lessF_law _ _).1 (fun n => ?_)
  simp only [(lessF_law _ _).2]
  cases decide (0 ≤ n) <;> cases decide (n ≤ 1114111) <;> cases hasR full n <;> cases hasR (normR L) n <;> cases hasR surr n <;> rfl
theorem wayR_class (s : ByteArray) (h : s.data[0]? = some 91) : wayR clR byR s 0 = clR s 0 := by
  unfold wayR
  rw [h]
  simp only [show (91 : UInt8).toNat = 91 from rfl]
  rfl
theorem skip_class (s : ByteArray) (h : s.data[0]? = some 91) : skipB s 0 = 0 ∧ 0 < s.size := by
  have h0 : 0 < s.size := by
    rcases Nat.lt_or_ge 0 s.size with h1 | h1
    · exact h1
    · rw [Array.getElem?_eq_none (show s.data.size ≤ 0 from h1)] at h; cases h
  have e := digitByte s 0 h0
  rw [h] at e
  have e2 : s[0]'h0 = 91 := (Option.some.inj e).symm
  exact ⟨skip_none s h0 (by rw [e2]; decide), h0⟩
/-- One token and no more. -/
theorem lex_end {s : ByteArray} {y : TokS} {a : Nat} (h : lexT s = ([y], a, 0)) {k : Int} {t : ByteArray} {r : List Rng} {j : Nat} (hw : wayR clR byR s (skipB s 0) = some (k, t, r, j)) : skipB s j = s.size := by
  unfold lexT at h
  split at h
  · simp at h
  · rw [lexR] at h
    split at h
    · simp at h
    · rw [hw] at h
      simp only [List.length_nil] at h
      rw [if_neg (by omega)] at h
      rcases Nat.eq_zero_or_pos s.size with h0 | h0
      · rw [h0, lexR] at h
        simp at h
      · obtain ⟨m, hm⟩ : ∃ m, s.size = m + 1 := ⟨s.size - 1, by omega⟩
        rw [hm, lexR] at h
        split at h
        · rename_i h1
          exact h1
        · split at h
          · simp at h
          · rw [if_neg (by simp)] at h
            obtain ⟨l, hl⟩ := lexR_acc _ _ _ _ _ h (by simp)
            have := congrArg List.length hl
            simp at this
theorem scL_first (n : Nat) : ∃ c m, scL n = c :: m ∧ c ≠ 94 := by
  unfold scL
  split
  · rename_i h
    refine ⟨_, _, rfl, fun e => ?_⟩
    have h2 := congrArg UInt8.toNat e
    rw [UInt8.toNat_ofNat', show (94 : UInt8).toNat = 94 from rfl] at h2
    have h3 : n = 94 := by omega
    subst h3
    exact absurd h.2.2 (by decide)
  · exact ⟨92, _, rfl, by decide⟩
theorem show_cls (l : List Rng) : showL (clsT l) = 91 :: (setL scL l ++ [93]) := by
  unfold showL clsT
  simp
theorem set_first (l : List Rng) : ∃ c m, setL scL l ++ [93] = c :: m ∧ c ≠ 94 := by
  cases l with
  | nil => exact ⟨93, [], rfl, by decide⟩
  | cons r l =>
    obtain ⟨c, m, h1, h2⟩ := scL_first r.lo.toNat
    refine ⟨c, m ++ ((if r.lo < r.hi then 45 :: scL r.hi.toNat else []) ++ (setL scL l ++ [93])), ?_, h2⟩
    unfold setL
    rw [List.flatMap_cons]
    unfold rngL
    rw [h1]
    simp
theorem hat_tail (s : ByteArray) (h : 0 < s.size) : Tail (hatT s) s 2 1 ∧ (hatT s).data[0]? = some 91 ∧ isB (hatT s) 1 94 = true ∧ (hatT s).size = s.size + 1 := by
  have e : (hatT s).data.toList = 91 :: 94 :: s.data.toList.drop 1 := by
    unfold hatT
    have := toList_extract_end s 1
    rw [ByteArray.data_append, Array.toList_append, this]
    rfl
  have hl : (hatT s).size = s.size + 1 := by
    have := congrArg List.length e
    rw [lenB] at this
    simp only [List.length_cons, List.length_drop, lenB] at this
    omega
  have g : ∀ i : Nat, (hatT s).data[i]? = (91 :: 94 :: s.data.toList.drop 1)[i]? := fun i => by rw [← e]; simp
  refine ⟨⟨by rw [e]; rfl, by omega, by omega⟩, g 0, ?_, hl⟩
  rw [isB_get, g 1]
  rfl
theorem set_told (l : List Rng) (hl : l.length ≤ 20) (h : mayT (clsT l) = true) :
    rmay l = true ∧ 2 ≤ (showL (clsT l)).length ∧ (showL (clsT l)).length ≤ 400 ∧ ∃ a, lexT (hatT ⟨(showL (clsT l)).toArray⟩) = ([⟨2, { data := #[] }, lessF (lessF full l) surr, 0⟩], a, 0) := by
  have hsh := show_cls l
  have hlen : (showL (clsT l)).length = (setL scL l).length + 2 := by rw [hsh]; simp
  have hle := setL_len scL scL_len l
  unfold mayT at h
  simp only [Bool.and_eq_true] at h
  refine ⟨h.1.1.2, by omega, by omega, ?_⟩
  have h5 := h.2
  clear h
  obtain ⟨c, m, hc, hc94⟩ := set_first l
  generalize hs : (⟨(showL (clsT l)).toArray⟩ : ByteArray) = s at h5 ⊢
  have hsz : s.size = (showL (clsT l)).length := by rw [← hs]; rfl
  have hd : s.data.toList = 91 :: c :: m := by rw [← hs, ← hc, ← hsh]
  have g : ∀ i : Nat, s.data[i]? = (91 :: c :: m)[i]? := fun i => by rw [← hd]; simp
  split at h5
  case h_2 => cases h5
  rename_i y a hlx
  obtain ⟨s1, s2⟩ := skip_class s (g 0)
  obtain ⟨h1, h2, h3, j, h4⟩ := lex_one hlx
  have hend := lex_end hlx h4
  rw [s1, wayR_class s (g 0)] at h4
  unfold sameT at h5
  simp only [Bool.and_eq_true, decide_eq_true_eq] at h5
  have hnb : isB s 1 94 = false := by
    rw [isB_get, g 1]
    simp only [List.getElem?_cons_succ, List.getElem?_cons_zero]
    simp only [beq_eq_false_iff_ne, ne_eq]
    intro e
    exact hc94 (by apply UInt8.toNat_inj.1; rw [show (94 : UInt8).toNat = 94 from rfl]; omega)
  unfold clR at h4
  rw [hnb] at h4
  simp only [Bool.false_eq_true, if_false, Nat.zero_add] at h4
  split at h4
  case h_2 => cases h4
  rename_i L j' hit
  simp only [Option.some.injEq, Prod.mk.injEq] at h4
  obtain ⟨_, _, hr, rfl⟩ := h4
  have hrl : lessF (normR L) surr = l := by rw [show surr = [⟨55296, 57343⟩] from rfl, hr, h5.2]; rfl
  obtain ⟨T, t0, t1, t2⟩ := hat_tail s s2
  have hah := itemsR_ahead (scR_ahead s) _ _ _ _ _ hit
  generalize hatT s = u at T t0 t1 t2 ⊢
  have hit2 : itemsR (scR u) u 93 (u.size + 1) 2 [] = some (L, j' + 1) := by
    have e1 := T.items (T.sc) (scR_ahead s) 93 (u.size + 1) 0 []
    rw [Nat.add_zero, Nat.add_zero] at e1
    rw [e1, itemsR_fuel (scR_ahead s) (scR_size s) (u.size + 1) (s.size + 1) 1 [] (by omega) (by omega) (by omega), hit]
    simp only [Option.map_some, mvP, Option.some.injEq, Prod.mk.injEq, true_and]
    omega
  have hcl : wayR clR byR u 0 = some (2, { data := #[] }, lessF (lessF full l) surr, j' + 1) := by
    rw [wayR_class u t0]
    unfold clR
    rw [t1]
    simp only [if_true, Nat.zero_add]
    rw [hit2]
    simp only [Option.some.injEq, Prod.mk.injEq, true_and, and_true]
    rw [← hrl]
    exact less_less L
  obtain ⟨u1, u2⟩ := skip_class u t0
  have hend2 : skipB u (j' + 1) = u.size := by
    have e1 := T.skip (j' - 1) (by omega)
    rw [show 2 + (j' - 1) = j' + 1 by omega, show 1 + (j' - 1) = j' by omega, hend] at e1
    omega
  refine ⟨u.size, ?_⟩
  unfold lexT
  rw [if_neg (by omega), lexR_go (by omega) (by omega) (by rw [u1]; exact hcl), if_neg (by simp), lexR_end (by omega) hend2, u1]
  rfl
end Go.Proofs.YtmfjddhckblbhaaGreatDoor
