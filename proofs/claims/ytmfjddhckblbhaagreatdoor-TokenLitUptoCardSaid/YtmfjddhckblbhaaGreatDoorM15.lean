/- The scanner reads the ranges of a set. -/
import Derived.Test.YtmfjddhckblbhaaGreatDoorM7
import Derived.Test.YtmfjddhckblbhaaGreatDoorM14
import Derived.Laws.IdiomStrings
import Derived.Laws.Bits64b
set_option linter.unusedVariables false
set_option linter.unusedSimpArgs false
namespace Go.Proofs.YtmfjddhckblbhaaGreatDoor
open Go Go.RowKit Go.MapKept
attribute [local go_sem] Oper.semAt_some

/-- The ranges from i on, behind some, up to the byte e: and where they end. -/
def itemsR (one : Nat → Option (Nat × Nat)) (s : ByteArray) (e : Int) : Nat → Nat → List Rng → Option (List Rng × Nat)
  | 0, _, _ => none
  | n + 1, i, acc =>
    if isB s i e = true then some (acc, i + 1)
    else match one i with
      | none => none
      | some (lo, j) =>
        if isB s j 45 = true then (match one (j + 1) with
          | none => none
          | some (hi, k) => if hi < lo then none else itemsR one s e n k (acc ++ [⟨lo, hi⟩]))
        else itemsR one s e n j (acc ++ [⟨lo, lo⟩])
theorem itemsR_end {one : Nat → Option (Nat × Nat)} {s : ByteArray} {e : Int} {n i : Nat} {acc : List Rng} (hn : 0 < n) (h : isB s i e = true) : itemsR one s e n i acc = some (acc, i + 1) := by
  obtain ⟨m, rfl⟩ : ∃ m, n = m + 1 := ⟨n - 1, by omega⟩
  rw [itemsR, if_pos h]
theorem itemsR_bad {one : Nat → Option (Nat × Nat)} {s : ByteArray} {e : Int} {n i : Nat} {acc : List Rng} (hn : 0 < n) (h : isB s i e = false) (h1 : one i = none) : itemsR one s e n i acc = none := by
  obtain ⟨m, rfl⟩ : ∃ m, n = m + 1 := ⟨n - 1, by omega⟩
  rw [itemsR, if_neg (by simp [h]), h1]
theorem itemsR_one {one : Nat → Option (Nat × Nat)} {s : ByteArray} {e : Int} {n i lo j : Nat} {acc : List Rng} (hn : 0 < n) (h : isB s i e = false) (h1 : one i = some (lo, j)) (h2 : isB s j 45 = false) : itemsR one s e n i acc = itemsR one s e (n - 1) j (acc ++ [⟨lo, lo⟩]) := by
  obtain ⟨m, rfl⟩ : ∃ m, n = m + 1 := ⟨n - 1, by omega⟩
  rw [itemsR, if_neg (by simp [h]), h1]
  simp [h2]
theorem itemsR_two {one : Nat → Option (Nat × Nat)} {s : ByteArray} {e : Int} {n i lo j : Nat} {acc : List Rng} (hn : 0 < n) (h : isB s i e = false) (h1 : one i = some (lo, j)) (h2 : isB s j 45 = true) : itemsR one s e n i acc = (match one (j + 1) with
          | none => none
          | some (hi, k) => if hi < lo then none else itemsR one s e (n - 1) k (acc ++ [⟨lo, hi⟩])) := by
  obtain ⟨m, rfl⟩ : ∃ m, n = m + 1 := ⟨n - 1, by omega⟩
  rw [itemsR, if_neg (by simp [h]), h1]
  simp [h2]
/-- Two digits, as a sign of a set of bytes. -/
def hxR (s : ByteArray) (i : Nat) : Option (Nat × Nat) := if (numR s 2 i 0).2 = 2 then some ((numR s 2 i 0).1, i + 2) else none
theorem hexOne_any (b : Nat) (s : ByteArray) (i : Nat) (w : World) (H : Scan w b s i) (hm : s.size ≤ 4096) (hi : i ≤ s.size) :
    Calls Tryz.prog 66 #[.pointer (some ⟨b, 0, none⟩)] w (OneAt b s w (hxR s i)) := by
  refine (hex_any b s i w H hm hi).mono ?_
  rintro e w' ⟨rfl, h2, h3⟩
  have hsz := numR_size s 2 i 0 hi
  have hlt := numR_lt s 2 i 0
  unfold hxR
  generalize numR s 2 i 0 = p at *
  obtain ⟨v, c⟩ := p
  simp only at *
  refine ⟨⟨v, c == 2, i + c, rfl, h2, hsz, fun _ => by omega, ?_⟩, h3⟩
  by_cases hc : c = 2
  · subst hc; simp
  · simp [hc]
/-- What the walk of items knows at the head of a round. -/
def ItAt (one : Nat → Option (Nat × Nat)) (b : Nat) (s : ByteArray) (e : Int) (w : World) (goal : Option (List Rng × Nat)) (v : Value) (wr : World) : Prop :=
  ∃ (n k : Nat) (acc : List Rng), k ≤ s.size ∧ s.size < n + k ∧ acc.length ≤ k ∧ Scan wr b s k ∧ OwnL RngRow [b] wr w.heap.size 44 2 v acc ∧ Keep [b] w wr ∧ itemsR one s e n k acc = goal
/-- What items hands back. -/
def ItPost (b : Nat) (s : ByteArray) (w : World) (goal : Option (List Rng × Nat)) (en : Ending) (w' : World) : Prop :=
  Keep [b] w w' ∧ match goal with
     | some (l, j) => ∃ v, en = .returned (.tuple #[v, .bool true]) ∧ OwnL RngRow [] w' w.heap.size 44 2 v (normR l) ∧ Scan w' b s j ∧ j ≤ s.size
     | none => ∃ j, en = .returned (.tuple #[.slice none 0 0, .bool false]) ∧ Scan w' b s j

set_option maxRecDepth 20000 in
set_option maxHeartbeats 4000000 in
theorem items_any (f : Nat) (one : Nat → Option (Nat × Nat)) (b : Nat) (s : ByteArray) (hm : s.size ≤ 4096) (hcf : ∀ args w, (callFunc f args).run Tryz.prog w = .ok (.enter f args) w)
    (hf : ∀ i w, Scan w b s i → i ≤ s.size → Calls Tryz.prog f #[.pointer (some ⟨b, 0, none⟩)] w (OneAt b s w (one i))) (ha : ∀ i lo j, one i = some (lo, j) → i < j)
    (e : Int) (i : Nat) (w : World) (H : Scan w b s i) (hi : i ≤ s.size) (goal : Option (List Rng × Nat)) (hg : itemsR one s e (s.size + 1) i [] = goal) :
    Calls Tryz.prog 67 #[.pointer (some ⟨b, 0, none⟩), .int .u8 e, .func (.func f) #[] #[]] w (ItPost b s w goal) := by
  have hlt := H.lt
  have HF := Lib.hid hf
  have HA := Lib.hid ha
  have hst : Hid (ItAt one b s e w goal (.slice none 0 0) w) := Lib.hid ⟨s.size + 1, i, [], hi, by omega, by simp, H, OwnL.nil _ _ _ _ _, Keep.refl _ _, hg⟩
  clear hf ha hg H
  obtain ⟨i0, hi2, hz0, hz1, hz2⟩ := info_parts info_rng
  go_enter Tryz.func67, Tryz.ntmps67
  go_wp2
  go_loopw [6, 7, 8, 9, 10, 11] (fun _ _ v _ _ _ wr => ItAt one b s e w goal v wr) (fun _ _ _ _ _ _ wr => s.size - (intOf ((wr.cell? ⟨b, 1, none⟩).getD undef)).toNat)
  case atStart => exact hst.out
  case round =>
    clear hst
    obtain ⟨n, k, acc, hk, hn, hacc, Hr, Hown, Kr, hg⟩ := hrel
    obtain ⟨A, C, rfl⟩ := Hown.slice
    have HG := Lib.hid hg; clear hg
    have HM := Lib.hid (Hr.cell 1 : wr.cell? ⟨b, 1, none⟩ = some (.int .i64 k))
    go_wp2_with fail
    refine (is_any b s k e _ Hr hm).mono ?_
    rintro en w1 ⟨rfl, H1, K1⟩
    have O1 := Hown.move rngRow_stab K1 (S' := [b]) (fun x hx => .inl ⟨hx, fun h => by have := (Hown.base x h).1; simp at hx; omega⟩) (fun x hx => .inl hx)
    have K2 := Kr.trans K1
    clear Hr Hown Kr K1
    cases hq : isB s k e
    · rw [hq] at H1
      simp only [Bool.false_eq_true, if_false] at H1
      have HQ := Lib.hid hq; clear hq
      have HO1 := Lib.hid (⟨O1, K2⟩ : _ ∧ _)
      clear O1 K2
      go_wp2_with fail
      refine (HF.out k w1 H1 hk).mono ?_
      rintro en w2 ⟨⟨r, ok, j, rfl, H2, hj, hr, hgo⟩, K3⟩
      have O2 := HO1.out.1.move rngRow_stab K3 (S' := [b]) (fun x hx => .inl ⟨hx, fun h => by have := (HO1.out.1.base x h).1; simp at hx; omega⟩) (fun x hx => .inl hx)
      have HO2 := Lib.hid (⟨O2, HO1.out.2.trans K3⟩ : _ ∧ _)
      clear O2 K3 HO1 H1
      cases ok
      · have hg2 := HG.out
        rw [itemsR_bad (by omega) HQ.out (by simpa using hgo)] at hg2
        have HG2 := Lib.hid hg2
        clear hg2 hgo
        go_wp2
        go_ret2
        refine ⟨HO2.out.2, ?_⟩
        rw [← HG2.out]
        exact ⟨j, rfl, H2⟩
      · simp only [if_true] at hgo
        obtain ⟨hr0, hr1⟩ := hr rfl
        obtain ⟨R, rfl⟩ : ∃ R : Nat, r = R := ⟨r.toNat, by omega⟩
        rw [Int.toNat_natCast] at hgo
        have hkj := HA.out _ _ _ hgo
        have HO := Lib.hid hgo
        clear hgo hr
        go_wp2_with fail
        refine (is_any b s j 45 _ H2 hm).mono ?_
        rintro en w3 ⟨rfl, H3, K4⟩
        have O3 := HO2.out.1.move rngRow_stab K4 (S' := [b]) (fun x hx => .inl ⟨hx, fun h => by have := (HO2.out.1.base x h).1; simp at hx; omega⟩) (fun x hx => .inl hx)
        have HO3 := Lib.hid (⟨O3, HO2.out.2.trans K4⟩ : _ ∧ _)
        clear O3 K4 HO2 H2
        cases hd : isB s j 45
        · rw [hd] at H3
          simp only [Bool.false_eq_true, if_false] at H3
          have HG2 := Lib.hid ((itemsR_one (by omega) HQ.out HO.out hd).symm.trans HG.out)
          have HH3 := Lib.hid H3
          clear hd H3
          go_wp2_with (at_builtin; refine Hid.out ?_)
          refine Lib.hid ?_
          have KB := (Keep.refl [] w3).alloc (.cells #[.int .i64 R, .int .i64 R] 44)
          have hlt3 := HO3.out.2.size
          refine wpList_append_data rngRow_stab rngRow_one rfl _ _ 22 rfl Tryz.underlying22 hi2 hz0 hz1 hz2 rfl (by omega) (S := [b]) (base := w.heap.size) (v := .slice A acc.length C) (A := some ⟨w3.heap.size, 0, none⟩) (m := 1) (C := 1) (xs := acc) (ys := [⟨R, R⟩]) rfl rfl
            (HO3.out.1.move rngRow_stab KB (by simp) (fun x hx => .inl hx)) (one_rng (Blk.new' _ _ 44 rfl) (fun hx => by rcases List.mem_append.1 hx with hx | hx; have := (HO3.out.1.base _ hx).2; omega; simp at hx; omega)) (by simp; omega) (by simp; omega) (by simp; omega) ?_
          intro A9 C9 w9 O9 K9 n9
          have H9 := (HH3.out.keep KB (by simp)).keep K9 (fun hx => by have := (HO3.out.1.base _ hx).1; omega)
          have KT := (HO3.out.2.then KB (by simp)).then K9 (fun x hx => .inr (by have := (HO3.out.1.base x hx).1; omega))
          have HFN := Lib.hid (⟨O9, H9, KT⟩ : _ ∧ _ ∧ _)
          clear O9 K9 n9 H9 KT KB
          go_wp2
          refine ⟨⟨n - 1, j, acc ++ [⟨R, R⟩], hj, by omega, by simp; omega, HFN.out.2.1, HFN.out.1, HFN.out.2.2, HG2.out⟩, ?_⟩
          rw [HM.out, HFN.out.2.1.cell 1]
          simp [intOf]
          omega
        · rw [hd] at H3
          simp only [if_true] at H3
          have hj1 := isB_lt hd
          have HG2 := Lib.hid ((itemsR_two (by omega) HQ.out HO.out hd).symm.trans HG.out)
          clear hd HG
          go_wp2_with fail
          refine (HF.out (j + 1) w3 H3 hj1).mono ?_
          rintro en w4 ⟨⟨r2, ok2, j2, rfl, H4, hj2, hr2, hgo2⟩, K5⟩
          have O4 := HO3.out.1.move rngRow_stab K5 (S' := [b]) (fun x hx => .inl ⟨hx, fun h => by have := (HO3.out.1.base x h).1; simp at hx; omega⟩) (fun x hx => .inl hx)
          have HO4 := Lib.hid (⟨O4, HO3.out.2.trans K5⟩ : _ ∧ _)
          clear O4 K5 HO3 H3
          cases ok2
          · have hg2 := HG2.out
            rw [show one (j + 1) = none by simpa using hgo2] at hg2
            have HG3 := Lib.hid hg2
            clear hg2 hgo2
            go_wp2
            go_ret2
            refine ⟨HO4.out.2, ?_⟩
            rw [← HG3.out]
            exact ⟨j2, rfl, H4⟩
          · simp only [if_true] at hgo2
            obtain ⟨hs0, hs1⟩ := hr2 rfl
            obtain ⟨R2, rfl⟩ : ∃ R : Nat, r2 = R := ⟨r2.toNat, by omega⟩
            rw [Int.toNat_natCast] at hgo2
            have hkj2 := HA.out _ _ _ hgo2
            have hg2 := HG2.out
            rw [hgo2] at hg2
            simp only at hg2
            clear hgo2 hr2 HG2
            by_cases hlo : R2 < R
            · rw [if_pos hlo] at hg2
              have HG3 := Lib.hid hg2
              clear hg2
              go_wp2
              go_ret2
              refine ⟨HO4.out.2, ?_⟩
              rw [← HG3.out]
              exact ⟨j2, rfl, H4⟩
            · rw [if_neg hlo] at hg2
              have HG3 := Lib.hid hg2
              have HH4 := Lib.hid H4
              clear hg2 H4
              go_wp2_with (at_builtin; refine Hid.out ?_)
              refine Lib.hid ?_
              have KB := (Keep.refl [] w4).alloc (.cells #[.int .i64 R, .int .i64 R2] 44)
              have hlt3 := HO4.out.2.size
              refine wpList_append_data rngRow_stab rngRow_one rfl _ _ 22 rfl Tryz.underlying22 hi2 hz0 hz1 hz2 rfl (by omega) (S := [b]) (base := w.heap.size) (v := .slice A acc.length C) (A := some ⟨w4.heap.size, 0, none⟩) (m := 1) (C := 1) (xs := acc) (ys := [⟨R, R2⟩]) rfl rfl
                (HO4.out.1.move rngRow_stab KB (by simp) (fun x hx => .inl hx)) (one_rng (Blk.new' _ _ 44 rfl) (fun hx => by rcases List.mem_append.1 hx with hx | hx; have := (HO4.out.1.base _ hx).2; omega; simp at hx; omega)) (by simp; omega) (by simp; omega) (by simp; omega) ?_
              intro A9 C9 w9 O9 K9 n9
              have H9 := (HH4.out.keep KB (by simp)).keep K9 (fun hx => by have := (HO4.out.1.base _ hx).1; omega)
              have KT := (HO4.out.2.then KB (by simp)).then K9 (fun x hx => .inr (by have := (HO4.out.1.base x hx).1; omega))
              have HFN := Lib.hid (⟨O9, H9, KT⟩ : _ ∧ _ ∧ _)
              clear O9 K9 n9 H9 KT KB
              go_wp2
              refine ⟨⟨n - 1, j2, acc ++ [⟨R, R2⟩], hj2, by omega, by simp; omega, HFN.out.2.1, HFN.out.1, HFN.out.2.2, HG3.out⟩, ?_⟩
              rw [HM.out, HFN.out.2.1.cell 1]
              simp [intOf]
              omega
    · rw [hq] at H1
      simp only [if_true] at H1
      have hk1 := isB_lt hq
      have HG2 := Lib.hid ((itemsR_end (by omega) hq).symm.trans HG.out)
      have HN := Lib.hid (norm_any [] A acc.length C acc w1 (O1.read rngRow_stab (by simp) (by simp)) (by omega))
      have HH1 := Lib.hid H1
      clear hq HG O1 H1
      go_wp2_with fail
      refine HN.out.mono ?_
      rintro en w2 ⟨v2, rfl, O2, K3⟩
      obtain ⟨A2, C2, rfl⟩ := O2.slice
      have H2 := HH1.out.keep K3 (by simp)
      have HFN := Lib.hid (⟨O2.lower K2.size, H2, K2.trans (K3.mono (by simp))⟩ : _ ∧ _ ∧ _)
      clear O2 H2 K3 K2 HN
      go_wp2
      go_ret2
      refine ⟨HFN.out.2.2, ?_⟩
      rw [← HG2.out]
      exact ⟨_, rfl, HFN.out.1, HFN.out.2.1, hk1⟩
end Go.Proofs.YtmfjddhckblbhaaGreatDoor
namespace Go.Proofs.YtmfjddhckblbhaaGreatDoor
open Go Go.RowKit Go.MapKept
attribute [local go_sem] Oper.semAt_some

theorem bordF_len (l : List Rng) : (bordF l).length ≤ 2 * l.length + 2 := by
  refine Nat.le_trans (compI_sub _).1 ?_
  have h : (sortI (pts l)).length = (pts l).length := by unfold sortI; simp
  rw [h]
  clear h
  have h2 : (l.flatMap fun r => [loB r, hiB r]).length = 2 * l.length := by
    induction l with
    | nil => rfl
    | cons a l ih => simp only [List.flatMap_cons, List.length_append, List.length_cons, List.length_nil]; rw [ih]; omega
  simp only [pts, List.length_append, List.length_cons, List.length_nil, h2]
  omega
theorem normR_len (l : List Rng) : (normR l).length ≤ 2 * l.length + 1 := by
  have h1 := pickF_len (fun n => hasR l n) (bordF l) ((bordF l).length - 1)
  have h2 := bordF_len l
  unfold normR
  omega
theorem twoR_len (f : Bool → Bool → Bool) (a b : List Rng) : (twoR f a b).length ≤ 2 * (a.length + b.length) + 1 := by
  rw [twoR_eq]
  have h1 := pickF_len (fun n => f (hasR a n) (hasR b n)) (bordF (a ++ b)) ((bordF (a ++ b)).length - 1)
  have h2 := bordF_len (a ++ b)
  rw [List.length_append] at h2
  omega
/-- What is of the first alone. -/
def lessF (a b : List Rng) : List Rng := twoR (fun x y => x && !y) a b
theorem itemsR_ahead {one : Nat → Option (Nat × Nat)} {s : ByteArray} {e : Int} (ha : ∀ i lo j, one i = some (lo, j) → i < j) : ∀ (n i : Nat) (acc l : List Rng) (j : Nat), itemsR one s e n i acc = some (l, j) → i < j ∧ j ≤ s.size ∧ l.length + i + 1 ≤ acc.length + j
  | 0, _, _, _, _, h => by cases h
  | n + 1, i, acc, l, j, h => by
    rw [itemsR] at h
    split at h
    · rename_i h1
      simp only [Option.some.injEq, Prod.mk.injEq] at h
      obtain ⟨rfl, rfl⟩ := h
      have := isB_lt h1
      omega
    · split at h
      · cases h
      · rename_i lo j1 h1
        have a1 := ha _ _ _ h1
        split at h
        · split at h
          · cases h
          · rename_i hi j2 h2
            have a2 := ha _ _ _ h2
            split at h
            · cases h
            · have := itemsR_ahead ha n _ _ _ _ h
              simp at this
              omega
        · have := itemsR_ahead ha n _ _ _ _ h
          simp at this
          omega
theorem hxR_ahead (s : ByteArray) (i lo j : Nat) (h : hxR s i = some (lo, j)) : i < j := by
  unfold hxR at h
  split at h
  · simp only [Option.some.injEq, Prod.mk.injEq] at h; omega
  · cases h
theorem scR_ahead (s : ByteArray) (i lo j : Nat) (h : scR s i = some (lo, j)) : i < j := by
  unfold scR at h
  split at h
  · split at h
    · split at h
      · simp only [Option.some.injEq, Prod.mk.injEq] at h; omega
      · cases h
    · cases h
  · split at h
    · rename_i h1
      simp only [Option.some.injEq, Prod.mk.injEq] at h
      have := (nextU_spec (s.data.toList.drop i)).2.2.2 (by omega)
      omega
    · cases h
/-- A set of bytes that begins at i. -/
def byR (s : ByteArray) (i : Nat) : WayR := match itemsR (hxR s) s 62 (s.size + 1) (i + 1) [] with
  | some (l, j) => some (3, { data := #[] }, normR l, j)
  | none => none
/-- A set of scalars that begins at i. -/
def clR (s : ByteArray) (i : Nat) : WayR := match itemsR (scR s) s 93 (s.size + 1) (if isB s (i + 1) 94 = true then i + 2 else i + 1) [] with
  | some (l, j) => some (2, { data := #[] }, lessF (if isB s (i + 1) 94 = true then lessF [⟨0, 1114111⟩] (normR l) else normR l) [⟨55296, 57343⟩], j)
  | none => none
theorem byR_ahead (s : ByteArray) : Ahead byR s := by
  intro i k t r j h
  unfold byR at h
  split at h
  · rename_i l j1 h1
    have := itemsR_ahead (hxR_ahead s) _ _ _ _ _ h1
    simp only [Option.some.injEq, Prod.mk.injEq] at h
    omega
  · cases h
theorem clR_ahead (s : ByteArray) : Ahead clR s := by
  intro i k t r j h
  unfold clR at h
  split at h
  · rename_i l j1 h1
    have := itemsR_ahead (scR_ahead s) _ _ _ _ _ h1
    simp only [Option.some.injEq, Prod.mk.injEq] at h
    have e : (if isB s (i + 1) 94 = true then i + 2 else i + 1) ≥ i + 1 := by split <;> omega
    omega
  · cases h
theorem hex_enter (args : Array Value) (w : World) : (callFunc 66 args).run Tryz.prog w = .ok (.enter 66 args) w := by kernel_rfl
theorem scalar_enter (args : Array Value) (w : World) : (callFunc 68 args).run Tryz.prog w = .ok (.enter 68 args) w := by kernel_rfl

theorem not_any (A : Option Addr) (n C : Nat) (l : List Rng) (w : World) (H : SlOf RngRow [] w 2 (.slice A n C) l) (hl : l.length ≤ 90000) :
    Calls Tryz.prog 22 #[.slice A n C, .int .i64 1114111] w fun e w' => ∃ v, e = .returned v ∧ OwnL RngRow [] w' w.heap.size 44 2 v (lessF [⟨0, 1114111⟩] l) ∧ Keep [] w w' := by
  have K1 := (Keep.refl [] w).alloc (.cells #[.int .i64 0, .int .i64 1114111] 44)
  have HL := Lib.hid (less_any (some ⟨w.heap.size, 0, none⟩) A 1 1 n C [⟨0, 1114111⟩] l _ (one_rng (r := ⟨0, 1114111⟩) (Blk.new' w #[.int .i64 0, .int .i64 1114111] 44 (b := w.heap.size) rfl) (by simp)) (SlOf.move H rngRow_stab (by omega) K1 (by simp) (fun x hx => .inl hx)) (by simp; omega))
  have HK := Lib.hid K1
  clear K1 H
  unfold lessF
  generalize twoR (fun x y => x && !y) [⟨0, 1114111⟩] l = R at HL ⊢
  go_enter Tryz.func22, Tryz.ntmps22
  go_wp2_with fail
  refine HL.out.mono ?_
  rintro e w6 ⟨v6, rfl, O6, K6⟩
  obtain ⟨A6, C6, rfl⟩ := O6.slice
  have HF := Lib.hid (⟨O6.lower HK.out.size, HK.out.trans K6⟩ : _ ∧ _)
  clear O6 K6 HL HK
  go_wp2
  go_ret
  exact ⟨_, rfl, HF.out.1, HF.out.2⟩
/-- A slice of ranges of the call's own is read beside what was there, behind the four stores of a token. -/
theorem rngs_own {w1 : World} {base tb : Nat} {v : Value} {l : List Rng} (O : OwnL RngRow [] w1 base 44 2 v l) (htb : tb < base) (x0 x1 x2 x3 : Value) : ∀ S : List Nat, (∀ x ∈ S, x < tb) → Rngs S (set4 w1 tb x0 x1 x2 x3) v l := fun S hS => by
  have O2 : OwnL RngRow (tb :: S) w1 base 44 2 v l := O
  have h := O2.read (S' := tb :: S) rngRow_stab (fun b hb => .inl hb) (fun b hb hb' => by
    have := (O.base b hb).1
    rcases List.mem_cons.1 hb' with rfl | h
    · omega
    · have := hS b h; omega)
  exact Rngs.back (SlOf.move h rngRow_stab (by omega) ((Keep.refl [tb] w1).set4 (by simp) x0 x1 x2 x3) (fun x hx => .inl (by simp at hx; simp [hx])) (fun x hx => .inl (List.mem_cons_of_mem _ hx)))

set_option maxRecDepth 20000 in
set_option maxHeartbeats 2000000 in
theorem bytes_any (b : Nat) (s : ByteArray) (i : Nat) (w : World) (H : Scan w b s i) (hm : s.size ≤ 4096) (hi : i < s.size) :
    Calls Tryz.prog 39 #[.pointer (some ⟨b, 0, none⟩)] w (WayPost b s w (byR s i)) := by
  have hlt := H.lt
  have h0 : w.cell? ⟨b, 0, none⟩ = some (.string s) := H.cell 0
  have h1 : w.cell? ⟨b, 1, none⟩ = some (.int .i64 i) := H.cell 1
  have f1 : w.frozen? ⟨b, 1, none⟩ = false := H.frozen 1
  have HB : Scan ((w.setCell ⟨b, 1, none⟩ (.int .i64 (↑i + 1))).alloc (.cells #[.int .i64 0, .string { data := #[] }, .slice none 0 0, .int .i64 0] 24)) b s (i + 1) := (H.move (i + 1) (by omega)).alloc _
  have B1 := Blk.new (w.setCell ⟨b, 1, none⟩ (.int .i64 (↑i + 1))) #[.int .i64 0, .string { data := #[] }, .slice none 0 0, .int .i64 0] 24
  have hsz : (w.setCell ⟨b, 1, none⟩ (.int .i64 (↑i + 1))).heap.size = w.heap.size := by simp [World.setCell]
  rw [hsz] at B1
  have K0 : Keep [b] w ((w.setCell ⟨b, 1, none⟩ (.int .i64 (↑i + 1))).alloc (.cells #[.int .i64 0, .string { data := #[] }, .slice none 0 0, .int .i64 0] 24)) := ((Keep.refl _ _).setCell (by simp) _).alloc _
  obtain ⟨goal, hg⟩ : ∃ g, itemsR (hxR s) s 62 (s.size + 1) (i + 1) [] = g := ⟨_, rfl⟩
  have HI := Lib.hid (items_any 66 (hxR s) b s hm hex_enter (fun i w H hi => hexOne_any b s i w H hm hi) (hxR_ahead s) 62 (i + 1) _ HB (by omega) goal hg)
  unfold byR
  rw [hg]
  have HC := Lib.hid (⟨B1, K0⟩ : _ ∧ _)
  clear hg HB B1 K0 H
  go_enter Tryz.func39, Tryz.ntmps39
  go_wp2_with fail
  refine HI.out.mono ?_
  rintro e w1 ⟨K1, hres⟩
  obtain ⟨B1, K0⟩ := HC.out
  have B2 := B1.keep K1 (by simp; omega)
  have K2 := K0.trans K1
  have cB := B2.cell
  have fB := B2.frozen
  have HK2 := Lib.hid K2
  have HB2 := Lib.hid B2
  have hkz := K0.size
  clear B1 K0 K1 HC HI B2 K2 h0 h1 f1
  cases goal with
  | none =>
    obtain ⟨j, rfl, H2⟩ := hres
    go_wp2
    refine bodyPost_ret (v := .tuple #[tokV 3 { data := #[] } noSl 0, .bool false]) (by simp [results, Tryz.results39, go_sem, tokV, noSl, cB]) rfl ⟨HK2.out.set4 (b := w.heap.size) (by simp) (.int .i64 3) (.string { data := #[] }) (.slice none 0 0) (.int .i64 0), ?_⟩
    exact ⟨3, _, none, 0, 0, _, rfl, Blk.other4 H2 (show b ≠ w.heap.size by omega) (.int .i64 3) (.string { data := #[] }) (.slice none 0 0) (.int .i64 0)⟩
  | some p =>
    obtain ⟨l, j⟩ := p
    obtain ⟨v, rfl, O2, H2, hj⟩ := hres
    obtain ⟨A2, C2, rfl⟩ := O2.slice
    have HO := Lib.hid O2
    clear O2
    generalize hR : normR l = R at HO ⊢
    have HR := Lib.hid hR
    clear hR
    go_wp2
    refine bodyPost_ret (v := .tuple #[tokV 3 { data := #[] } (.slice A2 R.length C2) 0, .bool true]) (by simp [results, Tryz.results39, go_sem, tokV, noSl, cB]) rfl ⟨HK2.out.set4 (b := w.heap.size) (by simp) (.int .i64 3) (.string { data := #[] }) (.slice A2 R.length C2) (.int .i64 0), ?_⟩
    refine ⟨.slice A2 R.length C2, rfl, ?_, Blk.other4 H2 (show b ≠ w.heap.size by omega) (.int .i64 3) (.string { data := #[] }) (.slice A2 R.length C2) (.int .i64 0)⟩
    rw [HR.out]
    exact rngs_own HO.out (by simp [World.setCell]) (.int .i64 3) (.string { data := #[] }) (.slice A2 R.length C2) (.int .i64 0)

set_option maxRecDepth 20000 in
set_option maxHeartbeats 4000000 in
theorem class_any (b : Nat) (s : ByteArray) (i : Nat) (w : World) (H : Scan w b s i) (hm : s.size ≤ 4096) (hi : i < s.size) :
    Calls Tryz.prog 38 #[.pointer (some ⟨b, 0, none⟩)] w (WayPost b s w (clR s i)) := by
  have hlt := H.lt
  have h0 : w.cell? ⟨b, 0, none⟩ = some (.string s) := H.cell 0
  have h1 : w.cell? ⟨b, 1, none⟩ = some (.int .i64 i) := H.cell 1
  have f1 : w.frozen? ⟨b, 1, none⟩ = false := H.frozen 1
  have HB : Scan ((w.setCell ⟨b, 1, none⟩ (.int .i64 (↑i + 1))).alloc (.cells #[.int .i64 0, .string { data := #[] }, .slice none 0 0, .int .i64 0] 24)) b s (i + 1) := (H.move (i + 1) (by omega)).alloc _
  have B1 := Blk.new (w.setCell ⟨b, 1, none⟩ (.int .i64 (↑i + 1))) #[.int .i64 0, .string { data := #[] }, .slice none 0 0, .int .i64 0] 24
  have hsz : (w.setCell ⟨b, 1, none⟩ (.int .i64 (↑i + 1))).heap.size = w.heap.size := by simp [World.setCell]
  rw [hsz] at B1
  have K0 : Keep [b] w ((w.setCell ⟨b, 1, none⟩ (.int .i64 (↑i + 1))).alloc (.cells #[.int .i64 0, .string { data := #[] }, .slice none 0 0, .int .i64 0] 24)) := ((Keep.refl _ _).setCell (by simp) _).alloc _
  have HIS := Lib.hid (is_any b s (i + 1) 94 _ HB hm)
  have hz0 : w.heap.size + 1 = ((w.setCell ⟨b, 1, none⟩ (.int .i64 (↑i + 1))).alloc (.cells #[.int .i64 0, .string { data := #[] }, .slice none 0 0, .int .i64 0] 24)).heap.size := by simp [World.setCell]
  have HC := Lib.hid (⟨B1, K0, hz0⟩ : _ ∧ _ ∧ _)
  obtain ⟨res, hres⟩ : ∃ r, r = clR s i := ⟨_, rfl⟩
  rw [← hres]
  unfold clR at hres
  have HRES := Lib.hid hres
  clear HB B1 K0 H hz0 hres
  go_enter Tryz.func38, Tryz.ntmps38
  go_wp2_with fail
  refine HIS.out.mono ?_
  rintro e w1 ⟨rfl, H1, K1⟩
  obtain ⟨B1, K0, hz0⟩ := HC.out
  have HC1 := Lib.hid (⟨B1.keep K1 (by simp; omega), K0.trans K1, Nat.le_trans (Nat.le_of_eq hz0) K1.size⟩ : _ ∧ _ ∧ _)
  clear B1 K0 K1 hz0 HC HIS h0 h1 f1
  have hj1 : (if isB s (i + 1) 94 = true then i + 2 else i + 1) ≤ s.size := by
    split
    · rename_i h; have := isB_lt h; omega
    · omega
  obtain ⟨goal, hg⟩ : ∃ g, itemsR (scR s) s 93 (s.size + 1) (if isB s (i + 1) 94 = true then i + 2 else i + 1) [] = g := ⟨_, rfl⟩
  have HI := Lib.hid (items_any 68 (scR s) b s hm scalar_enter (fun i w H hi => scalar_any b s i w H hm hi) (scR_ahead s) 93 _ w1 H1 hj1 goal hg)
  have hlen : Hid (∀ l j, goal = some (l, j) → l.length ≤ 4096) := Lib.hid (by
    intro l j h
    rw [h] at hg
    have := itemsR_ahead (scR_ahead s) _ _ _ _ _ hg
    simp at this
    omega)
  have hrs := HRES.out
  rw [hg] at hrs
  have HRES := Lib.hid hrs
  clear hg H1 hrs
  generalize isB s (i + 1) 94 = nt at HRES ⊢
  go_wp2_with fail
  refine HI.out.mono ?_
  rintro e w2 ⟨K2, hres⟩
  have HC2 := Lib.hid (⟨HC1.out.1.keep K2 (by simp; omega), HC1.out.2.1.trans K2, HC1.out.2.2, Nat.le_trans HC1.out.2.2 K2.size⟩ : _ ∧ _ ∧ _ ∧ _)
  clear K2 HI HC1
  have hcom : ∃ (A2 : Option Addr) (C2 : Nat) (L : List Rng) (ok : Bool) (j : Nat), e = .returned (.tuple #[.slice A2 L.length C2, .bool ok]) ∧ SlOf RngRow [] w2 2 (.slice A2 L.length C2) L ∧ L.length ≤ 8193 ∧ Scan w2 b s j ∧
      (ok = true → res = some (2, { data := #[] }, lessF (if nt = true then lessF [⟨0, 1114111⟩] L else L) [⟨55296, 57343⟩], j)) ∧ (ok = false → res = none) := by
    cases goal with
    | none =>
      obtain ⟨j, rfl, H2⟩ := hres
      exact ⟨none, 0, [], false, j, rfl, SlOf.nil _ _ _, by simp, H2, by simp, fun _ => HRES.out⟩
    | some p =>
      obtain ⟨l, j⟩ := p
      obtain ⟨v, rfl, O2, H2, hj⟩ := hres
      have hl := hlen.out l j rfl
      have hn := normR_len l
      obtain ⟨A2, C2, rfl⟩ := O2.slice
      exact ⟨A2, C2, normR l, true, j, rfl, O2.read rngRow_stab (by simp) (by simp), by omega, H2, fun _ => HRES.out, by simp⟩
  clear hres HRES hlen
  obtain ⟨A2, C2, L, ok, j, rfl, HL, hL, H2, hR, hRN⟩ := hcom
  have HR := Lib.hid hR
  have HRN := Lib.hid hRN
  clear hR hRN
  cases nt
  · have BB0 := HC2.out.1
    have KA := (Keep.refl [] w2).alloc (.cells #[.int .i64 55296, .int .i64 57343] 44)
    have HLS := Lib.hid (less_any A2 (some ⟨w2.heap.size, 0, none⟩) L.length C2 1 1 L [⟨55296, 57343⟩] _ (SlOf.move HL rngRow_stab (by omega) KA (by simp) (fun x hx => .inl hx)) (one_rng (r := ⟨55296, 57343⟩) (Blk.new' w2 #[.int .i64 55296, .int .i64 57343] 44 (b := w2.heap.size) rfl) (by simp)) (by simp; omega))
    have BB := BB0.keep KA (by simp)
    have KK := HC2.out.2.1.trans (KA.mono (by simp))
    have HH := H2.keep KA (by simp)
    have HBS := Lib.hid (show w.heap.size < (w2.alloc (.cells #[.int .i64 55296, .int .i64 57343] 44)).heap.size by have := HC2.out.2.2.2; simp; omega)
    generalize hR : twoR (fun x y => x && !y) L [⟨55296, 57343⟩] = R at HLS
    have hR : lessF (if false = true then lessF [⟨0, 1114111⟩] L else L) [⟨55296, 57343⟩] = R := hR
    clear HL BB0 KA HC2 H2
    go_wp2_with fail
    refine HLS.out.mono ?_
    rintro e w4 ⟨v6, rfl, O6, K6⟩
    obtain ⟨A6, C6, rfl⟩ := O6.slice
    have HO6 := Lib.hid O6
    have B4 := BB.keep K6 (by simp)
    have cB := B4.cell
    have fB := B4.frozen
    have K4 := Lib.hid (KK.trans (K6.mono (by simp)))
    have H4 := Lib.hid (HH.keep K6 (by simp))
    clear O6 K6 HLS BB KK HH B4
    have hR2 := HR.out
    rw [hR] at hR2
    have HR2 := Lib.hid hR2
    clear hR2 hR HR
    go_wp2
    refine bodyPost_ret (v := .tuple #[tokV 2 { data := #[] } (.slice A6 R.length C6) 0, .bool ok]) (by simp [results, Tryz.results38, go_sem, tokV, noSl, cB]) rfl ⟨K4.out.set4 (b := w.heap.size) (by simp) (.int .i64 2) (.string { data := #[] }) (.slice A6 R.length C6) (.int .i64 0), ?_⟩
    have hs4 := Blk.other4 H4.out (show b ≠ w.heap.size by omega) (.int .i64 2) (.string { data := #[] }) (.slice A6 R.length C6) (.int .i64 0)
    cases ok
    · rw [HRN.out rfl]
      exact ⟨2, _, A6, _, C6, _, rfl, hs4⟩
    · rw [HR2.out rfl]
      exact ⟨_, rfl, rngs_own HO6.out (by have := HBS.out; omega) (.int .i64 2) (.string { data := #[] }) (.slice A6 R.length C6) (.int .i64 0), hs4⟩
  · have HNT := Lib.hid (not_any A2 L.length C2 L w2 HL (by omega))
    clear HL
    go_wp2_with fail
    refine HNT.out.mono ?_
    rintro e w3 ⟨v3, rfl, O3, K3⟩
    obtain ⟨A3, C3, rfl⟩ := O3.slice
    have hL3 : (lessF [⟨0, 1114111⟩] L).length ≤ 16389 := by
      have := twoR_len (fun x y => x && !y) [⟨0, 1114111⟩] L
      simp only [List.length_cons, List.length_nil] at this
      unfold lessF
      omega
    have HL3 : SlOf RngRow [] w3 2 (.slice A3 (lessF [⟨0, 1114111⟩] L).length C3) (lessF [⟨0, 1114111⟩] L) := O3.read rngRow_stab (by simp) (by simp)
    generalize hM : lessF [⟨0, 1114111⟩] L = M at HL3 hL3 ⊢
    have BB0 := HC2.out.1.keep K3 (by simp)
    have KA := (Keep.refl [] w3).alloc (.cells #[.int .i64 55296, .int .i64 57343] 44)
    have HLS := Lib.hid (less_any A3 (some ⟨w3.heap.size, 0, none⟩) M.length C3 1 1 M [⟨55296, 57343⟩] _ (SlOf.move HL3 rngRow_stab (by omega) KA (by simp) (fun x hx => .inl hx)) (one_rng (r := ⟨55296, 57343⟩) (Blk.new' w3 #[.int .i64 55296, .int .i64 57343] 44 (b := w3.heap.size) rfl) (by simp)) (by simp; omega))
    have BB := BB0.keep KA (by simp)
    have KK := (HC2.out.2.1.trans (K3.mono (by simp))).trans (KA.mono (by simp))
    have HH := (H2.keep K3 (by simp)).keep KA (by simp)
    have HBS := Lib.hid (show w.heap.size < (w3.alloc (.cells #[.int .i64 55296, .int .i64 57343] 44)).heap.size by have := HC2.out.2.2.2; have := K3.size; simp; omega)
    generalize hR : twoR (fun x y => x && !y) M [⟨55296, 57343⟩] = R at HLS
    have hR : lessF (if true = true then lessF [⟨0, 1114111⟩] L else L) [⟨55296, 57343⟩] = R := by rw [if_pos rfl, hM]; exact hR
    clear HL3 BB0 KA HC2 H2 O3 K3 hM HNT
    go_wp2_with fail
    refine HLS.out.mono ?_
    rintro e w4 ⟨v6, rfl, O6, K6⟩
    obtain ⟨A6, C6, rfl⟩ := O6.slice
    have HO6 := Lib.hid O6
    have B4 := BB.keep K6 (by simp)
    have cB := B4.cell
    have fB := B4.frozen
    have K4 := Lib.hid (KK.trans (K6.mono (by simp)))
    have H4 := Lib.hid (HH.keep K6 (by simp))
    clear O6 K6 HLS BB KK HH B4
    have hR2 := HR.out
    rw [hR] at hR2
    have HR2 := Lib.hid hR2
    clear hR2 hR HR
    go_wp2
    refine bodyPost_ret (v := .tuple #[tokV 2 { data := #[] } (.slice A6 R.length C6) 0, .bool ok]) (by simp [results, Tryz.results38, go_sem, tokV, noSl, cB]) rfl ⟨K4.out.set4 (b := w.heap.size) (by simp) (.int .i64 2) (.string { data := #[] }) (.slice A6 R.length C6) (.int .i64 0), ?_⟩
    have hs4 := Blk.other4 H4.out (show b ≠ w.heap.size by omega) (.int .i64 2) (.string { data := #[] }) (.slice A6 R.length C6) (.int .i64 0)
    cases ok
    · rw [HRN.out rfl]
      exact ⟨2, _, A6, _, C6, _, rfl, hs4⟩
    · rw [HR2.out rfl]
      exact ⟨_, rfl, rngs_own HO6.out (by have := HBS.out; omega) (.int .i64 2) (.string { data := #[] }) (.slice A6 R.length C6) (.int .i64 0), hs4⟩
end Go.Proofs.YtmfjddhckblbhaaGreatDoor
namespace Go.Proofs.YtmfjddhckblbhaaGreatDoor
open Go Go.RowKit Go.MapKept
attribute [local go_sem] Oper.semAt_some

set_option maxRecDepth 20000 in
set_option maxHeartbeats 2000000 in
theorem equal_any (S T : List Nat) (A B : Option Addr) (n C m D : Nat) (a b : List Rng) (w : World) (H : SlOf RngRow S w 2 (.slice A n C) a) (G : SlOf RngRow T w 2 (.slice B m D) b) :
    Calls Tryz.prog 33 #[.slice A n C, .slice B m D] w fun e w' => e = .returned (.bool (decide (a = b))) ∧ Keep [] w w' := by
  obtain ⟨rfl, hm, _⟩ := SlOf.len H
  obtain ⟨rfl, hm2, _⟩ := SlOf.len G
  by_cases hl : a.length = b.length
  · have hl2 : ((a.length : Int) != (b.length : Int)) = false := by rw [hl]; simp
    have HL := Lib.hid hl
    have HH := Lib.hid (⟨H, G⟩ : _ ∧ _)
    clear H G hl
    go_enter Tryz.func33, Tryz.ntmps33
    go_wp2
    go_loopw [4, 5, 13] (fun _ _ i wr => ∃ k : Nat, k ≤ a.length ∧ i = .int .i64 k ∧ Hid (a.take k = b.take k) ∧ Keep [] w wr) (fun _ _ i _ => a.length - (intOf i).toNat)
    case atStart => exact ⟨0, by omega, rfl, Lib.hid rfl, Keep.refl _ _⟩
    case round =>
      obtain ⟨k, hk, rfl, hn, Kr⟩ := hrel
      by_cases hlt : k < a.length
      · have hlt' : (k : Int) < (a.length : Int) := by omega
        have hltb : k < b.length := by have := HL.out; omega
        have hlt2' : (k : Int) < (b.length : Int) := by omega
        have HLT := Lib.hid (⟨hlt, hltb⟩ : _ ∧ _)
        obtain ⟨ba, oa, rfl, _, e0, e1⟩ := rngSl_pick (SlOf.move HH.out.1 rngRow_stab (by omega) Kr (by simp) (fun x hx => .inl hx)) k hlt
        obtain ⟨bb, ob, rfl, _, d0, d1⟩ := rngSl_pick (SlOf.move HH.out.2 rngRow_stab (by omega) Kr (by simp) (fun x hx => .inl hx)) k hltb
        have hxa : a[k] = ⟨a[k].lo, a[k].hi⟩ := rfl
        by_cases hq : a[k] = b[k]
        · have hn2 : Hid (a.take (k + 1) = b.take (k + 1)) := Lib.hid (by
            rw [List.take_succ_eq_append_getElem HLT.out.1, List.take_succ_eq_append_getElem HLT.out.2, hn.out, hq])
          rw [hq] at e0 e1
          generalize b[k].lo = lo at e0 d0
          generalize b[k].hi = hi at e1 d1
          clear hq hxa hn hlt hltb
          go_wp2
          go_quiet (fail)
          go_wp2
          exact ⟨⟨k + 1, by have := HLT.out.1; omega, by go_num, hn2, Kr.drewN _⟩, by simp [intOf]; have := HLT.out.1; omega⟩
        · have hne : ¬ a = b := fun h => hq (by subst h; rfl)
          have HNE := Lib.hid hne
          have hq' : ¬ (a[k].lo = b[k].lo ∧ a[k].hi = b[k].hi) := fun h => hq (by
            cases ha : a[k]; cases hb : b[k]; rw [ha, hb] at h; simp only at h; rw [h.1, h.2])
          generalize a[k].lo = lo at e0 hq'
          generalize a[k].hi = hi at e1 hq'
          generalize b[k].lo = lo2 at d0 hq'
          generalize b[k].hi = hi2 at d1 hq'
          clear hq hxa hn hne hlt hltb
          by_cases h1 : lo = lo2
          · have h2 : ¬ hi = hi2 := fun h => hq' ⟨h1, h⟩
            subst h1
            clear hq'
            go_wp2
            go_quiet (fail)
            go_wp2
            go_ret
            exact ⟨by simp [HNE.out], Kr.drewN _⟩
          · clear hq'
            go_wp2
            go_quiet (fail)
            go_wp2
            go_ret
            exact ⟨by simp [HNE.out], Kr.drewN _⟩
      · obtain rfl : k = a.length := by omega
        have he : a = b := by
          have h := hn.out
          rw [List.take_length, HL.out, List.take_length] at h
          exact h
        have HE := Lib.hid he
        clear he hn
        go_wp2
        go_ret
        exact ⟨by simp [HE.out], Kr⟩
  · have hl2 : ((a.length : Int) != (b.length : Int)) = true := by simp; omega
    have HNE := Lib.hid (show ¬ a = b from fun h => hl (by rw [h]))
    clear H G
    go_enter Tryz.func33, Tryz.ntmps33
    go_wp2
    go_ret
    exact ⟨by simp [HNE.out], Keep.refl _ _⟩
theorem strBeq (x y : ByteArray) : (x.toList == y.toList) = decide (x = y) := by
  rw [ByteArray.toList_eq, ByteArray.toList_eq]
  by_cases h : x = y
  · subst h; simp
  · have h2 : x.data.toList ≠ y.data.toList := fun h2 => h (by
      cases x; cases y
      simp only at h2
      rw [Array.toList_inj.1 h2])
    rw [decide_eq_false h]
    exact beq_eq_false_iff_ne.2 h2
/-- Are two the same, but for where they begin? -/
def sameT (x y : TokS) : Bool := decide (x.k = y.k) && decide (x.t = y.t) && decide (x.r = y.r)
def TokS.val (x : TokS) (v : Value) : Value := .agg #[.int .i64 x.k, .string x.t, v, .int .i64 x.a]
set_option maxRecDepth 20000 in
set_option maxHeartbeats 2000000 in
theorem same_any (S T : List Nat) (x y : TokS) (v u : Value) (w : World) (H : Rngs S w v x.r) (G : Rngs T w u y.r) :
    Calls Tryz.prog 18 #[.agg #[.int .i64 x.k, .string x.t, v, .int .i64 x.a], .agg #[.int .i64 y.k, .string y.t, u, .int .i64 y.a]] w fun e w' => e = .returned (.bool (sameT x y)) ∧ Keep [] w w' := by
  obtain ⟨xk, xt, xr, xa⟩ := x
  obtain ⟨yk, yt, yr, ya⟩ := y
  simp only at H G ⊢
  obtain ⟨A, C, rfl, _⟩ := SlOf.at (Rngs.of H)
  obtain ⟨B, D, rfl, _⟩ := SlOf.at (Rngs.of G)
  have K1 := ((Keep.refl [] w).alloc (.cells #[.int .i64 xk, .string xt, .slice A xr.length C, .int .i64 xa] 24)).alloc (.cells #[.int .i64 yk, .string yt, .slice B yr.length D, .int .i64 ya] 24)
  have HE := Lib.hid (equal_any S T A B xr.length C yr.length D xr yr _ (Rngs.of (Rngs.mv0 H K1)) (Rngs.of (Rngs.mv0 G K1)))
  have HK := Lib.hid K1
  have HG := Lib.hid (show sameT ⟨xk, xt, xr, xa⟩ ⟨yk, yt, yr, ya⟩ = (decide (xk = yk) && decide (xt = yt) && decide (xr = yr)) from rfl)
  generalize sameT ⟨xk, xt, xr, xa⟩ ⟨yk, yt, yr, ya⟩ = goal at HG ⊢
  generalize decide (xr = yr) = q at HE HG
  generalize xr.length = n at HE HK ⊢
  generalize yr.length = m at HE HK ⊢
  clear H G K1
  go_enter Tryz.func18, Tryz.ntmps18
  by_cases h1 : xk = yk
  · by_cases h2 : xt = yt
    · have HF := Lib.hid (show goal = q by rw [HG.out, h1, h2]; simp)
      subst h1 h2
      clear HG
      go_wp2_with fail
      refine HE.out.mono ?_
      rintro e w1 ⟨rfl, K2⟩
      clear HE
      go_wp2
      go_ret
      exact ⟨by rw [HF.out]; rfl, HK.out.trans K2⟩
    · have HF := Lib.hid (show goal = false by rw [HG.out]; simp [h2])
      have hb : (xt.toList == yt.toList) = false := by rw [strBeq]; simpa using h2
      subst h1
      clear HG HE
      go_wp2
      go_ret
      exact ⟨by rw [HF.out]; rfl, HK.out⟩
  · have HF := Lib.hid (show goal = false by rw [HG.out]; simp [h1])
    clear HG HE
    go_wp2
    go_ret
    exact ⟨by rw [HF.out]; rfl, HK.out⟩
end Go.Proofs.YtmfjddhckblbhaaGreatDoor
namespace Go.Proofs.YtmfjddhckblbhaaGreatDoor
open Go Go.RowKit Go.MapKept
attribute [local go_sem] Oper.semAt_some

/-- The table by which a base's shift is found lies where it lay. -/
def Tab (w : World) : Prop := w.cell? ⟨5, 15, none⟩ = some (.int .u8 4)
theorem tz64_any (w : World) (HT : Tab w) : Calls Tryz.prog 143 #[.int .u64 16] w fun e w' => e = .returned (.int .i64 4) ∧ w' = w := by
  unfold Tab at HT
  have h1 : IntKind.u64.wrap (-16) = 18446744073709551600 := by decide +kernel
  have h2 : bits .and .u64 16 18446744073709551600 = 16 := by decide +kernel
  have h3 : IntKind.u64.wrap 4573923408821661840 = 4573923408821661840 := by decide +kernel
  have h4 : IntKind.u64.wrap (16 * 285870213051353865) = 4573923408821661840 := by decide +kernel
  go_enter Tryz.func143, Tryz.ntmps143
  go_wp2
  go_ret
  exact ⟨rfl, rfl⟩
theorem tz_any (w : World) (HT : Tab w) : Calls Tryz.prog 130 #[.int .u64 16] w fun e w' => e = .returned (.int .i64 4) ∧ w' = w := by
  go_enter Tryz.func130, Tryz.ntmps130
  go_wp2_with fail
  refine (tz64_any w HT).mono ?_
  rintro e w1 ⟨rfl, rfl⟩
  go_wp2
  go_ret
  exact ⟨rfl, rfl⟩
theorem pow2_any (w : World) : Calls Tryz.prog 129 #[.int .i64 16] w fun e w' => e = .returned (.bool true) ∧ w' = w := by
  have h2 : bits .and .i64 16 15 = 0 := by decide +kernel
  go_enter Tryz.func129, Tryz.ntmps129
  go_wp2
  go_ret
  exact ⟨rfl, rfl⟩
/-- A digit by sixteen. -/
def hexD (n : Nat) : UInt8 := digs.data.toList.getD (n % 16) 0
/-- How many digits a number has by sixteen (six at most). -/
def hexM (n : Nat) : Nat := if n < 16 then 1 else if n < 256 then 2 else if n < 4096 then 3 else if n < 65536 then 4 else if n < 1048576 then 5 else 6
def hexL (n : Nat) : List UInt8 := (List.range (hexM n)).reverse.map fun j => hexD (n / 16 ^ j)
def d36 : ByteArray := { data := #[48, 49, 50, 51, 52, 53, 54, 55, 56, 57, 97, 98, 99, 100, 101, 102, 103, 104, 105, 106, 107, 108, 109, 110, 111, 112, 113, 114, 115, 116, 117, 118, 119, 120, 121, 122] }
theorem d36_at (m : Nat) (hm : m < 16) (w : World) : (Instr.index 9 (.string d36) (.int .u64 (m : Int))).run Tryz.prog w = .ok (.int .u8 ((hexD m).toNat : Int)) w := by
  have h : ∀ n : Fin 16, d36.data.toList.getD n.val 0 = hexD n.val := by decide +kernel
  have hs : d36.size = 36 := by decide
  rw [run_index_string _ _ _ _ _ Tryz.underlying9]
  rw [dif_pos ⟨by omega, by omega⟩]
  have h2 := h ⟨m, hm⟩
  simp only at h2
  rw [← h2]
  have h3 : m < d36.data.toList.length := by show m < 36; omega
  rw [List.getD_eq_getElem?_getD, List.getElem?_eq_getElem h3]
  simp only [Int.toNat_natCast, Option.getD_some]
  rfl
theorem hexD_mod (n : Nat) : hexD (n % 16) = hexD n := by unfold hexD; rw [Nat.mod_mod]
theorem and15 (q : Nat) (h : q < 16777216) : bits .and .u64 (q : Int) 15 = ((q % 16 : Nat) : Int) := by
  have := bits_and_u64_nat q 15 (by omega) (by omega)
  rw [show ((15 : Nat) : Int) = 15 from rfl] at this
  rw [this]
  congr 1
  exact Nat.and_two_pow_sub_one_eq_mod q 4
theorem d36_get (m : Nat) (hm : m < 16) (h : m < d36.size) : (d36[m]'h).toNat = (hexD m).toNat := by
  have h1 : ∀ n : Fin 16, (d36.data.toList.getD n.val 0) = hexD n.val := by decide +kernel
  have h2 := h1 ⟨m, hm⟩
  simp only at h2
  rw [← h2]
  have h3 : m < d36.data.toList.length := h
  rw [List.getD_eq_getElem?_getD, List.getElem?_eq_getElem h3]
  rfl
theorem sl65 (ab p : Nat) (hp : p < 65) (w : World) : (Instr.sliceAt 160 (.pointer (some ⟨ab, 0, none⟩)) (some (.int .i64 (p : Int))) none none).run Tryz.prog w = .ok (.slice (some ⟨ab, p, none⟩) (65 - p) (65 - p)) w := by
  have ha : Tryz.prog.arrayLen 160 = 65 := by kernel_rfl
  have hs : ∀ w, (sizeOf (Tryz.prog.elem 160)).run Tryz.prog w = .ok 1 w := fun _ => by kernel_rfl
  have h65 : ¬ 65 = p := by omega
  rw [run_sliceAt_array_l w 160 ⟨ab, 0, none⟩ (by kernel_rfl) .i64 p (by omega) (by rw [ha]; omega)]
  rw [hs, ha]
  simp only [Result.andThen_ok, slicedAt, Int.toNat_natCast]
  rw [if_neg h65, Nat.mul_one, add_none, Nat.zero_add]
theorem hexM_eq (n k : Nat) (hk : k ≤ 5) (h1 : n / 16 ^ k < 16) (h2 : 0 < k → 16 ^ k ≤ n) : hexM n = k + 1 := by
  unfold hexM
  rcases (by omega : k = 0 ∨ k = 1 ∨ k = 2 ∨ k = 3 ∨ k = 4 ∨ k = 5) with rfl | rfl | rfl | rfl | rfl | rfl
  · rw [if_pos (by omega)]
  · have := h2 (by omega); rw [if_neg (by omega), if_pos (by omega)]
  · have := h2 (by omega); rw [if_neg (by omega), if_neg (by omega), if_pos (by omega)]
  · have := h2 (by omega); rw [if_neg (by omega), if_neg (by omega), if_neg (by omega), if_pos (by omega)]
  · have := h2 (by omega); rw [if_neg (by omega), if_neg (by omega), if_neg (by omega), if_neg (by omega), if_pos (by omega)]
  · have := h2 (by omega); rw [if_neg (by omega), if_neg (by omega), if_neg (by omega), if_neg (by omega), if_neg (by omega)]
set_option maxRecDepth 20000 in
set_option maxHeartbeats 2000000 in
theorem fmtBits_any (n : Nat) (hn : n < 16777216) (w : World) (HT : Tab w) (h5 : 5 < w.heap.size) :
    Calls Tryz.prog 118 #[.slice none 0 0, .int .u64 n, .int .i64 16, .bool false, .bool false] w fun e w' => e = .returned (.tuple #[.slice none 0 0, .string ⟨(hexL n).toArray⟩]) ∧ Keep [] w w' := by
  have hzs : (Tryz.zeroCells160).size = 65 := by kernel_rfl
  have B0 := Blk.new w Tryz.zeroCells160 160
  have K0 := (Keep.refl [] w).alloc (.cells Tryz.zeroCells160 160)
  have HT0 : Tab (w.alloc (.cells Tryz.zeroCells160 160)) := (World.cell?_of_block (w := w) (a := ⟨5, 15, none⟩) (K0.block 5 h5 (by simp))).trans HT
  have HST := Lib.hid (⟨B0, K0⟩ : _ ∧ _)
  clear B0
  go_enter Tryz.func118, Tryz.ntmps118
  go_wp2_with fail
  refine (pow2_any _).mono ?_
  rintro e w1 ⟨rfl, rfl⟩
  go_wp2_with fail
  refine (tz_any _ HT0).mono ?_
  rintro e w1 ⟨rfl, rfl⟩
  clear K0 HT0
  go_wp2
  go_loopw [1, 13] (fun u i wr => ∃ (k q p : Nat) (cs : Array Value), k ≤ 5 ∧ u = .int .u64 q ∧ i = .int .i64 p ∧ p + k = 65 ∧ Blk wr w.heap.size cs 160 ∧ cs.size = 65 ∧ Keep [] w wr ∧ q < 16777216 ∧ Hid (q = n / 16 ^ k ∧ (∀ j, j < k → cs[64 - j]? = some (.int .u8 ((hexD (n / 16 ^ j)).toNat : Int))) ∧ (0 < k → 16 ^ k ≤ n))) (fun u _ _ => (intOf u).toNat)
  case atStart => exact ⟨0, n, 65, _, by omega, rfl, by go_num, rfl, HST.out.1, hzs, HST.out.2, hn, Lib.hid ⟨by simp, by intro j hj; omega, by omega⟩⟩
  case round =>
    clear HST
    obtain ⟨k, q, p, cs, hk, rfl, rfl, hpk, HB, hcs, Kr, hq, HH⟩ := hrel
    have hab := HB.lt
    obtain ⟨p, rfl⟩ : ∃ p', p = p' + 1 := ⟨p - 1, by omega⟩
    obtain ⟨x, hx⟩ : ∃ x, cs[p]? = some x := ⟨_, Array.getElem?_eq_getElem (by omega)⟩
    have c0 : wr.cell? ⟨w.heap.size, p, none⟩ = some x := (HB.cell p).trans hx
    have f0 : wr.frozen? ⟨w.heap.size, p, none⟩ = false := HB.frozen p
    have HBB := Lib.hid (⟨HB, hcs, Kr⟩ : _ ∧ _ ∧ _)
    have hp65 : p < 65 := by omega
    clear HB Kr hx
    by_cases h16 : 16 ≤ q
    · have hand := and15 q hq
      have hix := d36_at (q % 16) (by omega)
      rw [hexD_mod] at hix
      unfold d36 at hix
      have hk4 : k < 5 := by
        by_cases h : k = 5
        · subst h
          have := HH.out.1
          omega
        · omega
      have HGET := Lib.hid (d36_get (q % 16) (by omega))
      unfold d36 at HGET
      have HFN : ∀ v, v = .int .u8 ((hexD q).toNat : Int) → Hid (∃ (k1 q1 p1 : Nat) (cs1 : Array Value), k1 ≤ 5 ∧ (Value.int .u64 ((q : Int) / 16)) = .int .u64 q1 ∧ (Value.int .i64 (p : Int)) = .int .i64 p1 ∧ p1 + k1 = 65 ∧ Blk (wr.setCell ⟨w.heap.size, p, none⟩ v) w.heap.size cs1 160 ∧ cs1.size = 65 ∧ Keep [] w (wr.setCell ⟨w.heap.size, p, none⟩ v) ∧ q1 < 16777216 ∧ Hid (q1 = n / 16 ^ k1 ∧ (∀ j, j < k1 → cs1[64 - j]? = some (.int .u8 ((hexD (n / 16 ^ j)).toNat : Int))) ∧ (0 < k1 → 16 ^ k1 ≤ n))) := fun v hv => Lib.hid (by
        obtain ⟨B, hc, K⟩ := HBB.out
        obtain ⟨e1, e2, e3⟩ := HH.out
        refine ⟨k + 1, q / 16, p, cs.setIfInBounds p v, by omega, by congr 1, rfl, by omega, B.set p v, by simp [hc], K.setCell (.inr (by simp)) v, by omega, Lib.hid ⟨?_, ?_, ?_⟩⟩
        · rw [e1, Nat.pow_succ, Nat.div_div_eq_div_mul]
        · intro j hj
          by_cases hjk : j = k
          · subst hjk
            rw [show 64 - j = p by omega, Array.getElem?_setIfInBounds_self, if_pos (by omega), hv, e1]
          · rw [Array.getElem?_setIfInBounds_ne (by omega)]
            exact e2 j (by omega)
        · intro _
          rw [Nat.pow_succ]
          have : 16 ^ k * 16 ≤ 16 ^ k * (n / 16 ^ k) := Nat.mul_le_mul_left _ (by omega)
          exact Nat.le_trans this (Nat.mul_div_le n (16 ^ k)))
      go_wp2
      refine ⟨(HFN _ ?_).out, by simp [intOf]; omega⟩
      rw [HGET.out, hexD_mod]
    · have hix := d36_at q (by omega)
      unfold d36 at hix
      have hsl := sl65 w.heap.size p hp65
      have hcv : ∀ v, v = .int .u8 ((hexD q).toNat : Int) → Keep [] w (wr.setCell ⟨w.heap.size, p, none⟩ v) ∧ (convert 37 9 (.slice (some ⟨w.heap.size, p, none⟩) (65 - p) (65 - p))).run Tryz.prog (wr.setCell ⟨w.heap.size, p, none⟩ v) = .ok (.string ⟨(hexL n).toArray⟩) (wr.setCell ⟨w.heap.size, p, none⟩ v) := fun v hv => by
        obtain ⟨B, hc, K⟩ := HBB.out
        obtain ⟨e1, e2, e3⟩ := HH.out
        refine ⟨K.setCell (.inr (by simp)) v, ?_⟩
        have hM := hexM_eq n k hk (by omega) e3
        have hlen : (hexL n).length = 65 - p := by unfold hexL; simp [hM]; omega
        rw [← hlen]
        refine run_convert_bytes_back _ 37 9 5 ⟨w.heap.size, p, none⟩ (hexL n).length (hexL n) (by kernel_rfl) (by kernel_rfl) (by kernel_rfl) ?_
        intro j hj
        rw [hlen] at hj
        rw [add_none, (B.set p v).cell]
        have hel : (hexL n)[j]'(by rw [hlen]; exact hj) = hexD (n / 16 ^ (k - j)) := by
          unfold hexL
          rw [List.getElem_map, List.getElem_reverse, List.getElem_range, List.length_range, hM]
          congr 3
        rw [hel]
        by_cases hj0 : j = 0
        · subst hj0
          rw [Nat.add_zero, Array.getElem?_setIfInBounds_self, if_pos (by omega), hv, e1]
          rfl
        · rw [Array.getElem?_setIfInBounds_ne (by omega), show p + j = 64 - (k - j) by omega]
          exact e2 (k - j) (by omega)
      have hcv1 := (hcv _ rfl).2
      have HK1 := Lib.hid (hcv _ rfl).1
      clear hcv HH HBB
      go_wp2
      go_ret2
      exact ⟨rfl, HK1.out⟩
set_option maxRecDepth 20000 in
theorem fmtI_any (n : Nat) (hn : n < 16777216) (w : World) (HT : Tab w) (h5 : 5 < w.heap.size) :
    Calls Tryz.prog 98 #[.int .i64 n, .int .i64 16] w fun e w' => e = .returned (.string ⟨(hexL n).toArray⟩) ∧ Keep [] w w' := by
  have hw : IntKind.u64.wrap (n : Int) = n := by rw [IntKind.wrap_u64]; omega
  have hlt : decide ((n : Int) < 0) = false := by simp
  have HF := Lib.hid (fmtBits_any n hn w HT h5)
  go_enter Tryz.func98, Tryz.ntmps98
  go_wp2_with fail
  refine HF.out.mono ?_
  rintro e w1 ⟨rfl, K1⟩
  go_wp2
  go_ret
  exact ⟨rfl, K1⟩
theorem fmt16_any (n : Nat) (hn : n < 16777216) (w : World) (HT : Tab w) (h5 : 5 < w.heap.size) :
    Calls Tryz.prog 82 #[.int .i64 n, .int .i64 16] w fun e w' => e = .returned (.string ⟨(hexL n).toArray⟩) ∧ Keep [] w w' := by
  have HF := Lib.hid (fmtI_any n hn w HT h5)
  go_enter Tryz.func82, Tryz.ntmps82
  go_wp2_with fail
  refine HF.out.mono ?_
  rintro e w1 ⟨rfl, K1⟩
  go_wp2
  go_ret
  exact ⟨rfl, K1⟩
end Go.Proofs.YtmfjddhckblbhaaGreatDoor
namespace Go.Proofs.YtmfjddhckblbhaaGreatDoor
open Go Go.RowKit Go.MapKept
attribute [local go_sem] Oper.semAt_some

/-- A sign of a set, as text. -/
def scL (n : Nat) : List UInt8 := if 32 ≤ n ∧ n ≤ 126 ∧ oddR n = false then [UInt8.ofNat n] else [92, 117] ++ hexL n ++ [59]
/-- A byte, as text. -/
def hxL (n : Nat) : List UInt8 := [hexD (n / 16), hexD n]
theorem hexM_le (n : Nat) : 1 ≤ hexM n ∧ hexM n ≤ 6 := by
  unfold hexM
  repeat (split; omega)
  omega
theorem hexL_len (n : Nat) : (hexL n).length = hexM n := by simp [hexL]
theorem bytes_app (a b : List UInt8) : (⟨a.toArray⟩ : ByteArray) ++ ⟨b.toArray⟩ = ⟨(a ++ b).toArray⟩ := by
  apply ByteArray.ext
  simp
theorem enc_ascii (n : Nat) (h : n < 128) : Utf8.encode (n : Int) = ⟨#[UInt8.ofNat n]⟩ := by
  have hv : Utf8.valid (n : Int) = true := by rw [validRune_eq, validRune]; exact decide_eq_true (by omega)
  unfold Utf8.encode
  simp [hv, h]
theorem and15i (n : Nat) (h : n < 256) : bits .and .i64 (n : Int) 15 = (n : Int) % 16 := by
  have h1 : ∀ m : Fin 256, bits .and .i64 ((m.val : Nat) : Int) 15 = ((m.val : Nat) : Int) % 16 := by decide +kernel
  exact h1 ⟨n, h⟩
set_option maxRecDepth 20000 in
set_option maxHeartbeats 1000000 in
theorem scShow_any (n : Nat) (hn : n < 1114112) (w : World) (HT : Tab w) (h5 : 5 < w.heap.size) :
    Calls Tryz.prog 57 #[.int .i64 n] w fun e w' => e = .returned (.string ⟨(scL n).toArray⟩) ∧ Keep [] w w' := by
  have hw : IntKind.i32.wrap (n : Int) = n := by unfold IntKind.wrap; simp [IntKind.bits, IntKind.signed]; omega
  have hl6 : (hexL n).length ≤ 6 := by rw [hexL_len]; exact (hexM_le n).2
  by_cases h1 : 32 ≤ n ∧ n ≤ 126
  · obtain ⟨h1, h2⟩ := h1
    have hv : Utf8.valid (n : Int) = true := by rw [validRune_eq, validRune]; exact decide_eq_true (by omega)
    have HC := Lib.hid (containsOdd_any n (by omega) hv w)
    cases ho : oddR (n : Int)
    · have HE := Lib.hid (show scL n = [UInt8.ofNat n] by unfold scL; rw [if_pos ⟨h1, h2, ho⟩])
      rw [ho] at HC
      have hcv : ∀ w, (convert 21 9 (.int .i32 n)).run Tryz.prog w = .ok (.string ⟨#[UInt8.ofNat n]⟩) w := fun w => by
        rw [run_convert_int_string w _ _ _ _ (by kernel_rfl) (by kernel_rfl), enc_ascii n (by omega)]
      clear ho hv
      go_enter Tryz.func57, Tryz.ntmps57
      go_wp2_with fail
      refine HC.out.mono ?_
      rintro e w1 ⟨rfl, K1⟩
      go_wp2
      go_ret
      exact ⟨by rw [HE.out]; rfl, K1⟩
    · have HE := Lib.hid (show scL n = [92, 117] ++ hexL n ++ [59] by unfold scL; rw [if_neg (by simp [ho])])
      rw [ho] at HC
      clear ho hv
      go_enter Tryz.func57, Tryz.ntmps57
      go_wp2_with fail
      refine HC.out.mono ?_
      rintro e w1 ⟨rfl, K1⟩
      have HF := Lib.hid (fmt16_any n (by omega) w1 ((World.cell?_of_block (w := w) (a := ⟨5, 15, none⟩) (K1.block 5 h5 (by simp))).trans HT) (Nat.lt_of_lt_of_le h5 K1.size))
      go_wp2_with fail
      refine HF.out.mono ?_
      rintro e w2 ⟨rfl, K2⟩
      generalize hexL n = x at hl6 HE ⊢
      go_wp2
      go_ret
      refine ⟨?_, K1.trans K2⟩
      rw [HE.out, ← bytes_app, ← bytes_app]
      rfl
  · have HE := Lib.hid (show scL n = [92, 117] ++ hexL n ++ [59] by unfold scL; rw [if_neg (by omega)])
    have HF := Lib.hid (fmt16_any n (by omega) w HT h5)
    go_enter Tryz.func57, Tryz.ntmps57
    rcases (by omega : n < 32 ∨ (32 ≤ n ∧ 126 < n)) with h2 | ⟨h2, h3⟩
    all_goals
      go_wp2_with fail
      refine HF.out.mono ?_
      rintro e w2 ⟨rfl, K2⟩
      generalize hexL n = x at hl6 HE ⊢
      go_wp2
      go_ret
      refine ⟨?_, K2⟩
      rw [HE.out, ← bytes_app, ← bytes_app]
      rfl
theorem dg_at (q : Nat) (hq : q < 16) (i j : Int) (hi : i = q) (hj : j = q + 1) (w : World) : (Instr.slice 9 (.string digs) (some (.int .i64 i)) (some (.int .i64 j)) none).run Tryz.prog w = .ok (.string ⟨#[hexD q]⟩) w := by
  have h1 : ∀ n : Fin 16, (digs.extract n.val (n.val + 1)).data = #[hexD n.val] := by decide +kernel
  have hs : digs.size = 16 := by decide
  subst hi hj
  rw [run_slice_string w 9 digs .i64 .i64 q (q + 1) Tryz.underlying9 (by omega) (by omega) (by omega)]
  have h2 := h1 ⟨q, hq⟩
  simp only at h2
  rw [Int.toNat_natCast, show ((q : Int) + 1).toNat = q + 1 by omega]
  congr 2
  exact ByteArray.ext h2
set_option maxRecDepth 20000 in
theorem hxShow_any (n : Nat) (hn : n < 256) (w : World) :
    Calls Tryz.prog 58 #[.int .i64 n] w fun e w' => e = .returned (.string ⟨(hxL n).toArray⟩) ∧ Keep [] w w' := by
  have b1 : (0 : Int) ≤ (n : Int) / 16 := by omega
  have b2 : (n : Int) / 16 + 1 ≤ 16 := by omega
  have b3 : (0 : Int) ≤ (n : Int) % 16 := by omega
  have b4 : (n : Int) % 16 + 1 ≤ 16 := by omega
  have w1 : IntKind.i64.wrap ((n : Int) / 16 + 1) = (n : Int) / 16 + 1 := IntWalk.i64_in _ (by omega)
  have w2 : IntKind.i64.wrap ((n : Int) % 16 + 1) = (n : Int) % 16 + 1 := IntWalk.i64_in _ (by omega)
  have d1 := dg_at (n / 16) (by omega) ((n : Int) / 16) ((n : Int) / 16 + 1) (by omega) (by omega)
  have d2 := dg_at (n % 16) (by omega) ((n : Int) % 16) ((n : Int) % 16 + 1) (by omega) (by omega)
  unfold digs at d1 d2
  rw [hexD_mod] at d2
  have hand := and15i n hn
  clear b1 b2 b3 b4
  go_enter Tryz.func58, Tryz.ntmps58
  go_wp2
  go_quiet (fail)
  go_wp2
  go_ret
  refine ⟨?_, (Keep.refl _ _).drewN _⟩
  show Ending.returned (.string (({ data := #[hexD (n / 16)] } : ByteArray) ++ { data := #[hexD n] })) = _
  rw [show (({ data := #[hexD (n / 16)] } : ByteArray) ++ { data := #[hexD n] }) = ⟨([hexD (n / 16)] ++ [hexD n]).toArray⟩ from bytes_app [hexD (n / 16)] [hexD n]]
  rfl
end Go.Proofs.YtmfjddhckblbhaaGreatDoor
namespace Go.Proofs.YtmfjddhckblbhaaGreatDoor
open Go Go.RowKit Go.MapKept
attribute [local go_sem] Oper.semAt_some

/-- A text's tokens, where they end, and the error's number. -/
def lexT (s : ByteArray) : List TokS × Nat × Nat := if 3000 < s.size then ([], 0, 7) else lexR clR byR s (s.size + 1) 0 []
theorem allTok_any (S0 : List Nat) (s : ByteArray) (w : World) (hS0 : ∀ x ∈ S0, x < w.heap.size) (ts : List TokS) (a e0 : Nat) (hr : lexT s = (ts, a, e0)) :
    Calls Tryz.prog 10 #[.string s] w fun e w' => (∃ v, e = .returned (.tuple #[v, .int .i64 a, .int .i64 e0]) ∧ Toks S0 w' v ts) ∧ Keep [] w w' := by
  unfold lexT at hr
  by_cases h : 3000 < s.size
  · rw [if_pos h] at hr
    simp only [Prod.mk.injEq] at hr
    obtain ⟨rfl, rfl, rfl⟩ := hr
    have hgt : (3000 : Int) < (s.size : Int) := by omega
    go_enter Tryz.func10, Tryz.ntmps10
    go_wp2
    go_ret3
    exact ⟨⟨_, rfl, SlOf.nil _ _ _⟩, Keep.refl _ _⟩
  · rw [if_neg h] at hr
    exact all_any S0 clR byR s (by omega) (fun b i w hi H _ => class_any b s i w H (by omega) hi) (fun b i w hi H _ => bytes_any b s i w H (by omega) hi) (clR_ahead s) (byR_ahead s) w hS0 ts a e0 hr
end Go.Proofs.YtmfjddhckblbhaaGreatDoor
namespace Go.Proofs.YtmfjddhckblbhaaGreatDoor
open Go Go.RowKit Go.MapKept

theorem normR_law (l : List Rng) : OrdR (normR l) ∧ ∀ n, hasR (normR l) n = (decide (0 ≤ n) && decide (n ≤ 1114111) && hasR l n) := by
  exact pickR_law (fun n => hasR l n) l (fun k hk n h1 h2 => hasR_const l l (fun r h => h) hk h1 h2)
theorem lessF_law (a b : List Rng) : OrdR (lessF a b) ∧ ∀ n, hasR (lessF a b) n = (decide (0 ≤ n) && decide (n ≤ 1114111) && (hasR a n && !hasR b n)) := twoR_law (fun x y => x && !y) a b
/-- One more token is read. -/
theorem lexR_step {cR bR : ByteArray → Nat → WayR} {s : ByteArray} (p : Nat) {n i : Nat} {acc : List TokS} (k : Int) (t : ByteArray) (r : List Rng) (j : Nat) (hn : 0 < n) (hp : skipB s i = p) (hs : p ≠ s.size) (hw : wayR cR bR s p = some (k, t, r, j)) (h6 : acc.length ≠ 600) :
    lexR cR bR s n i acc = lexR cR bR s (n - 1) j (acc ++ [⟨k, t, r, p⟩]) := by
  subst hp
  rw [lexR_go hn hs hw, if_neg h6]
end Go.Proofs.YtmfjddhckblbhaaGreatDoor
