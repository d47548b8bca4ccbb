/- The scanner reads a sign of a set. -/
import Derived.Test.YtmfjddhckblbhaaGreatDoorM4
import Derived.Test.YtmfjddhckblbhaaGreatDoorM6
import Derived.Deep.RegionHeld3
set_option linter.unusedVariables false
set_option linter.unusedSimpArgs false
namespace Go.Proofs.YtmfjddhckblbhaaGreatDoor
open Go Go.RowKit
attribute [local go_sem] Oper.semAt_some

/-- A sign of a set at i, and where it ends. -/
def scR (s : ByteArray) (i : Nat) : Option (Nat × Nat) :=
  if isB s i 92 = true then
    (if isB s (i + 1) 117 = true then
      (if 0 < (numR s 6 (i + 2) 0).2 ∧ utfMay (numR s 6 (i + 2) 0).1 = true ∧ isB s (i + 2 + (numR s 6 (i + 2) 0).2) 59 = true then some ((numR s 6 (i + 2) 0).1, i + 2 + (numR s 6 (i + 2) 0).2 + 1) else none)
    else none)
  else if 32 ≤ (nextU (s.data.toList.drop i)).1 ∧ oddR (nextU (s.data.toList.drop i)).1 = false then some ((nextU (s.data.toList.drop i)).1.toNat, i + (nextU (s.data.toList.drop i)).2) else none
/-- What a sign's reader hands back. -/
def OneAt (b : Nat) (s : ByteArray) (w : World) (goal : Option (Nat × Nat)) (e : Ending) (w' : World) : Prop :=
  (∃ (r : Int) (ok : Bool) (j : Nat), e = .returned (.tuple #[.int .i64 r, .bool ok]) ∧ Scan w' b s j ∧ j ≤ s.size ∧ (ok = true → 0 ≤ r ∧ r ≤ 1114111) ∧ goal = if ok then some (r.toNat, j) else none) ∧ Keep [b] w w'
theorem lenB (s : ByteArray) : s.data.toList.length = s.size := Array.length_toList
theorem bytes_at (s : ByteArray) (C b : Nat) (w : World) (f : Nat × Nat) (T : TypeId) (h : w.heap[b]? = some (.cells (bytesRow s C) T f)) : Byts w b 0 s.data.toList := by
  intro i hi
  rw [lenB] at hi
  simp only [World.cell?, h, Nat.zero_add]
  unfold bytesRow
  rw [Array.getElem?_append_left (by simpa using hi)]
  have hi2 : i < s.data.size := hi
  rw [Array.getElem?_map, Array.getElem?_eq_getElem hi2]
  rfl
theorem next_conv (s : ByteArray) (w1 : World) (hm : s.size ≤ 4096) (n : Nat) (hn : n = s.size) (b C : Nat) (w : World) (f : Nat × Nat) (T : TypeId) (h : w.heap[b]? = some (.cells (bytesRow s C) T f)) (hC : n ≤ C) (K : Keep [] w1 w) :
    Calls Tryz.prog 90 #[.slice (some ⟨b, 0, none⟩) n C, .int .i64 0] w
      fun e w' => e = .returned (.tuple #[.int .i64 (nextU s.data.toList).1, .int .i64 (nextU s.data.toList).2]) ∧ Keep [] w1 w' := by
  subst hn
  have h := nextU_any b 0 C s.data.toList _ (bytes_at s C b w f T h) (by rw [lenB]; exact hC) (by rw [lenB]; exact hm)
  rw [lenB] at h
  exact h.mono fun e w' ⟨h1, h2⟩ => ⟨h1, K.trans h2⟩
theorem alloc_new (w : World) (o : Obj) : (w.alloc o).heap[w.heap.size]? = some o := by
  show (w.heap.push o)[w.heap.size]? = _
  simp
theorem ofU_some {l : List UInt8} {n h r : Nat} (e : ofU l n h = some r) (hn : 1 ≤ n) : utfMay r = true ∧ utfSize r = n ∧ n ≤ l.length := by
  unfold ofU at e
  split at e
  · cases e
  · rename_i c cs
    split at e
    · cases e
    · rename_i h1
      split at e
      · cases e
      · split at e
        · rename_i h2
          simp only [Option.some.injEq] at e
          subst e
          simp only [Bool.and_eq_true, beq_iff_eq] at h2
          exact ⟨h2.1, h2.2, by simp; omega⟩
        · cases e
theorem tryU_some {l : List UInt8} {k r : Nat} (hk : k < 4) (e : tryU l k = some r) : utfMay r = true ∧ utfSize r = k + 1 ∧ k + 1 ≤ l.length := by
  rcases (by omega : k = 0 ∨ k = 1 ∨ k = 2 ∨ k = 3) with rfl | rfl | rfl | rfl
  · exact ofU_some e (by omega)
  · exact ofU_some e (by omega)
  · exact ofU_some e (by omega)
  · exact ofU_some e (by omega)
theorem nextW_spec (l : List UInt8) (hl : 0 < l.length) : ∀ n k, k + n = 4 → (nextW l n k).2 ≤ l.length ∧ 1 ≤ (nextW l n k).2 ∧ (nextW l n k).2 ≤ 4 ∧ -1 ≤ (nextW l n k).1 ∧ (0 ≤ (nextW l n k).1 → utfMay (nextW l n k).1.toNat = true ∧ utfSize (nextW l n k).1.toNat = (nextW l n k).2)
  | 0, k, h => by simp [nextW]; omega
  | n + 1, k, h => by
    rw [nextW_step]
    cases e : tryU l k with
    | none => exact nextW_spec l hl n (k + 1) (by omega)
    | some r =>
      obtain ⟨h1, h2, h3⟩ := tryU_some (by omega) e
      have h4 : utfSize r ≤ 4 := by unfold utfSize; repeat (split <;> try omega)
      exact ⟨h3, Nat.le_add_left 1 k, by show k + 1 ≤ 4; omega, by show (-1 : Int) ≤ r; omega, fun _ => ⟨h1, h2⟩⟩
theorem nextU_spec (l : List UInt8) : (nextU l).2 ≤ l.length ∧ (nextU l).2 ≤ 4 ∧ -1 ≤ (nextU l).1 ∧ (0 ≤ (nextU l).1 → utfMay (nextU l).1.toNat = true ∧ 1 ≤ (nextU l).2) := by
  unfold nextU
  split
  · rename_i h
    subst h
    simp
  · rename_i h
    obtain ⟨h1, h2, h3, h4, h5⟩ := nextW_spec l (List.length_pos_iff.2 h) 4 0 rfl
    exact ⟨h1, h3, h4, fun h => ⟨(h5 h).1, h2⟩⟩
theorem utfMay_valid {r : Int} (h0 : 0 ≤ r) (h : utfMay r.toNat = true) : Utf8.valid r = true ∧ r ≤ 1114111 := by
  unfold utfMay at h
  simp only [Bool.and_eq_true, Bool.or_eq_true, decide_eq_true_eq] at h
  refine ⟨?_, by omega⟩
  rw [validRune_eq, validRune]
  exact decide_eq_true (by omega)
theorem isB_size {s : ByteArray} {i : Nat} {c : Int} (h : isB s i c = true) : i < s.size := isB_lt h

set_option maxRecDepth 20000 in
set_option maxHeartbeats 2000000 in
theorem scalar_any (b : Nat) (s : ByteArray) (i : Nat) (w : World) (H : Scan w b s i) (hm : s.size ≤ 4096) (hi : i ≤ s.size) :
    Calls Tryz.prog 68 #[.pointer (some ⟨b, 0, none⟩)] w (OneAt b s w (scR s i)) := by
  obtain ⟨goal, hgoal⟩ : ∃ g, g = scR s i := ⟨_, rfl⟩
  rw [← hgoal]
  unfold scR at hgoal
  have HG := Lib.hid hgoal
  clear hgoal
  go_enter Tryz.func68, Tryz.ntmps68
  go_wp2_with fail
  refine (is_any b s i 92 _ H hm).mono ?_
  rintro e w1 ⟨rfl, H1, K1⟩
  cases hq : isB s i 92
  · rw [hq] at H1
    simp only [Bool.false_eq_true, if_false] at H1
    have HG2 := Lib.hid (show goal = if 32 ≤ (nextU (s.data.toList.drop i)).1 ∧ oddR (nextU (s.data.toList.drop i)).1 = false then some ((nextU (s.data.toList.drop i)).1.toNat, i + (nextU (s.data.toList.drop i)).2) else none by rw [HG.out, hq]; rfl)
    clear HG
    have h0 : w1.cell? ⟨b, 0, none⟩ = some (.string s) := H1.cell 0
    have h1 : w1.cell? ⟨b, 1, none⟩ = some (.int .i64 i) := H1.cell 1
    have f1 : w1.frozen? ⟨b, 1, none⟩ = false := H1.frozen 1
    have hb : (i : Int) ≤ s.size := by omega
    have HK1 := Lib.hid K1
    have HH1 := Lib.hid H1
    have hsz := size_extract_end s i hi
    have hls := toList_extract_end s i
    have hcv : ∀ w, (convert 9 37 (.string (s.extract i s.size))).run Tryz.prog w = _ := fun w => run_bytes_of_string w 9 37 5 (s.extract i s.size) (by kernel_rfl) (by kernel_rfl) (by kernel_rfl)
    have HN := Lib.hid (fun b C w => next_conv (s.extract i s.size) w1 (by omega) (s.size - i) (by omega) b C w ((bytesRow (s.extract i s.size) C).size, (bytesRow (s.extract i s.size) C).size + 1) 5)
    rw [← hls] at HG2
    have HS : Hid (∀ w', Keep [] w1 w' → w'.cell? ⟨b, 0, none⟩ = some (.string s) ∧ w'.cell? ⟨b, 1, none⟩ = some (.int .i64 i) ∧ Keep [] w1 w') := Lib.hid fun w' K => ⟨(H1.keep K (by simp)).cell 0, (H1.keep K (by simp)).cell 1, K⟩
    have K0 := Keep.refl [] w1
    have hnx := nextU_spec (s.extract i s.size).data.toList
    rw [lenB, hsz] at hnx
    generalize nextU (s.extract i s.size).data.toList = nx at HN HG2 hnx
    obtain ⟨nr, nn⟩ := nx
    simp only at HN HG2 hnx
    obtain ⟨n1, n2, n3, n4⟩ := hnx
    have HN4 := Lib.hid n4
    clear n4
    clear H1 K1 hsz hls H
    go_wp2
    refine wp_region_held_drew (S := fun w' => w'.cell? ⟨b, 0, none⟩ = some (.string s) ∧ w'.cell? ⟨b, 1, none⟩ = some (.int .i64 i) ∧ Keep [] w1 w') (by kernel_rfl) ?_ (fun hHeld => ?_)
    · exact HS.out _ (by repeat (first | assumption | apply Keep.drew | apply Keep.alloc))
    refine wpAnyH_take (i := 0) (oi := _) (v := ?_) rfl (by kernel_rfl) (by kernel_rfl) (by kernel_rfl) (fun _ _ _ h => h) (Or.inl ⟨by rfl, ?_⟩) (by assumption) ?_
    rotate_left
    · intro w hSw
      try dsimp only at hSw
      go_simp
      try with_reducible rfl
    try simp only [Act.put, List.setIfInBounds_toArray, List.set_cons_zero, List.set_cons_succ]
    refine wpAnyH_take (i := 1) (oi := _) (v := ?_) rfl (by kernel_rfl) (by kernel_rfl) (by kernel_rfl) (fun _ _ _ h => h) (Or.inl ⟨by rfl, ?_⟩) (by assumption) ?_
    rotate_left
    · intro w hSw
      try dsimp only at hSw
      go_simp
      try with_reducible rfl
    try simp only [Act.put, List.setIfInBounds_toArray, List.set_cons_zero, List.set_cons_succ]
    refine wpAnyH_take (i := 2) (oi := _) (v := ?_) rfl (by kernel_rfl) (by kernel_rfl) (by kernel_rfl) (fun _ _ _ h => h) (Or.inl ⟨by rfl, ?_⟩) (by assumption) ?_
    rotate_left
    · intro w hSw
      try dsimp only at hSw
      go_simp
      try with_reducible rfl
    try simp only [Act.put, List.setIfInBounds_toArray, List.set_cons_zero, List.set_cons_succ]
    refine wpAnyH_take (i := 3) (oi := _) (v := ?_) rfl (by kernel_rfl) (by kernel_rfl) (by kernel_rfl) (fun _ _ _ h => h) (Or.inl ⟨by rfl, ?_⟩) (by assumption) ?_
    rotate_left
    · intro w hSw
      try dsimp only at hSw
      go_simp
      try with_reducible rfl
    try simp only [Act.put, List.setIfInBounds_toArray, List.set_cons_zero, List.set_cons_succ]
    refine wpAnyH_take (i := 4) (oi := _) (v := ?_) rfl (by kernel_rfl) (by kernel_rfl) (by kernel_rfl) (fun _ _ _ h => h) (Or.inl ⟨by rfl, ?_⟩) (by assumption) ?_
    rotate_left
    · intro w hSw
      try dsimp only at hSw
      go_simp
      try with_reducible rfl
    try simp only [Act.put, List.setIfInBounds_toArray, List.set_cons_zero, List.set_cons_succ]
    refine wpAnyH_take (i := 5) (oi := _) (v := ?_) rfl (by kernel_rfl) (by kernel_rfl) (by kernel_rfl) (fun _ _ _ h => h) (Or.inl ⟨by rfl, ?_⟩) (by assumption) ?_
    rotate_left
    · intro w hSw
      try dsimp only at hSw
      go_simp
      try with_reducible rfl
    try simp only [Act.put, List.setIfInBounds_toArray, List.set_cons_zero, List.set_cons_succ]
    refine wpAnyH_take (i := 6) (oi := _) (v := ?_) rfl (by kernel_rfl) (by kernel_rfl) (by kernel_rfl) (fun _ _ _ h => h) (Or.inl ⟨by rfl, ?_⟩) (by assumption) ?_
    rotate_left
    · intro w hSw
      try dsimp only at hSw
      go_simp
      try with_reducible rfl
    try simp only [Act.put, List.setIfInBounds_toArray, List.set_cons_zero, List.set_cons_succ]
    refine wpAnyH_take (i := 7) (oi := _) (v := ?_) rfl (by kernel_rfl) (by kernel_rfl) (by kernel_rfl) (fun _ _ _ h => h) (Or.inl ⟨by rfl, ?_⟩) (by assumption) ?_
    rotate_left
    · intro w hSw
      try dsimp only at hSw
      go_simp
      try with_reducible rfl
    try simp only [Act.put, List.setIfInBounds_toArray, List.set_cons_zero, List.set_cons_succ]
    refine wpAnyH_take (i := 8) (oi := _) (v := ?_) rfl (by kernel_rfl) (by kernel_rfl) (by kernel_rfl) (fun _ _ _ h => h) (Or.inl ⟨by rfl, ?_⟩) (by assumption) ?_
    rotate_left
    · intro w hSw
      try dsimp only at hSw
      go_simp
      try with_reducible rfl
    try simp only [Act.put, List.setIfInBounds_toArray, List.set_cons_zero, List.set_cons_succ]
    refine wpAnyH_ready (rs := [9]) (by kernel_rfl) (by simp) ?_
    refine AllReadyH.cons rfl (fun K hK => ?_) AllReadyH.nil
    go_simp
    refine hK.out _ _ ?_ (fun hHeld => ?_)
    · exact HS.out _ (by repeat (first | assumption | apply Keep.drew | apply Keep.alloc))
    clear hK K
    try simp only [Act.put, List.setIfInBounds_toArray, List.set_cons_zero, List.set_cons_succ]
    refine wpAnyH_ready (rs := [10]) (by kernel_rfl) (by simp) ?_
    refine AllReadyH.cons rfl (fun K hK => ?_) AllReadyH.nil
    go_simp
    go_at_call 90
    refine (HN.out _ _ _ ?_ ?_ ?_).mono ?_
    · exact alloc_new _ _
    · exact grownCap_ge _ _ _ _
    · (repeat (first | assumption | apply Keep.drew | apply Keep.alloc))
    rintro e w' ⟨rfl, K'⟩
    refine hK.out _ _ ?_ (fun hHeld => ?_)
    · exact HS.out _ (by repeat (first | assumption | apply Keep.drew | apply Keep.alloc))
    clear hK K
    try simp only [Act.put, List.setIfInBounds_toArray, List.set_cons_zero, List.set_cons_succ]
    refine wpAnyH_take (i := 11) (oi := _) (v := ?_) rfl (by kernel_rfl) (by kernel_rfl) (by kernel_rfl) (fun _ _ _ h => h) (Or.inl ⟨by rfl, ?_⟩) (by assumption) ?_
    rotate_left
    · intro w hSw
      try dsimp only at hSw
      go_simp
      try with_reducible rfl
    try simp only [Act.put, List.setIfInBounds_toArray, List.set_cons_zero, List.set_cons_succ]
    refine wpAnyH_take (i := 12) (oi := _) (v := ?_) rfl (by kernel_rfl) (by kernel_rfl) (by kernel_rfl) (fun _ _ _ h => h) (Or.inl ⟨by rfl, ?_⟩) (by assumption) ?_
    rotate_left
    · intro w hSw
      try dsimp only at hSw
      go_simp
      try with_reducible rfl
    try simp only [Act.put, List.setIfInBounds_toArray, List.set_cons_zero, List.set_cons_succ]
    refine wpAnyH_take (i := 13) (oi := _) (v := ?_) rfl (by kernel_rfl) (by kernel_rfl) (by kernel_rfl) (fun _ _ _ h => h) (Or.inl ⟨by rfl, ?_⟩) (by assumption) ?_
    rotate_left
    · intro w hSw
      try dsimp only at hSw
      go_simp
      try with_reducible rfl
    try simp only [Act.put, List.setIfInBounds_toArray, List.set_cons_zero, List.set_cons_succ]
    refine wpAnyH_take (i := 14) (oi := _) (v := ?_) rfl (by kernel_rfl) (by kernel_rfl) (by kernel_rfl) (fun _ _ _ h => h) (Or.inl ⟨by rfl, ?_⟩) (by assumption) ?_
    rotate_left
    · intro w hSw
      try dsimp only at hSw
      go_simp
      try with_reducible rfl
    try simp only [Act.put, List.setIfInBounds_toArray, List.set_cons_zero, List.set_cons_succ]
    refine wpAnyH_take (i := 15) (oi := _) (v := ?_) rfl (by kernel_rfl) (by kernel_rfl) (by kernel_rfl) (fun _ _ _ h => h) (Or.inl ⟨by rfl, ?_⟩) (by assumption) ?_
    rotate_left
    · intro w hSw
      try dsimp only at hSw
      go_simp
      try with_reducible rfl
    try simp only [Act.put, List.setIfInBounds_toArray, List.set_cons_zero, List.set_cons_succ]
    refine wpAnyH_done (by kernel_rfl) ?_ _
    have K5 : Keep [] w1 _ := ‹Keep [] w1 w'›
    have H5 := HH1.out.keep K5 (by simp)
    have g0 : w'.cell? ⟨b, 0, none⟩ = some (.string s) := H5.cell 0
    have g1 : w'.cell? ⟨b, 1, none⟩ = some (.int .i64 i) := H5.cell 1
    have g2 : w'.frozen? ⟨b, 1, none⟩ = false := H5.frozen 1
    have HH5 := Lib.hid (Scan.move H5 (i + nn) (x := (i : Int) + nn) (by omega))
    have HK5 := Lib.hid ((HK1.out.trans (K5.mono (by simp))).setCell (p := ⟨b, 1, none⟩) (.inl (by simp)) (.int .i64 ((i : Int) + nn)))
    clear H5 K5 HN HS K0 hcv HH1 HK1 h0 h1 f1
    by_cases h32 : 32 ≤ nr
    · obtain ⟨hv, hmx⟩ := utfMay_valid (by omega) (HN4.out (by omega)).1
      have hw : IntKind.i32.wrap nr = nr := by unfold IntKind.wrap; simp [IntKind.bits, IntKind.signed]; omega
      have HC := Lib.hid (containsOdd_any nr (by omega) hv (w'.setCell ⟨b, 1, none⟩ (.int .i64 ((i : Int) + nn))))
      have HG3 := Lib.hid (show goal = if oddR nr = false then some (nr.toNat, i + nn) else none by rw [HG2.out]; simp [h32])
      clear HG2 hv HN4
      generalize oddR nr = od at HC HG3
      go_wp2_with fail
      refine HC.out.mono ?_
      rintro e w2 ⟨rfl, K6⟩
      have H6 := Lib.hid (HH5.out.keep K6 (by simp))
      have K7 := Lib.hid (HK5.out.trans (K6.mono (by simp)))
      clear K6 HC
      go_wp2
      go_ret2
      refine ⟨⟨nr, !od, i + nn, rfl, H6.out, by omega, fun _ => ⟨by omega, hmx⟩, ?_⟩, K7.out⟩
      rw [HG3.out]
      cases od <;> rfl
    · have HG3 := Lib.hid (show goal = none by rw [HG2.out]; simp [h32])
      clear HG2
      go_wp2
      go_ret2
      exact ⟨⟨nr, false, i + nn, rfl, HH5.out, by omega, by simp, HG3.out⟩, HK5.out⟩
  · rw [hq] at H1
    simp only [if_true] at H1
    have hi1 := isB_lt hq
    have HG2 := Lib.hid (show goal = if isB s (i + 1) 117 = true then
      (if 0 < (numR s 6 (i + 2) 0).2 ∧ utfMay (numR s 6 (i + 2) 0).1 = true ∧ isB s (i + 2 + (numR s 6 (i + 2) 0).2) 59 = true then some ((numR s 6 (i + 2) 0).1, i + 2 + (numR s 6 (i + 2) 0).2 + 1) else none)
    else none by rw [HG.out, hq]; rfl)
    have HK1 := Lib.hid K1
    clear HG K1 hq H
    go_wp2_with fail
    refine (is_any b s (i + 1) 117 _ H1 hm).mono ?_
    rintro e w2 ⟨rfl, H2, K2⟩
    have HK2 := Lib.hid (HK1.out.trans K2)
    clear HK1 K2 H1
    cases hq : isB s (i + 1) 117
    · rw [hq] at H2
      simp only [Bool.false_eq_true, if_false] at H2
      have HG3 := Lib.hid (show goal = none by rw [HG2.out, hq]; rfl)
      clear HG2 hq
      go_wp2
      go_ret2
      exact ⟨⟨0, false, i + 1, rfl, H2, by omega, by simp, HG3.out⟩, HK2.out⟩
    · rw [hq] at H2
      simp only [if_true] at H2
      have hi2 := isB_lt hq
      have HG3 := Lib.hid (show goal = if 0 < (numR s 6 (i + 2) 0).2 ∧ utfMay (numR s 6 (i + 2) 0).1 = true ∧ isB s (i + 2 + (numR s 6 (i + 2) 0).2) 59 = true then some ((numR s 6 (i + 2) 0).1, i + 2 + (numR s 6 (i + 2) 0).2 + 1) else none by rw [HG2.out, hq]; rfl)
      clear HG2 hq
      go_wp2_with fail
      refine (number_any b s (i + 2) 6 6 _ H2 hm (by omega) (by omega) rfl).mono ?_
      rintro e w3 ⟨rfl, H3, K3⟩
      have HK3 := Lib.hid (HK2.out.trans K3)
      have hj := numR_size s 6 (i + 2) 0 (by omega)
      have hlt := numR_lt s 6 (i + 2) 0
      generalize numR s 6 (i + 2) 0 = p at HG3 H3 hj hlt ⊢
      obtain ⟨n, m⟩ := p
      simp only at HG3 H3 hj hlt
      have hlt' : n < 16777216 := by omega
      clear hlt K3 HK2 H2
      have HM := Lib.hid (utfMay_any n w3 (by omega))
      rw [Int.toNat_natCast] at HM
      by_cases hm0 : 0 < m
      · go_wp2_with fail
        refine HM.out.mono ?_
        rintro e w4 ⟨rfl, rfl⟩
        cases hmay : utfMay n
        · have HG4 := Lib.hid (show goal = none by rw [HG3.out, hmay]; simp)
          clear HG3 HM hmay
          go_wp2
          go_ret2
          exact ⟨⟨n, false, i + 2 + m, rfl, H3, hj, by simp, HG4.out⟩, HK3.out⟩
        · have HG4 := Lib.hid (show goal = if isB s (i + 2 + m) 59 = true then some (n, i + 2 + m + 1) else none by rw [HG3.out, hmay]; simp [hm0])
          have hnm : n ≤ 1114111 := by unfold utfMay at hmay; simp at hmay; omega
          clear HG3 HM hmay
          go_wp2_with fail
          refine (is_any b s (i + 2 + m) 59 _ H3 hm).mono ?_
          rintro e w5 ⟨rfl, H5, K5⟩
          have HK5 := Lib.hid (HK3.out.trans K5)
          clear K5 HK3 H3
          cases hq : isB s (i + 2 + m) 59
          · rw [hq] at H5 HG4
            simp only [Bool.false_eq_true, if_false] at H5 HG4
            go_wp2
            go_ret2
            exact ⟨⟨n, false, i + 2 + m, rfl, H5, hj, by simp, HG4.out⟩, HK5.out⟩
          · rw [hq] at H5 HG4
            simp only [if_true] at H5 HG4
            have := isB_lt hq
            clear hq
            go_wp2
            go_ret2
            exact ⟨⟨n, true, i + 2 + m + 1, rfl, H5, by omega, fun _ => by omega, by rw [HG4.out]; simp⟩, HK5.out⟩
      · have HG4 := Lib.hid (show goal = none by rw [HG3.out]; simp [hm0])
        clear HG3 HM
        obtain rfl : m = 0 := by omega
        go_wp2
        go_ret2
        exact ⟨⟨n, false, i + 2, rfl, H3, by omega, by simp, HG4.out⟩, HK3.out⟩
end Go.Proofs.YtmfjddhckblbhaaGreatDoor
