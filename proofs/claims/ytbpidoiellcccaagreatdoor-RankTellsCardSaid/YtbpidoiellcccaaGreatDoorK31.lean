/- The reference lays numbers in order: the walk of its First. -/
import Derived.Test.YtbpidoiellcccaaGreatDoorKRF
import Derived.Deep.RegionLaw
import Derived.Deep.DeepCutAuto
import Derived.Test.YtbpidoiellcccaaGreatDoorK30
import Derived.Test.YtbpidoiellcccaaGreatDoorK25
import Derived.Test.YtbpidoiellcccaaGreatDoorK26
set_option linter.unusedVariables false
set_option linter.unusedSimpArgs false
namespace Go.Proofs.YtbpidoiellcccaaGreatDoor
open Go Go.RowKit Go.MapKept

theorem SlOf.ofC {w : World} {b o C : Nat} {xs : List Int} (hl : xs.length ≤ 1000000) (hC : xs.length ≤ C) (hc : ∀ i, i < xs.length → w.cell? ⟨b, o + i, none⟩ = some (.int .i64 (nth xs i))) : SlOf IntRow [] w 1 (.slice (some ⟨b, o, none⟩) xs.length C) xs := by
  refine ⟨xs.map (fun x => #[Value.int .i64 x]), ⟨some ⟨b, o, none⟩, C, by simp, by simp; omega, fun _ => ⟨b, o, rfl, by simp, fun i hi => ⟨by simp, fun j hj => ?_⟩⟩⟩, by simp, fun i hi hi' => by simp [IntRow]⟩
  obtain rfl : j = 0 := by omega
  have hi' : i < xs.length := by simpa using hi
  rw [show o + i * 1 + 0 = o + i by omega, hc i hi']
  simp [nth, hi']
theorem SlOf.emptyI (S : List Nat) (w : World) (A : Option Addr) (C : Nat) : SlOf IntRow S w 1 (.slice A 0 C) [] :=
  ⟨[], ⟨A, C, rfl, by simp, fun h => by simp at h⟩, rfl, fun i hi => by simp at hi⟩
/-- x is put where it is to be. -/
theorem rises_put {l s : List Int} {x : Int} {k : Nat} (h : Rises l s) (hg : ∀ j, k ≤ j → j < s.length → x < nth s j) (hl : k = 0 ∨ nth s (k - 1) ≤ x) (hk : k ≤ s.length) : Rises (l ++ [x]) (s.take k ++ [x] ++ s.drop k) := by
  have hp := h.2
  have hlow : ∀ y ∈ s.take k, y ≤ x := fun y hy => by
    obtain ⟨i, hi, rfl⟩ := List.getElem_of_mem hy
    have hik : i < k := by simp at hi; omega
    rw [List.getElem_take]
    rcases hl with rfl | hl
    · omega
    · have e : nth s (k - 1) = s[k - 1] := by simp [nth, show k - 1 < s.length by omega]
      rw [e] at hl
      by_cases e2 : i = k - 1
      · subst e2; exact hl
      · exact Int.le_trans (List.pairwise_iff_getElem.1 hp i (k - 1) (by omega) (by omega) (by omega)) hl
  have hhigh : ∀ y ∈ s.drop k, x < y := fun y hy => by
    obtain ⟨i, hi, rfl⟩ := List.getElem_of_mem hy
    have hi2 : k + i < s.length := by simp at hi; omega
    rw [List.getElem_drop]
    have := hg (k + i) (by omega) hi2
    simpa [nth, hi2] using this
  refine ⟨?_, ?_⟩
  · have h1 : (s.take k ++ [x] ++ s.drop k).Perm (s ++ [x]) := by
      rw [List.append_assoc]
      have h2 : (s.take k ++ ([x] ++ s.drop k)).Perm (s.take k ++ (s.drop k ++ [x])) := List.Perm.append_left _ List.perm_append_comm
      refine h2.trans ?_
      rw [← List.append_assoc, List.take_append_drop]
    exact h1.trans (h.1.append_right _)
  · rw [List.pairwise_append, List.pairwise_append]
    refine ⟨⟨hp.sublist (List.take_sublist _ _), by simp, fun y hy z hz => by simp at hz; subst hz; exact hlow y hy⟩, hp.sublist (List.drop_sublist _ _), fun y hy z hz => ?_⟩
    have h3 := hhigh z hz
    rcases List.mem_append.1 hy with h1 | h1
    · have := hlow y h1; omega
    · simp at h1; omega
set_option maxRecDepth 20000 in
set_option maxHeartbeats 4000000 in
theorem firstR_any (A : Option Addr) (C : Nat) (l : List Int) (w : World) (H : SlOf IntRow [] w 1 (.slice A l.length C) l) (hl : l.length ≤ 100) :
    Calls Tryz.prog 15 #[.slice A l.length C] w fun e w' => (∃ v s, e = .returned v ∧ NumV w' w.heap.size v s ∧ Rises l s) ∧ Keep [] w w' := by
  obtain ⟨i0, hi0, hz0, hz1, hz2⟩ := info_parts info_int
  obtain ⟨A', C', hv, hv0, hcl⟩ := IntC.data H (by omega)
  simp only [Value.slice.injEq] at hv
  obtain ⟨rfl, -, rfl⟩ := hv
  have hcl2 : 0 < l.length → ∃ b o, A = some ⟨b, o, none⟩ ∧ ∀ i, i < l.length → w.cell? ⟨b, o + i, none⟩ = some (.int .i64 (nth l i)) := fun h0 => by
    obtain ⟨b, o, e, h1⟩ := hcl h0
    exact ⟨b, o, e, fun i hi => by rw [h1 i hi]; simp [nth, hi]⟩
  have HCL := Lib.hid hcl2
  clear H hcl hv0 hcl2
  generalize hln : l.length = n at *
  have HLN := Lib.hid hln
  clear hln
  go_enter Tryz.func15, Tryz.ntmps15
  go_wp2
  go_loopw [3, 4] (fun ov iv wr => ∃ (k : Nat) (s : List Int), iv = .int .i64 k ∧ k ≤ n ∧ Hid ((NumV wr w.heap.size ov s ∧ Rises (l.take k) s ∧ Keep [] w wr) ∧ (k = 0 → ov = .slice none 0 0))) (fun _ iv _ => n - (intOf iv).toNat)
  case atStart => exact ⟨0, [], rfl, by omega, Lib.hid ⟨⟨NumV.nil _ _, ⟨by simp, List.Pairwise.nil⟩, Keep.refl _ _⟩, fun _ => rfl⟩⟩
  case round =>
    obtain ⟨k, s, rfl, hk, HI⟩ := hrel
    obtain ⟨wo, rfl⟩ : ∃ wo : World, wo = wr := ⟨_, rfl⟩
    obtain ⟨⟨NV, hR, KW⟩, hnil⟩ := HI.out
    obtain ⟨Ao, Co, rfl⟩ := NV.slice
    have hsl : s.length = k := by rw [hR.1.length_eq]; have := HLN.out; simp; omega
    by_cases hlt : k < n
    · have hkl : k < l.length := by rw [HLN.out]; exact hlt
      obtain ⟨bl, ol, rfl, hc⟩ := HCL.out (by omega)
      have e0 := KW.cell (hc k hlt) (by simp)
      have etk : l.take (k + 1) = l.take k ++ [nth l k] := by rw [List.take_succ_eq_append_getElem hkl]; simp [nth, hkl]
      generalize nth l k = x at e0 etk
      have HT := Lib.hid etk
      have HB := Lib.hid (⟨NV, hR, KW⟩ : _ ∧ _ ∧ _)
      rw [hsl] at hnil
      have HNI := Lib.hid hnil
      clear hnil
      have hlt2 : (k : Int) < (n : Int) := by omega
      have HS := Lib.hid hsl
      rw [hsl]
      clear etk NV hR KW HI hc hsl
      go_wp2
      go_loopw [5] (fun av wr => ∃ (p : Nat), av = .int .i64 p ∧ p ≤ k ∧ Hid ((∀ j, p ≤ j → j < s.length → x < nth s j) ∧ Keep [] wo wr)) (fun av _ => (intOf av).toNat)
      case atStart => exact ⟨k, rfl, Nat.le_refl _, Lib.hid ⟨fun j h1 h2 => by have := HS.out; omega, Keep.refl _ _⟩⟩
      case round =>
        obtain ⟨p, rfl, hp, HJ⟩ := hrel
        obtain ⟨hgt, KJ⟩ := HJ.out
        have d0 := KJ.cell e0 (by simp)
        have fin : ∀ (hle : p = 0 ∨ nth s (p - 1) ≤ x), Hid (Rises (l.take (k + 1)) (s.take p ++ [x] ++ s.drop p)) := fun hle => Lib.hid (by rw [HT.out]; exact rises_put HB.out.2.1 hgt hle (by rw [HS.out]; exact hp))
        by_cases hp0 : p = 0
        · subst hp0
          have HR2 := fin (.inl rfl)
          clear fin hgt HJ
          go_wp2
          go_quiet (fail)
          generalize hwq : wr.drewN _ = wq
          have Kq : Keep [] wo wq := by rw [← hwq]; exact KJ.drewN _
          clear hwq
          have N2 := HB.out.1.keep Kq (by simp)
          rw [HS.out] at N2
          have e2 := Kq.cell e0 (by simp)
          have hsz2 := Kq.size
          have hszw := HB.out.2.2.size
          have HKq := Lib.hid Kq
          have HN2 := Lib.hid N2
          have hdl : (s.drop 0).length = k - 0 := by simp; have := HS.out; omega
          have HDL := Lib.hid hdl
          clear Kq N2 KJ hdl
          go_upto_region 8 with fail
          go_cut [6] from 31 to 34 (fun v wx => NumV wx wq.heap.size v (s.drop 0) ∧ Keep [] wq wx)
          case first =>
            by_cases hk0 : k = 0
            · have h1 := HNI.out hk0
              have hs0 : s = [] := List.eq_nil_of_length_eq_zero (by have := HS.out; omega)
              simp only [Value.slice.injEq] at h1
              obtain ⟨rfl, -, rfl⟩ := h1
              subst hk0
              subst hs0
              go_wp2_with (at_builtin; refine Hid.out ?_)
              refine Lib.hid ?_
              refine wpList_append_new intRow_stab intRow_one rfl _ _ 26 rfl Tryz.underlying26 hi0 hz0 hz1 hz2 rfl (by omega) [] wq.heap.size none 0 0 rfl rfl (SlOf.emptyI _ _ _ _) (by simp) (by simp) (Nat.le_refl _) ?_
              intro A6 C6 w6 O6 K6 n6
              have HG := Lib.hid (⟨NumV.of O6, K6⟩ : NumV w6 wq.heap.size _ [] ∧ Keep [] wq w6)
              clear O6 K6 n6
              go_wp2_with fail
              go_meet
              exact HG.out
            · obtain ⟨g, C', e, _, hglt, hkC, hCm, _, hcs⟩ := HN2.out.at (by have := HS.out; omega)
              rw [HS.out] at e
              simp only [Value.slice.injEq] at e
              obtain ⟨rfl, -, rfl⟩ := e
              have hkC2 := HS.out
              obtain ⟨c1, hc1⟩ : ∃ c1, Co = c1 + 1 := ⟨Co - 1, by omega⟩
              subst hc1
              have hSL : SlOf IntRow [] wq 1 (.slice (some ⟨g, 0, none⟩) k (c1 + 1)) s := by have h := SlOf.ofC (w := wq) (b := g) (o := 0) (C := c1 + 1) (xs := s) (by omega) hkC (fun i hi => by rw [Nat.zero_add]; exact hcs i hi); rw [HS.out] at h; exact h
              have HSL := Lib.hid hSL
              clear hSL hcs
              go_wp2_with (at_builtin; refine Hid.out ?_)
              refine Lib.hid ?_
              refine wpList_append_new intRow_stab intRow_one rfl _ _ 26 rfl Tryz.underlying26 hi0 hz0 hz1 hz2 rfl (by omega) [] wq.heap.size (some ⟨g, 0, none⟩) k (c1 + 1) rfl rfl HSL.out (by omega) (by omega) (Nat.le_refl _) ?_
              intro A6 C6 w6 O6 K6 n6
              rw [HS.out] at O6 n6 ⊢
              have HG := Lib.hid (⟨by rw [List.drop_zero]; exact NumV.of O6, K6⟩ : NumV w6 wq.heap.size _ (s.drop 0) ∧ Keep [] wq w6)
              clear O6 K6 n6
              go_wp2_with fail
              go_meet
              exact HG.out
          case rest =>
            obtain ⟨NR, KR⟩ := hcut
            obtain ⟨wy, rfl⟩ : ∃ wy : World, wy = wc := ⟨_, rfl⟩
            obtain ⟨A6, C6, rfl⟩ := NR.slice
            rw [HDL.out] at NR ⊢
            have N3 := HN2.out.keep KR (by simp)
            have NT : NumV wy w.heap.size (.slice Ao 0 Co) (s.take 0) := by
              by_cases h0 : 0 < s.length
              · exact N3.take HS.out.symm 0 (by have := HS.out; omega) h0
              · have hk0 : k = 0 := by have := HS.out; omega
                have h1 := HNI.out hk0
                simp only [Value.slice.injEq] at h1
                obtain ⟨rfl, -, rfl⟩ := h1
                have hs0 : s = [] := List.eq_nil_of_length_eq_zero (by omega)
                have hp0 : 0 = 0 := by omega
                rw [hs0, hp0]
                exact NumV.nil _ _
            have hCo : k ≤ Co := by
              have h1 := N3.row
              rcases h1.2 with ⟨h2, _⟩ | ⟨g', cap, cur, h2, _, _, h3, _⟩
              · simp only [Value.slice.injEq] at h2; omega
              · simp only [Value.slice.injEq] at h2
                have := HS.out; omega
            have e3 := KR.cell e2 (by simp)
            have hbo := HN2.out.base
            have hbR := NR.base
            have hszc := KR.size
            have a1 : ∀ o : Obj, (wy.alloc o).cell? ⟨bl, ol + k, none⟩ = some (.int .i64 x) := fun o => Keep.cell ((Keep.refl [] wy).alloc o) e3 (by simp)
            have KA : ∀ o : Obj, Keep [] wy (wy.alloc o) := fun o => (Keep.refl [] wy).alloc o
            have HX := Lib.hid (⟨NR, KR, NT, hbo, hbR, KA⟩ : _ ∧ _ ∧ _ ∧ _ ∧ _ ∧ _)
            have hpC : 0 ≤ Co := by omega
            have hpC2 : (((0 : Nat)) : Int) ≤ (Co : Int) := by omega
            clear NR KR NT N3 hbo hbR
            go_upto_region 9 with fail
            go_cut [3] from 35 to 43 (fun v wx => NumV wx w.heap.size v (s.take 0 ++ [x]) ∧ Keep (ownB (.slice Ao 0 Co)) wy wx ∧ ∀ b ∈ ownB v, b ∈ ownB (.slice Ao 0 Co) ∨ wy.heap.size ≤ b)
            case first =>
              go_region_law (refine step_append_data intRow_stab intRow_one rfl _ _ 26 rfl Tryz.underlying26 hi0 hz0 hz1 hz2 rfl (by omega) (S := []) (base := w.heap.size) (v := .slice Ao 0 Co) (A := some ⟨wy.heap.size, 0, none⟩) (m := 1) (C := 1) (xs := s.take 0) (ys := [x]) rfl rfl (HX.out.2.2.1.keep (T := []) (w := wy) (by first | exact KA _ | exact (KA _).drew | exact (KA _).drew.drew | exact (KA _).drew.drew.drew) (by simp)) (one_int (Blk.new wy #[.int .i64 x] 3) (fun hx => by have := (HX.out.2.2.1.base _ (by simpa using hx)).2; omega)) (by have := HS.out; simp <;> omega) (by have := HS.out; simp <;> omega) (by simp; omega) ?_; intro A9 C9 w9 O9 K9 n9)
              all_goals
                have hlt9 : (s.take 0).length = 0 := by have := HS.out; simp <;> omega
                rw [hlt9] at O9 n9
                have KV : Keep (ownB (.slice Ao 0 Co)) wy w9 := Keep.then (by first | exact (KA _).mono (by simp) | exact (KA _).drew.mono (by simp) | exact (KA _).drew.drew.mono (by simp)) K9 (fun b hb => .inl hb)
                have HG := Lib.hid (⟨NumV.of O9, KV, fun b hb => (n9 b hb).imp_right (fun h => by rw [h]; simp)⟩ : NumV w9 w.heap.size _ (s.take 0 ++ [x]) ∧ Keep (ownB (.slice Ao 0 Co)) wy w9 ∧ ∀ b ∈ ownB (.slice A9 (0 + [x].length) C9), b ∈ ownB (.slice Ao 0 Co) ∨ wy.heap.size ≤ b)
                clear O9 K9 n9 KV
                try rw [hlt9]
                go_wp2_with fail
                go_meet
                exact HG.out
            case rest =>
              obtain ⟨N9, K9, n9⟩ := hcut
              have aob0 : ∀ b, b ∈ ownB (.slice Ao 0 Co) → b ∈ ownB (.slice Ao k Co) := fun b hb => by cases Ao <;> exact hb
              obtain ⟨A9, C9, rfl⟩ := N9.slice
              have hl9 : (s.take 0 ++ [x]).length = 0 + 1 := by have := HS.out; simp <;> omega
              rw [hl9] at N9 n9 ⊢
              have hR9 := HX.out.1.keep K9 (fun b hb hb2 => by have h1 := (HX.out.2.2.2.1 b (aob0 b hb)).2; have h2 := (HX.out.2.2.2.2.1 b hb2).1; omega)
              have hdj : ∀ b ∈ ownB (.slice A6 (k - 0) C6), b ∉ ownB (.slice A9 (0 + 1) C9) ++ [] := fun b hb hb2 => by
                have h3 := HX.out.2.2.2.2.1 b hb
                rcases n9 b (by simpa using hb2) with h | h
                · have h1 := (HX.out.2.2.2.1 b (aob0 b h)).2; omega
                · omega
              have HY := Lib.hid (⟨N9, K9, hR9, hdj⟩ : _ ∧ _ ∧ _ ∧ _)
              clear N9 K9 n9 hR9 hdj
              go_wp2_with (at_builtin; refine Hid.out ?_)
              refine Lib.hid ?_
              have hszd := HY.out.2.1.size
              refine wpList_append_data intRow_stab intRow_one rfl _ _ 26 rfl Tryz.underlying26 hi0 hz0 hz1 hz2 rfl (by omega) (S := []) (base := w.heap.size) (v := .slice A9 (0 + 1) C9) (A := A6) (m := k - 0) (C := C6) (xs := s.take 0 ++ [x]) (ys := s.drop 0) rfl rfl
                HY.out.1 (OwnL.read (HY.out.2.2.1.any (ownB (.slice A9 (0 + 1) C9) ++ [])) intRow_stab (fun x hx => .inl hx) HY.out.2.2.2) (by rw [hl9]; have := HDL.out; omega) (by rw [hl9]; have := HDL.out; omega) (by omega) ?_
              intro A10 C10 w10 O10 K10 n10
              have KF : Keep [] w w10 := (((HB.out.2.2.trans HKq.out).trans HX.out.2.1).then HY.out.2.1 (fun b hb => .inr (HX.out.2.2.2.1 b (aob0 b hb)).1)).then K10 (fun b hb => .inr (HY.out.1.base b hb).1)
              have HN10 := Lib.hid (⟨⟨NumV.of O10, HR2.out, KF⟩, fun h => absurd h (by omega)⟩ : (NumV w10 w.heap.size (.slice A10 ((s.take 0 ++ [x]).length + (s.drop 0).length) C10) (s.take 0 ++ [x] ++ s.drop 0) ∧ Rises (l.take (k + 1)) (s.take 0 ++ [x] ++ s.drop 0) ∧ Keep [] w w10) ∧ (k + 1 = 0 → Value.slice A10 ((s.take 0 ++ [x]).length + (s.drop 0).length) C10 = .slice none 0 0))
              clear O10 K10 n10 KF HY HX
              generalize (s.take 0 ++ [x]).length + (s.drop 0).length = lz at *
              go_wp2
              go_roundw
              case rel => exact ⟨k + 1, _, by go_num, by omega, HN10⟩
              case measure => simp [intOf]; omega
        · obtain ⟨q, rfl⟩ : ∃ q, p = q + 1 := ⟨p - 1, by omega⟩
          obtain ⟨g, C', e, _, hglt, _, _, _, hcs⟩ := HB.out.1.at (by have := HS.out; omega)
          rw [HS.out] at e
          simp only [Value.slice.injEq] at e
          obtain ⟨rfl, -, rfl⟩ := e
          have c0 := KJ.cell (hcs q (by have := HS.out; omega)) (by simp)
          have hqk : (q : Int) < (k : Int) := by omega
          have hqp : (0 : Int) < (q : Int) + 1 := by omega
          by_cases hgx : x < nth s q
          · have HN : Hid (∀ j, q ≤ j → j < s.length → x < nth s j) := Lib.hid (fun j h1 h2 => by
              by_cases e : j = q
              · rw [e]; exact hgx
              · exact hgt j (by omega) h2)
            generalize nth s q = y at c0 hgx
            have hgd : decide (x < y) = true := decide_eq_true hgx
            have HKJ := Lib.hid KJ
            clear fin hgt HJ hcs hp0 KJ
            go_wp2
            go_quiet (fail)
            go_wp2
            go_roundw
            case rel => exact ⟨q, by go_num, by omega, Lib.hid ⟨HN.out, HKJ.out.drewN _⟩⟩
            case measure => simp [intOf]
          · have HR2 := fin (.inr (by simp; omega))
            generalize nth s q = y at c0 hgx
            have hgd : decide (x < y) = false := decide_eq_false hgx
            clear fin hgt HJ hcs hp0
            go_wp2
            go_quiet (fail)
            generalize hwq : wr.drewN _ = wq
            have Kq : Keep [] wo wq := by rw [← hwq]; exact KJ.drewN _
            clear hwq
            have N2 := HB.out.1.keep Kq (by simp)
            rw [HS.out] at N2
            have e2 := Kq.cell e0 (by simp)
            have hsz2 := Kq.size
            have hszw := HB.out.2.2.size
            have HKq := Lib.hid Kq
            have HN2 := Lib.hid N2
            have hdl : (s.drop (q + 1)).length = k - (q + 1) := by simp; have := HS.out; omega
            have HDL := Lib.hid hdl
            clear Kq N2 KJ hdl
            go_upto_region 8 with fail
            go_cut [6] from 31 to 34 (fun v wx => NumV wx wq.heap.size v (s.drop (q + 1)) ∧ Keep [] wq wx)
            case first =>
              obtain ⟨g2, C', e, _, hglt2, hkC, hCm, _, hcs⟩ := HN2.out.at (by have := HS.out; omega)
              rw [HS.out] at e
              simp only [Value.slice.injEq, Option.some.injEq, Addr.mk.injEq, and_true] at e
              obtain ⟨rfl, -, rfl⟩ := e
              have hkC2 := HS.out
              by_cases hCq : Co = q + 1
              · subst hCq
                have hkq : k = q + 1 := by omega
                have hd0 : s.drop (q + 1) = [] := List.eq_nil_of_length_eq_zero (by rw [HDL.out]; omega)
                have HD0 := Lib.hid hd0
                clear hd0 hcs
                subst hkq
                go_wp2_with (at_builtin; refine Hid.out ?_)
                refine Lib.hid ?_
                refine wpList_append_new intRow_stab intRow_one rfl _ _ 26 rfl Tryz.underlying26 hi0 hz0 hz1 hz2 rfl (by omega) [] wq.heap.size (some ⟨g, 0, none⟩) 0 0 rfl rfl (SlOf.emptyI _ _ _ _) (by simp) (by simp) (Nat.le_refl _) ?_
                intro A6 C6 w6 O6 K6 n6
                have HG := Lib.hid (⟨by rw [HD0.out]; exact NumV.of O6, K6⟩ : NumV w6 wq.heap.size _ (s.drop (q + 1)) ∧ Keep [] wq w6)
                clear O6 K6 n6
                go_wp2_with fail
                go_meet
                exact HG.out
              · obtain ⟨c1, hc1⟩ : ∃ c1, Co = q + 1 + (c1 + 1) := ⟨Co - (q + 2), by omega⟩
                subst hc1
                obtain ⟨t, ht⟩ : ∃ t, k = q + 1 + t := ⟨k - (q + 1), by omega⟩
                have htl : (s.drop (q + 1)).length = t := by rw [HDL.out]; omega
                have hSL : SlOf IntRow [] wq 1 (.slice (some ⟨g, q + 1, none⟩) t (c1 + 1)) (s.drop (q + 1)) := by
                  have h := SlOf.ofC (w := wq) (b := g) (o := q + 1) (C := c1 + 1) (xs := s.drop (q + 1)) (by omega) (by omega) (fun i hi => by
                    have h2 := hcs (q + 1 + i) (by omega)
                    rw [h2]
                    simp [nth])
                  rw [htl] at h
                  exact h
                have HSL := Lib.hid hSL
                have HTL := Lib.hid htl
                clear hSL hcs htl
                subst ht
                go_wp2_with (at_builtin; refine Hid.out ?_)
                refine Lib.hid ?_
                refine wpList_append_new intRow_stab intRow_one rfl _ _ 26 rfl Tryz.underlying26 hi0 hz0 hz1 hz2 rfl (by omega) [] wq.heap.size (some ⟨g, q + 1, none⟩) t (c1 + 1) rfl rfl HSL.out (by have := HTL.out; omega) (by have := HTL.out; omega) (Nat.le_refl _) ?_
                intro A6 C6 w6 O6 K6 n6
                rw [HTL.out] at O6 n6 ⊢
                have HG := Lib.hid (⟨NumV.of O6, K6⟩ : NumV w6 wq.heap.size _ (s.drop (q + 1)) ∧ Keep [] wq w6)
                clear O6 K6 n6
                go_wp2_with fail
                go_meet
                exact HG.out
            case rest =>
              obtain ⟨NR, KR⟩ := hcut
              obtain ⟨wy, rfl⟩ : ∃ wy : World, wy = wc := ⟨_, rfl⟩
              obtain ⟨A6, C6, rfl⟩ := NR.slice
              rw [HDL.out] at NR ⊢
              have N3 := HN2.out.keep KR (by simp)
              have NT : NumV wy w.heap.size (.slice (some ⟨g, 0, none⟩) (q + 1) Co) (s.take (q + 1)) := by
                exact N3.take HS.out.symm (q + 1) (by have := HS.out; omega) (by have := HS.out; omega)
              have hCo : k ≤ Co := by
                have h1 := N3.row
                rcases h1.2 with ⟨h2, _⟩ | ⟨g', cap, cur, h2, _, _, h3, _⟩
                · simp only [Value.slice.injEq] at h2; omega
                · simp only [Value.slice.injEq] at h2
                  have := HS.out; omega
              have e3 := KR.cell e2 (by simp)
              have hbo := HN2.out.base
              have hbR := NR.base
              have hszc := KR.size
              have a1 : ∀ o : Obj, (wy.alloc o).cell? ⟨bl, ol + k, none⟩ = some (.int .i64 x) := fun o => Keep.cell ((Keep.refl [] wy).alloc o) e3 (by simp)
              have KA : ∀ o : Obj, Keep [] wy (wy.alloc o) := fun o => (Keep.refl [] wy).alloc o
              have HX := Lib.hid (⟨NR, KR, NT, hbo, hbR, KA⟩ : _ ∧ _ ∧ _ ∧ _ ∧ _ ∧ _)
              have hpC : (q + 1) ≤ Co := by omega
              have hpC2 : (0 : Int) ≤ (q : Int) + 1 ∧ (q : Int) + 1 ≤ (Co : Int) := by omega
              clear NR KR NT N3 hbo hbR
              go_upto_region 9 with fail
              go_cut [3] from 35 to 43 (fun v wx => NumV wx w.heap.size v (s.take (q + 1) ++ [x]) ∧ Keep (ownB (.slice (some ⟨g, 0, none⟩) (q + 1) Co)) wy wx ∧ ∀ b ∈ ownB v, b ∈ ownB (.slice (some ⟨g, 0, none⟩) (q + 1) Co) ∨ wy.heap.size ≤ b)
              case first =>
                go_region_law (refine step_append_data intRow_stab intRow_one rfl _ _ 26 rfl Tryz.underlying26 hi0 hz0 hz1 hz2 rfl (by omega) (S := []) (base := w.heap.size) (v := .slice (some ⟨g, 0, none⟩) (q + 1) Co) (A := some ⟨wy.heap.size, 0, none⟩) (m := 1) (C := 1) (xs := s.take (q + 1)) (ys := [x]) rfl rfl (HX.out.2.2.1.keep (T := []) (w := wy) (by first | exact KA _ | exact (KA _).drew | exact (KA _).drew.drew | exact (KA _).drew.drew.drew) (by simp)) (one_int (Blk.new wy #[.int .i64 x] 3) (fun hx => by have := (HX.out.2.2.1.base _ (by simpa using hx)).2; omega)) (by have := HS.out; simp <;> omega) (by have := HS.out; simp <;> omega) (by simp; omega) ?_; intro A9 C9 w9 O9 K9 n9)
                all_goals
                  have hlt9 : (s.take (q + 1)).length = (q + 1) := by have := HS.out; simp <;> omega
                  rw [hlt9] at O9 n9
                  have KV : Keep (ownB (.slice (some ⟨g, 0, none⟩) (q + 1) Co)) wy w9 := Keep.then (by first | exact (KA _).mono (by simp) | exact (KA _).drew.mono (by simp) | exact (KA _).drew.drew.mono (by simp)) K9 (fun b hb => .inl hb)
                  have HG := Lib.hid (⟨NumV.of O9, KV, fun b hb => (n9 b hb).imp_right (fun h => by rw [h]; simp)⟩ : NumV w9 w.heap.size _ (s.take (q + 1) ++ [x]) ∧ Keep (ownB (.slice (some ⟨g, 0, none⟩) (q + 1) Co)) wy w9 ∧ ∀ b ∈ ownB (.slice A9 ((q + 1) + [x].length) C9), b ∈ ownB (.slice (some ⟨g, 0, none⟩) (q + 1) Co) ∨ wy.heap.size ≤ b)
                  clear O9 K9 n9 KV
                  try rw [hlt9]
                  go_wp2_with fail
                  go_meet
                  try rw [show min (q + 1) s.length = q + 1 by have := HS.out; omega]
                  exact HG.out
              case rest =>
                obtain ⟨N9, K9, n9⟩ := hcut
                have aob1 : ∀ b, b ∈ ownB (.slice (some ⟨g, 0, none⟩) (q + 1) Co) → b ∈ ownB (.slice (some ⟨g, 0, none⟩) k Co) := fun b hb => hb
                obtain ⟨A9, C9, rfl⟩ := N9.slice
                have hl9 : (s.take (q + 1) ++ [x]).length = (q + 1) + 1 := by have := HS.out; simp <;> omega
                rw [hl9] at N9 n9 ⊢
                have hR9 := HX.out.1.keep K9 (fun b hb hb2 => by have h1 := (HX.out.2.2.2.1 b (aob1 b hb)).2; have h2 := (HX.out.2.2.2.2.1 b hb2).1; omega)
                have hdj : ∀ b ∈ ownB (.slice A6 (k - (q + 1)) C6), b ∉ ownB (.slice A9 ((q + 1) + 1) C9) ++ [] := fun b hb hb2 => by
                  have h3 := HX.out.2.2.2.2.1 b hb
                  rcases n9 b (by simpa using hb2) with h | h
                  · have h1 := (HX.out.2.2.2.1 b (aob1 b h)).2; omega
                  · omega
                have HY := Lib.hid (⟨N9, K9, hR9, hdj⟩ : _ ∧ _ ∧ _ ∧ _)
                clear N9 K9 n9 hR9 hdj
                go_wp2_with (at_builtin; refine Hid.out ?_)
                refine Lib.hid ?_
                have hszd := HY.out.2.1.size
                refine wpList_append_data intRow_stab intRow_one rfl _ _ 26 rfl Tryz.underlying26 hi0 hz0 hz1 hz2 rfl (by omega) (S := []) (base := w.heap.size) (v := .slice A9 ((q + 1) + 1) C9) (A := A6) (m := k - (q + 1)) (C := C6) (xs := s.take (q + 1) ++ [x]) (ys := s.drop (q + 1)) rfl rfl
                  HY.out.1 (OwnL.read (HY.out.2.2.1.any (ownB (.slice A9 ((q + 1) + 1) C9) ++ [])) intRow_stab (fun x hx => .inl hx) HY.out.2.2.2) (by rw [hl9]; have := HDL.out; omega) (by rw [hl9]; have := HDL.out; omega) (by omega) ?_
                intro A10 C10 w10 O10 K10 n10
                have KF : Keep [] w w10 := (((HB.out.2.2.trans HKq.out).trans HX.out.2.1).then HY.out.2.1 (fun b hb => .inr (HX.out.2.2.2.1 b (aob1 b hb)).1)).then K10 (fun b hb => .inr (HY.out.1.base b hb).1)
                have HN10 := Lib.hid (⟨⟨NumV.of O10, HR2.out, KF⟩, fun h => absurd h (by omega)⟩ : (NumV w10 w.heap.size (.slice A10 ((s.take (q + 1) ++ [x]).length + (s.drop (q + 1)).length) C10) (s.take (q + 1) ++ [x] ++ s.drop (q + 1)) ∧ Rises (l.take (k + 1)) (s.take (q + 1) ++ [x] ++ s.drop (q + 1)) ∧ Keep [] w w10) ∧ (k + 1 = 0 → Value.slice A10 ((s.take (q + 1) ++ [x]).length + (s.drop (q + 1)).length) C10 = .slice none 0 0))
                clear O10 K10 n10 KF HY HX
                generalize (s.take (q + 1) ++ [x]).length + (s.drop (q + 1)).length = lz at *
                go_wp2
                go_roundw
                case rel => exact ⟨k + 1, _, by go_num, by omega, HN10⟩
                case measure => simp [intOf]; omega
    · obtain rfl : k = n := by omega
      have HF := Lib.hid (⟨NV, by rw [← HLN.out, List.take_length] at hR; exact hR, KW⟩ : NumV wo w.heap.size _ s ∧ Rises l s ∧ Keep [] w wo)
      rw [hsl] at HF ⊢
      clear NV hR KW HI hsl hlt
      go_wp2
      go_ret
      exact ⟨⟨_, _, rfl, HF.out.1, HF.out.2.1⟩, HF.out.2.2⟩
end Go.Proofs.YtbpidoiellcccaaGreatDoor
namespace Go.Proofs.YtbpidoiellcccaaGreatDoor
open Go Go.RowKit Go.MapKept

/-- Where there are few, there are at most 62. -/
theorem few62_any (A K : Option Addr) (C m D : Nat) (ps : List ProdS) (w : World) (HP : Prods [] w (.slice A ps.length C) ps) (hmk : m ≤ 9223372036854775807) :
    Calls Tryz.prog 10 #[.agg #[.slice A ps.length C, .slice K m D]] w fun e w' => (∃ b, e = .returned (.bool b) ∧ (b = true → ps.length ≤ 62)) ∧ Keep [] w w' := by
  by_cases h62 : 62 < ps.length
  · have K0 := (Keep.refl [] w).alloc (.cells #[.slice A ps.length C, .slice K m D] 25)
    have B0 := Blk.new w #[.slice A ps.length C, .slice K m D] 25
    have hlen1 := (SlOf.len HP).2.1
    have h62' : (62 : Int) < (ps.length : Int) := by omega
    clear HP
    go_enter Tryz.func10, Tryz.ntmps10
    go_wp2
    go_ret
    exact ⟨⟨_, rfl, fun h => by cases h⟩, K0⟩
  · exact (few_any [] A K C m D ps w HP hmk).mono fun e w' ⟨⟨b, h1⟩, h3⟩ => ⟨⟨b, h1, fun _ => by omega⟩, h3⟩
theorem SlOf.ofS {S : List Nat} {w : World} {b o C : Nat} {xs : List Int} (hb : b ∉ S) (hl : xs.length ≤ 1000000) (hC : xs.length ≤ C) (hc : ∀ i, i < xs.length → w.cell? ⟨b, o + i, none⟩ = some (.int .i64 (nth xs i))) : SlOf IntRow S w 1 (.slice (some ⟨b, o, none⟩) xs.length C) xs := by
  refine ⟨xs.map (fun x => #[Value.int .i64 x]), ⟨some ⟨b, o, none⟩, C, by simp, by simp; omega, fun _ => ⟨b, o, rfl, hb, fun i hi => ⟨by simp, fun j hj => ?_⟩⟩⟩, by simp, fun i hi hi' => by simp [IntRow]⟩
  obtain rfl : j = 0 := by omega
  have hi' : i < xs.length := by simpa using hi
  rw [show o + i * 1 + 0 = o + i by omega, hc i hi']
  simp [nth, hi']
theorem IntV.sl {S : List Nat} {w : World} {base : Nat} {v : Value} {xs : List Int} (h : IntV w base v xs) (hS : ∀ b ∈ S, b < base) : ∃ A C, v = .slice A xs.length C ∧ SlOf IntRow S w 1 (.slice A xs.length C) xs := by
  rcases h with ⟨rfl, A, C, rfl⟩ | ⟨b, o, C, rfl, h1, _, h3, h4, h5⟩
  · exact ⟨A, C, rfl, SlOf.emptyI S w A C⟩
  · refine ⟨_, C, rfl, SlOf.ofS (fun hb => by have := hS b hb; omega) h4 h3 (fun i hi => ?_)⟩
    have := (h5 i (by simpa using hi)).1
    rw [getElem!_pos _ i (by simpa using hi)] at this
    simpa [nth, hi] using this
/-- A row of numbers, as an element of a list. -/
def LRow (S : List Nat) (w : World) (xs : List Int) (row : Array Value) : Prop := ∃ A C, row = #[.slice A xs.length C] ∧ SlOf IntRow S w 1 (.slice A xs.length C) xs
theorem lRow_stab : Stab LRow := fun S T S' w w' x row ⟨A, C, e, h⟩ K hT hS => ⟨A, C, e, SlOf.move h intRow_stab (by omega) K hT hS⟩
theorem lRow_one : OneC LRow := by
  rintro S w x row ⟨A, C, rfl, _⟩ u hu
  simp at hu
  subst hu
  rfl
theorem one_row {S : List Nat} {w : World} {b : Nat} {A : Option Addr} {C : Nat} {T : TypeId} {xs : List Int} (B : Blk w b #[.slice A xs.length C] T) (hb : b ∉ S) (H : SlOf IntRow S w 1 (.slice A xs.length C) xs) : SlOf LRow S w 1 (.slice (some ⟨b, 0, none⟩) 1 1) [xs] := by
  refine ⟨[#[.slice A xs.length C]], ⟨some ⟨b, 0, none⟩, 1, rfl, by simp, fun _ => ⟨b, 0, rfl, hb, fun i hi => ?_⟩⟩, rfl, fun i hi hi' => ?_⟩
  · obtain rfl : i = 0 := by simpa using hi
    refine ⟨by simp, fun j hj => ?_⟩
    obtain rfl : j = 0 := by omega
    rw [show 0 + 0 * 1 + 0 = 0 by rfl, B.cell]
    simp
  · obtain rfl : i = 0 := by simpa using hi
    exact ⟨A, C, by simp, by simpa using H⟩
theorem OwnL.lowG {α : Type} {R : List Nat → World → α → Array Value → Prop} {S : List Nat} {w : World} {base base' : Nat} {E : TypeId} {k : Nat} {v : Value} {xs : List α} (h : OwnL R S w base E k v xs) (hb : base' ≤ base) : OwnL R S w base' E k v xs := by
  obtain ⟨rows, h1, h2, h3⟩ := h
  refine ⟨rows, h1, ⟨h2.1, ?_⟩, h3⟩
  rcases h2.2 with h4 | ⟨g, cap, cur, e, h5, rest⟩
  · exact .inl h4
  · exact .inr ⟨g, cap, cur, e, by omega, rest⟩
/-- All nonterminals' lefts. -/
def leftsA (ps : List ProdS) (k : Nat) : List (List Int) := (List.range k).map fun (n : Nat) => leftsR ps n
theorem leftsA_len (ps : List ProdS) (k : Nat) : (leftsA ps k).length = k := by simp [leftsA]
theorem leftsA_succ (ps : List ProdS) (k : Nat) : leftsA ps (k + 1) = leftsA ps k ++ [leftsR ps k] := by simp [leftsA, List.range_succ]
theorem leftsR_short (ps : List ProdS) (n : Int) : (leftsR ps n).length ≤ ps.length := nodup_short _ _ (leftsR_nodup ps n) leftsR_in
set_option maxRecDepth 20000 in
set_option maxHeartbeats 4000000 in
theorem leftsA_any (A K : Option Addr) (C m D : Nat) (ps : List ProdS) (w : World) (HP : Prods [] w (.slice A ps.length C) ps) (hN : ps.length ≤ 62) :
    Calls Tryz.prog 25 #[.agg #[.slice A ps.length C, .slice K m D]] w fun e w' => (∃ v, e = .returned v ∧ OwnL LRow [] w' w.heap.size 26 1 v (leftsA ps ps.length)) ∧ Keep [] w w' := by
  obtain ⟨i0, hi0, hz0, hz1, hz2⟩ := info_parts info_ints
  have K0 := (Keep.refl [] w).alloc (.cells #[.slice A ps.length C, .slice K m D] 25)
  have HP0 : Prods [] _ (.slice A ps.length C) ps := HP.mv0 K0
  have B0 := Blk.new w #[.slice A ps.length C, .slice K m D] 25
  have b0 := B0.cell 0
  have HH := Lib.hid (⟨HP0, B0, K0⟩ : _ ∧ _ ∧ _)
  clear HP HP0 B0 K0
  generalize hnn : ps.length = N at *
  have HNN := Lib.hid hnn
  clear hnn
  go_enter Tryz.func25, Tryz.ntmps25
  go_wp2
  go_loopw [3, 4] (fun ov iv wr => ∃ (n : Nat), iv = .int .i64 n ∧ n ≤ N ∧ Hid (OwnL LRow [] wr (w.heap.size + 1) 26 1 ov (leftsA ps n) ∧ Keep [] (w.alloc (.cells #[.slice A N C, .slice K m D] 25)) wr)) (fun _ iv _ => N - (intOf iv).toNat)
  case atStart => exact ⟨0, rfl, by omega, Lib.hid ⟨OwnL.nil _ _ _ _ _, Keep.refl _ _⟩⟩
  case round =>
    obtain ⟨n, rfl, hn, HI⟩ := hrel
    obtain ⟨A3, C3, rfl⟩ := HI.out.1.slice
    rw [leftsA_len]
    have c0 := (HH.out.2.1.keep HI.out.2 (by simp)).cell 0
    have c1 := (HH.out.2.1.keep HI.out.2 (by simp)).cell 1
    by_cases hlt : n < N
    · have hlt2 : (n : Int) < (N : Int) := by omega
      have hL := lefts9_any [] A K C m D n ps wr (by rw [HNN.out]; exact HH.out.1.mv0 HI.out.2) (by simp)
      rw [HNN.out] at hL
      have HL := Lib.hid hL
      clear hL b0
      go_wp2_with fail
      refine HL.out.mono ?_
      rintro e w1 ⟨⟨v, rfl, HV⟩, K1⟩
      have hO1 := HI.out.1
      rw [leftsA_len] at hO1
      have hbo := hO1.base
      obtain ⟨AL, CL, rfl, hSL⟩ := HV.sl (S := ownB (.slice A3 n C3) ++ []) (fun b hb => (hbo b (by simpa using hb)).2)
      have hsh := leftsR_short ps n
      rw [HNN.out] at hsh
      have HX := Lib.hid (⟨hO1.move lRow_stab (S' := []) K1 (by simp) (by simp), hSL, K1, hsh⟩ : _ ∧ _ ∧ _ ∧ _)
      clear HV hO1 hSL K1 HL hbo
      generalize hll : (leftsR ps n).length = ll at *
      have HLL := Lib.hid hll
      clear hll
      go_wp2_with (at_builtin; refine Hid.out ?_)
      refine Lib.hid ?_
      have K6 := (Keep.refl [] w1).alloc (.cells #[.slice AL ll CL] 26)
      have hbx := HX.out.1.base
      refine wpList_append_data lRow_stab lRow_one rfl _ _ 58 rfl Tryz.underlying58 hi0 hz0 hz1 hz2 rfl (by omega) (S := []) (base := w.heap.size + 1) (v := .slice A3 n C3) (A := some ⟨w1.heap.size, 0, none⟩) (m := 1) (C := 1) (xs := leftsA ps n) (ys := [leftsR ps n]) rfl rfl
        (HX.out.1.move lRow_stab K6 (by simp) (by simp)) (by
          have h := one_row (S := ownB (.slice A3 n C3) ++ []) (w := w1.alloc (.cells #[.slice AL ll CL] 26)) (b := w1.heap.size) (A := AL) (C := CL) (T := 26) (xs := leftsR ps n) (by rw [HLL.out]; exact Blk.new w1 _ _) (fun hx => by have := (hbx _ (by simpa using hx)).2; omega) (by have h := HX.out.2.1; rw [HLL.out]; exact SlOf.move h intRow_stab (by omega) K6 (by simp) (fun x hx => .inl hx))
          exact h) (by rw [leftsA_len]; simp; omega) (by rw [leftsA_len]; simp; omega) (by have h1 := HI.out.2.size; have h2 := HX.out.2.2.1.size; simp at h1 ⊢; omega) ?_
      intro A9 C9 w9 O9 K9 n9
      rw [← leftsA_succ] at O9
      have HN2 := Lib.hid (⟨O9, ((HI.out.2.trans HX.out.2.2.1).trans K6).then K9 (fun b hb => .inr ?_)⟩ : OwnL LRow [] w9 (w.heap.size + 1) 26 1 _ (leftsA ps (n + 1)) ∧ Keep [] (w.alloc (.cells #[.slice A N C, .slice K m D] 25)) w9)
      · clear O9 K9 n9 K6 hbx HX
        generalize (leftsA ps n).length + [leftsR ps n].length = lz at *
        go_wp2
        go_roundw
        case rel => exact ⟨n + 1, by go_num, by omega, HN2⟩
        case measure => simp [intOf]; omega
      · have h1 := (HI.out.1.base b (by rw [leftsA_len]; exact hb)).1
        simp; omega
    · obtain rfl : n = N := by omega
      have HF := Lib.hid (⟨by rw [HNN.out]; have h := HI.out.1; rw [leftsA_len] at h; exact h.lowG (by omega), HH.out.2.2.trans HI.out.2⟩ : OwnL LRow [] wr w.heap.size 26 1 (.slice A3 n C3) (leftsA ps ps.length) ∧ Keep [] w wr)
      rw [HNN.out] at HF
      clear hlt b0
      go_wp2
      go_ret
      exact ⟨⟨_, rfl, HF.out.1⟩, HF.out.2⟩
end Go.Proofs.YtbpidoiellcccaaGreatDoor
namespace Go.Proofs.YtbpidoiellcccaaGreatDoor
open Go Go.RowKit Go.MapKept

def gB (bs : List Bool) (x : Nat) : Bool := bs.getD x false
theorem gB_set (bs : List Bool) (n x : Nat) (h : n < bs.length) : gB (bs.set n true) x = if x = n then true else gB bs x := getD_set bs n x true false h
theorem gB_at (bs : List Bool) (i : Nat) (h : i < bs.length) : bs[i] = gB bs i := by simp [gB, h]
theorem falses_less : ∀ {a b : List Bool}, a.length = b.length → (∀ x, gB a x = true → gB b x = true) → falses b < falses a ∨ a = b
  | [], [], _, _ => .inr rfl
  | [], _ :: _, h, _ => absurd h (by simp)
  | _ :: _, [], h, _ => absurd h (by simp)
  | x :: a, y :: b, h, hx => by
    have ih := falses_less (a := a) (b := b) (by simpa using h) (fun z hz => by have := hx (z + 1); simpa [gB] using this (by simpa [gB] using hz))
    have h2 : x = true → y = true := by have := hx 0; simpa [gB] using this
    have hle : falses b ≤ falses a := by
      rcases ih with h | rfl
      · omega
      · omega
    unfold falses at *
    cases x <;> cases y <;> simp at h2 ⊢
    · rcases ih with h | rfl
      · exact .inl h
      · exact .inr rfl
    · omega
    · rcases ih with h | rfl
      · exact .inl h
      · exact .inr rfl
theorem falses_none0 : ∀ {bs : List Bool}, falses bs = 0 → ∀ x, x < bs.length → gB bs x = true := by
  intro bs h x hx
  unfold falses at h
  rw [List.countP_eq_zero] at h
  have := h bs[x] (List.getElem_mem hx)
  rw [← gB_at bs x hx]
  simpa using this
/-- All that are marked are come to. -/
def Sd (ps : List ProdS) (n : Nat) (bs : List Bool) : Prop := bs.length = ps.length ∧ ∀ m, gB bs m = true → Comes (lfP ps) n m
/-- The marks are shut. -/
def Cl (ps : List ProdS) (n : Nat) (bs : List Bool) : Prop := ∀ i, (i = n ∨ gB bs i = true) → ∀ z, lfP ps i z = true → gB bs z = true
/-- In a round: i have been passed, and z of the next one's lefts (Z). -/
structure PassI (ps : List ProdS) (n : Nat) (b0 bs : List Bool) (i : Nat) (Z : List Int) : Prop where
  sd : Sd ps n bs
  up : ∀ x, gB b0 x = true → gB bs x = true
  keep : Cl ps n b0 → bs = b0
  shut : bs = b0 → (∀ k, k < i → (k = n ∨ gB b0 k = true) → ∀ z, lfP ps k z = true → gB b0 z = true) ∧ ∀ z ∈ Z, gB b0 z.toNat = true
theorem PassI.start {ps : List ProdS} {n : Nat} {bs : List Bool} (h : Sd ps n bs) : PassI ps n bs bs 0 [] := ⟨h, fun _ h => h, fun _ => rfl, fun _ => ⟨fun k hk => by omega, by simp⟩⟩
theorem PassI.skip {ps : List ProdS} {n i : Nat} {b0 bs : List Bool} (h : PassI ps n b0 bs i []) (h1 : i ≠ n) (h2 : gB bs i = false) : PassI ps n b0 bs (i + 1) [] :=
  ⟨h.sd, h.up, h.keep, fun e => ⟨fun k hk hkn z hz => by
    by_cases ek : k = i
    · subst ek
      rcases hkn with hkn | hkn
      · exact absurd hkn h1
      · rw [← e, h2] at hkn; cases hkn
    · exact (h.shut e).1 k (by omega) hkn z hz, by simp⟩⟩
theorem PassI.mark {ps : List ProdS} {n i m : Nat} {b0 bs : List Bool} {Z : List Int} (h : PassI ps n b0 bs i Z) (hi : i = n ∨ gB bs i = true) (hl : lfP ps i m = true) : PassI ps n b0 (bs.set m true) i (Z ++ [(m : Int)]) := by
  have hml : m < bs.length := by rw [h.sd.1]; exact (lfP_lt hl).2
  have hcm : Comes (lfP ps) n m := by
    rcases hi with rfl | hi
    · exact .one hl
    · exact (h.sd.2 i hi).snoc hl
  refine ⟨⟨by rw [List.length_set]; exact h.sd.1, fun k hk => ?_⟩, fun x hx => ?_, fun hc => ?_, fun e => ?_⟩
  · rw [gB_set _ _ _ hml] at hk
    split at hk
    · rename_i e; rw [e]; exact hcm
    · exact h.sd.2 k hk
  · rw [gB_set _ _ _ hml]
    split
    · rfl
    · exact h.up x hx
  · have e := h.keep hc
    subst e
    have h3 : gB bs m = true := hc i hi m hl
    refine List.ext_getElem (by simp) (fun x h4 h5 => ?_)
    rw [List.getElem_set]
    split
    · rename_i e; subst e; rw [gB_at bs m hml, h3]
    · rfl
  · have h3 : gB b0 m = true := by rw [← e, gB_set _ _ _ hml, if_pos rfl]
    have e2 : bs = b0 := by
      rcases falses_less (a := b0) (b := bs) (by rw [← e, List.length_set]) h.up with h4 | h4
      · exfalso
        have h5 : falses (bs.set m true) ≤ falses bs := by
          rcases falses_less (a := bs) (b := bs.set m true) (by simp) (fun x hx => by rw [gB_set _ _ _ hml]; split <;> simp [hx]) with h6 | h6
          · omega
          · rw [← h6]; exact Nat.le_refl _
        rw [e] at h5
        omega
      · exact h4.symm
    have hs := h.shut e2
    refine ⟨hs.1, fun z hz => ?_⟩
    rcases List.mem_append.1 hz with h6 | h6
    · exact hs.2 z h6
    · rw [List.mem_singleton.1 h6]; simpa using h3
theorem PassI.next {ps : List ProdS} {n i : Nat} {b0 bs : List Bool} (h : PassI ps n b0 bs i (leftsR ps i)) : PassI ps n b0 bs (i + 1) [] :=
  ⟨h.sd, h.up, h.keep, fun e => ⟨fun k hk hkn z hz => by
    by_cases ek : k = i
    · subst ek
      have := (h.shut e).2 z ((lfP_mem (lfP_lt hz).1).1 hz)
      simpa using this
    · exact (h.shut e).1 k (by omega) hkn z hz, by simp⟩⟩
/-- Behind k rounds. -/
def RndI (ps : List ProdS) (n : Nat) (bs : List Bool) (k : Nat) : Prop := Sd ps n bs ∧ (Cl ps n bs ∨ falses bs + k ≤ ps.length)
theorem RndI.start (ps : List ProdS) (n : Nat) : RndI ps n (List.replicate ps.length false) 0 := by
  refine ⟨⟨by simp, fun m hm => ?_⟩, .inr (by simp [falses, List.countP_replicate])⟩
  unfold gB at hm
  rw [List.getD_eq_getElem?_getD, List.getElem?_replicate] at hm
  split at hm <;> simp at hm
theorem RndI.next {ps : List ProdS} {n k : Nat} {b0 bs : List Bool} (h : RndI ps n b0 k) (h2 : PassI ps n b0 bs ps.length []) : RndI ps n bs (k + 1) := by
  refine ⟨h2.sd, ?_⟩
  have hcl : bs = b0 → Cl ps n b0 := fun e i hi z hz => (h2.shut e).1 i (lfP_lt hz).1 hi z hz
  rcases falses_less (a := b0) (b := bs) (by rw [h.1.1, h2.sd.1]) h2.up with h3 | h3
  · rcases h.2 with h4 | h4
    · rw [h2.keep h4]; exact .inl h4
    · exact .inr (by omega)
  · subst h3; exact .inl (hcl rfl)
theorem RndI.done {ps : List ProdS} {n : Nat} {bs : List Bool} (h : RndI ps n bs ps.length) : ∀ m, gB bs m = true ↔ Comes (lfP ps) n m := by
  have hcl : Cl ps n bs := by
    rcases h.2 with h1 | h1
    · exact h1
    · intro i _ z hz
      exact falses_none0 (by omega) z (by rw [h.1.1]; exact (lfP_lt hz).2)
  intro m
  refine ⟨h.1.2 m, fun hc => ?_⟩
  have key : ∀ {a b : Nat}, Comes (lfP ps) a b → (a = n ∨ gB bs a = true) → gB bs b = true := fun h2 => by
    induction h2 with
    | one h2 => exact fun ha => hcl _ ha _ h2
    | more h2 _ ih => exact fun ha => ih (.inr (hcl _ ha _ h2))
  exact key hc (.inl rfl)
set_option maxRecDepth 20000 in
set_option maxHeartbeats 4000000 in
theorem comesR_any (A : Option Addr) (C : Nat) (ps : List ProdS) (n : Nat) (w : World) (H : SlOf LRow [] w 1 (.slice A ps.length C) (leftsA ps ps.length)) (hN : ps.length ≤ 62) :
    Calls Tryz.prog 31 #[.slice A ps.length C, .int .i64 n] w fun e w' => (∃ bs, e = .returned (.slice (some ⟨w.heap.size, 0, none⟩) ps.length ps.length) ∧ Blk w' w.heap.size (boolC bs) 4 ∧ bs.length = ps.length ∧ ∀ m, gB bs m = true ↔ Comes (lfP ps) n m) ∧ Keep [] w w' := by
  have hmb := fun w => make_bools w ps.length (by omega)
  obtain ⟨A', C', hv, _, hr⟩ := SlOf.at H
  simp only [Value.slice.injEq] at hv
  obtain ⟨rfl, -, rfl⟩ := hv
  have hrow : ∀ i, i < ps.length → ∃ b o Ai Ci, A = some ⟨b, o, none⟩ ∧ w.cell? ⟨b, o + i, none⟩ = some (.slice Ai (leftsR ps i).length Ci) ∧ ((leftsR ps i).length ≤ 1000000 ∧ ∀ j, j < (leftsR ps i).length → ∃ c p, Ai = some ⟨c, p, none⟩ ∧ w.cell? ⟨c, p + j, none⟩ = some (.int .i64 (nth (leftsR ps i) j))) := fun i hi => by
    obtain ⟨b, o, e, _, h1⟩ := hr (by rw [leftsA_len]; omega)
    obtain ⟨row, _, h2, h3⟩ := h1 i (by rw [leftsA_len]; exact hi)
    have e2 : (leftsA ps ps.length)[i]'(by rw [leftsA_len]; exact hi) = leftsR ps i := by simp [leftsA]
    rw [e2] at h3
    obtain ⟨Ai, Ci, e3, h4⟩ := h3
    have h5 := h2 0 (by omega)
    rw [e3] at h5
    have hsh := leftsR_short ps i
    refine ⟨b, o, Ai, Ci, e, by simpa using h5, by omega, fun j hj => ?_⟩
    obtain ⟨Ai', Ci', e5, _, h6⟩ := IntC.data h4 (by omega)
    simp only [Value.slice.injEq] at e5
    obtain ⟨rfl, -, rfl⟩ := e5
    obtain ⟨c, p, e6, h7⟩ := h6 (by omega)
    exact ⟨c, p, e6, by rw [h7 j hj]; simp [nth, hj]⟩
  have HRW := Lib.hid hrow
  have HST := Lib.hid (⟨⟨Blk.new w (boolC (List.replicate ps.length false)) 4, (Keep.refl [] w).alloc _⟩, RndI.start ps n⟩ : (Blk (w.alloc (.cells (boolC (List.replicate ps.length false)) 4)) w.heap.size (boolC (List.replicate ps.length false)) 4 ∧ Keep [] w (w.alloc (.cells (boolC (List.replicate ps.length false)) 4))) ∧ RndI ps n (List.replicate ps.length false) 0)
  clear H hr hrow
  generalize hnn : ps.length = N at *
  have HNN := Lib.hid hnn
  clear hnn
  go_enter Tryz.func31, Tryz.ntmps31
  go_wp2
  go_loopw [6] (fun kv wr => ∃ (k : Nat) (bs : List Bool), kv = .int .i64 k ∧ k ≤ N ∧ Hid ((Blk wr w.heap.size (boolC bs) 4 ∧ Keep [] w wr) ∧ RndI ps n bs k)) (fun kv _ => N - (intOf kv).toNat)
  case atStart => exact ⟨0, _, rfl, by omega, HST⟩
  case round =>
    obtain ⟨k, b0, rfl, hk, HI⟩ := hrel
    by_cases hkN : k < N
    · have hkN2 : (k : Int) < (N : Int) := by omega
      have HPS := Lib.hid (⟨HI.out.1, PassI.start HI.out.2.1⟩ : (Blk wr w.heap.size (boolC b0) 4 ∧ Keep [] w wr) ∧ PassI ps n b0 b0 0 [])
      obtain ⟨wo, rfl⟩ : ∃ wo : World, wo = wr := ⟨_, rfl⟩
      go_wp2
      go_loopw [7] (fun iv wr => ∃ (i : Nat) (bs : List Bool), iv = .int .i64 i ∧ i ≤ N ∧ Hid ((Blk wr w.heap.size (boolC bs) 4 ∧ Keep [] w wr) ∧ PassI ps n b0 bs i [])) (fun iv _ => N - (intOf iv).toNat)
      case atStart => exact ⟨0, _, rfl, by omega, HPS⟩
      case round =>
        obtain ⟨i, bs, rfl, hi, HJ⟩ := hrel
        by_cases hiN : i < N
        · have hiN2 : (i : Int) < (N : Int) := by omega
          have hbl : bs.length = N := by rw [HJ.out.2.sd.1]; exact HNN.out
          have t0 := HJ.out.1.1.cell i
          rw [boolC_at _ _ (by rw [hbl]; exact hiN), gB_at] at t0
          by_cases hgo : i = n ∨ gB bs i = true
          · have HGO := Lib.hid hgo
            have HST3 := Lib.hid (⟨HJ.out.1, by simpa using HJ.out.2⟩ : (Blk wr w.heap.size (boolC bs) 4 ∧ Keep [] w wr) ∧ PassI ps n b0 bs i ((leftsR ps i).take 0))
            obtain ⟨wj, rfl⟩ : ∃ wj : World, wj = wr := ⟨_, rfl⟩
            obtain ⟨b, o, Ai, Ci, rfl, r0, hll, hrc⟩ := HRW.out i hiN
            have HRC := Lib.hid hrc
            have HR0 := Lib.hid r0
            clear hrc
            generalize hL : leftsR ps i = L at *
            have HL := Lib.hid hL
            clear hL
            by_cases hin : i = n
            · have hin2 : ((i : Int) == (n : Int)) = true := by simp [hin]
              clear hgo hin r0
              go_wp2
              go_loopw [8] (fun jv wr => ∃ (j : Nat) (cs : List Bool), jv = .int .i64 j ∧ j ≤ L.length ∧ Hid ((Blk wr w.heap.size (boolC cs) 4 ∧ Keep [] w wr) ∧ PassI ps n b0 cs i (L.take j) ∧ (i = n ∨ gB cs i = true))) (fun jv _ => L.length - (intOf jv).toNat)
              case atStart => exact ⟨0, _, rfl, by omega, Lib.hid ⟨HST3.out.1, HST3.out.2, HGO.out⟩⟩
              case round =>
                obtain ⟨j, cs, rfl, hj, HQ⟩ := hrel
                have r1 := HQ.out.1.2.cell HR0.out (by simp)
                by_cases hjl : j < L.length
                · obtain ⟨c, p, rfl, e0⟩ := HRC.out j hjl
                  have e1 := HQ.out.1.2.cell e0 (by simp)
                  have hmm : nth L j ∈ L := by simp [nth, hjl]
                  have hin3 := leftsR_in (ps := ps) (n := (i : Int)) (nth L j) (by rw [HL.out]; exact hmm)
                  obtain ⟨q, hq⟩ : ∃ q : Nat, nth L j = q := ⟨(nth L j).toNat, by omega⟩
                  rw [hq] at e1 hin3
                  have hqN : q < N := by have := HNN.out; omega
                  have hlq : lfP ps i q = true := (lfP_mem (by rw [HNN.out]; exact hiN)).2 (by rw [HL.out, ← hq]; exact hmm)
                  have hcl : cs.length = N := by rw [HQ.out.2.1.sd.1]; exact HNN.out
                  have u0 := HQ.out.1.1.cell q
                  rw [boolC_at _ _ (by rw [hcl]; exact hqN)] at u0
                  have u1 := HQ.out.1.1.frozen q
                  have hmk := HQ.out.2.1.mark HQ.out.2.2 hlq
                  have htk : L.take (j + 1) = L.take j ++ [(q : Int)] := by rw [List.take_succ_eq_append_getElem hjl, ← hq]; simp [nth, hjl]
                  rw [← htk] at hmk
                  have hgn : i = n ∨ gB (cs.set q true) i = true := HQ.out.2.2.imp_right (fun h => by rw [gB_set _ _ _ (by rw [hcl]; exact hqN)]; split <;> simp [h])
                  have BS := HQ.out.1.1.set q (.bool true)
                  rw [boolC_set] at BS
                  have HN := Lib.hid (⟨⟨BS, HQ.out.1.2.setCell (.inr (Nat.le_refl _)) _⟩, hmk, hgn⟩ : (Blk (wr.setCell ⟨w.heap.size, q, none⟩ (.bool true)) w.heap.size (boolC (cs.set q true)) 4 ∧ Keep [] w (wr.setCell ⟨w.heap.size, q, none⟩ (.bool true))) ∧ PassI ps n b0 (cs.set q true) i (L.take (j + 1)) ∧ (i = n ∨ gB (cs.set q true) i = true))
                  have hjl2 : (j : Int) < (L.length : Int) := by omega
                  have hqN2 : (q : Int) < (N : Int) := by omega
                  clear BS hmk htk hlq hgn hin3 hmm hq HQ e0
                  generalize cs[q]'(by omega) = old at u0
                  go_wp2
                  go_roundw
                  case rel => exact ⟨j + 1, _, by go_num, by omega, HN⟩
                  case measure => simp [intOf]; omega
                · obtain rfl : j = L.length := by omega
                  have HN := Lib.hid (⟨HQ.out.1, PassI.next (by have h := HQ.out.2.1; rw [List.take_length] at h; rw [HL.out]; exact h)⟩ : (Blk wr w.heap.size (boolC cs) 4 ∧ Keep [] w wr) ∧ PassI ps n b0 cs (i + 1) [])
                  clear HQ hjl HST3
                  go_wp2
                  go_roundw
                  case rel => exact ⟨i + 1, cs, by go_num, by omega, HN⟩
                  case measure => simp [intOf]; omega
            · have hin2 : ((i : Int) == (n : Int)) = false := by simp; omega
              have hgt : gB bs i = true := by rcases hgo with h | h; exact absurd h hin; exact h
              rw [hgt] at t0
              clear hgo hin hgt r0
              go_wp2
              go_loopw [8] (fun jv wr => ∃ (j : Nat) (cs : List Bool), jv = .int .i64 j ∧ j ≤ L.length ∧ Hid ((Blk wr w.heap.size (boolC cs) 4 ∧ Keep [] w wr) ∧ PassI ps n b0 cs i (L.take j) ∧ (i = n ∨ gB cs i = true))) (fun jv _ => L.length - (intOf jv).toNat)
              case atStart => exact ⟨0, _, rfl, by omega, Lib.hid ⟨HST3.out.1, HST3.out.2, HGO.out⟩⟩
              case round =>
                obtain ⟨j, cs, rfl, hj, HQ⟩ := hrel
                have r1 := HQ.out.1.2.cell HR0.out (by simp)
                by_cases hjl : j < L.length
                · obtain ⟨c, p, rfl, e0⟩ := HRC.out j hjl
                  have e1 := HQ.out.1.2.cell e0 (by simp)
                  have hmm : nth L j ∈ L := by simp [nth, hjl]
                  have hin3 := leftsR_in (ps := ps) (n := (i : Int)) (nth L j) (by rw [HL.out]; exact hmm)
                  obtain ⟨q, hq⟩ : ∃ q : Nat, nth L j = q := ⟨(nth L j).toNat, by omega⟩
                  rw [hq] at e1 hin3
                  have hqN : q < N := by have := HNN.out; omega
                  have hlq : lfP ps i q = true := (lfP_mem (by rw [HNN.out]; exact hiN)).2 (by rw [HL.out, ← hq]; exact hmm)
                  have hcl : cs.length = N := by rw [HQ.out.2.1.sd.1]; exact HNN.out
                  have u0 := HQ.out.1.1.cell q
                  rw [boolC_at _ _ (by rw [hcl]; exact hqN)] at u0
                  have u1 := HQ.out.1.1.frozen q
                  have hmk := HQ.out.2.1.mark HQ.out.2.2 hlq
                  have htk : L.take (j + 1) = L.take j ++ [(q : Int)] := by rw [List.take_succ_eq_append_getElem hjl, ← hq]; simp [nth, hjl]
                  rw [← htk] at hmk
                  have hgn : i = n ∨ gB (cs.set q true) i = true := HQ.out.2.2.imp_right (fun h => by rw [gB_set _ _ _ (by rw [hcl]; exact hqN)]; split <;> simp [h])
                  have BS := HQ.out.1.1.set q (.bool true)
                  rw [boolC_set] at BS
                  have HN := Lib.hid (⟨⟨BS, HQ.out.1.2.setCell (.inr (Nat.le_refl _)) _⟩, hmk, hgn⟩ : (Blk (wr.setCell ⟨w.heap.size, q, none⟩ (.bool true)) w.heap.size (boolC (cs.set q true)) 4 ∧ Keep [] w (wr.setCell ⟨w.heap.size, q, none⟩ (.bool true))) ∧ PassI ps n b0 (cs.set q true) i (L.take (j + 1)) ∧ (i = n ∨ gB (cs.set q true) i = true))
                  have hjl2 : (j : Int) < (L.length : Int) := by omega
                  have hqN2 : (q : Int) < (N : Int) := by omega
                  clear BS hmk htk hlq hgn hin3 hmm hq HQ e0
                  generalize cs[q]'(by omega) = old at u0
                  go_wp2
                  go_roundw
                  case rel => exact ⟨j + 1, _, by go_num, by omega, HN⟩
                  case measure => simp [intOf]; omega
                · obtain rfl : j = L.length := by omega
                  have HN := Lib.hid (⟨HQ.out.1, PassI.next (by have h := HQ.out.2.1; rw [List.take_length] at h; rw [HL.out]; exact h)⟩ : (Blk wr w.heap.size (boolC cs) 4 ∧ Keep [] w wr) ∧ PassI ps n b0 cs (i + 1) [])
                  clear HQ hjl HST3
                  go_wp2
                  go_roundw
                  case rel => exact ⟨i + 1, cs, by go_num, by omega, HN⟩
                  case measure => simp [intOf]; omega
          · have hin2 : ((i : Int) == (n : Int)) = false := by simp; exact fun h => hgo (.inl (by omega))
            have hgf : gB bs i = false := by cases h : gB bs i with
              | false => rfl
              | true => exact absurd (.inr h) hgo
            rw [hgf] at t0
            have HN := Lib.hid (⟨HJ.out.1, HJ.out.2.skip (fun h => hgo (.inl h)) hgf⟩ : (Blk wr w.heap.size (boolC bs) 4 ∧ Keep [] w wr) ∧ PassI ps n b0 bs (i + 1) [])
            clear hgo hgf HJ
            go_wp2
            go_roundw
            case rel => exact ⟨i + 1, bs, by go_num, by omega, HN⟩
            case measure => simp [intOf]; omega
        · obtain rfl : i = N := by omega
          have HN := Lib.hid (⟨HJ.out.1, HI.out.2.next (by rw [HNN.out]; exact HJ.out.2)⟩ : (Blk wr w.heap.size (boolC bs) 4 ∧ Keep [] w wr) ∧ RndI ps n bs (k + 1))
          clear HJ hiN HPS
          go_wp2
          go_roundw
          case rel => exact ⟨k + 1, bs, by go_num, by omega, HN⟩
          case measure => simp [intOf]; omega
    · obtain rfl : k = N := by omega
      have HF := Lib.hid (⟨HI.out.1.1, by rw [HI.out.2.1.1]; exact HNN.out, RndI.done (by rw [HNN.out]; exact HI.out.2), HI.out.1.2⟩ : _ ∧ b0.length = k ∧ (∀ m, gB b0 m = true ↔ Comes (lfP ps) n m) ∧ _)
      clear hkN HI
      go_wp2
      go_ret
      exact ⟨⟨_, rfl, HF.out.1, HF.out.2.1, HF.out.2.2.1⟩, HF.out.2.2.2⟩
end Go.Proofs.YtbpidoiellcccaaGreatDoor
