/- The law StrataWho, as its row and its card state it: for every input it answers true and the arguments read as before. -/
import Derived.Test.YtkminfdblimiiaaGreatDoorJSF
import Derived.Test.YtkminfdblimiiaaGreatDoorJ20
set_option linter.unusedVariables false
set_option linter.unusedSimpArgs false
namespace Go.Proofs.YtkminfdblimiiaaGreatDoor
open Go Go.RowKit Go.MapKept

theorem filt_at {w : World} {bp op C : Nat} {ps : List ProdS} (HP : Prods [] w (.slice (some ⟨bp, op, none⟩) ps.length C) ps) {n : Nat} (hn : n < ps.length) :
    ∃ a0 c2, w.cell? ⟨bp, op + n * 3, none⟩ = some a0 ∧ w.cell? ⟨bp, op + n * 3 + 1, none⟩ = some (.int .i64 (mk ps n)) ∧ w.cell? ⟨bp, op + n * 3 + 2, none⟩ = some c2 ∧ Calls Tryz.prog 14 #[.agg #[a0, .int .i64 (mk ps n), c2]] w fun e w'' => e = .returned (.bool (filtN ps n)) ∧ Keep [] w w'' := by
  obtain ⟨b', o', A2, C2, N2, F2, he, _, e0, e1, e2, _, _⟩ := HP.pick n hn
  simp only [Option.some.injEq, Addr.mk.injEq, and_true] at he
  obtain ⟨rfl, rfl⟩ := he
  have h := filt_any (.slice A2 ps[n].a.length C2) ps[n].marks N2 ps[n].nt.length F2 w
  have hfb : (hasM ps[n].marks 3 || decide (0 < ps[n].nt.length)) = filtN ps n := by rw [filtN_at hn]; rfl
  rw [hfb] at h
  rw [mk_at hn]
  exact ⟨_, _, e0, e1, e2, h⟩
set_option maxRecDepth 20000 in
set_option maxHeartbeats 4000000 in
theorem strataWho_walk (A K : Option Addr) (C m D : Nat) (ps : List ProdS) (w : World) (HP : Prods [] w (.slice A ps.length C) ps) (hmk : m ≤ 9223372036854775807) :
    Calls Tryz.prog 6 #[.agg #[.slice A ps.length C, .slice K m D]] w fun e w' => e = .returned (.bool true) ∧ Keep [] w w' := by
  have K0 := (Keep.refl [] w).alloc (.cells #[.slice A ps.length C, .slice K m D] 25)
  have HP0 : Prods [] _ (.slice A ps.length C) ps := HP.mv0 K0
  have B0 := Blk.new w #[.slice A ps.length C, .slice K m D] 25
  have hlp := (SlOf.len HP).2.1
  clear HP
  go_enter Tryz.func6, Tryz.ntmps6
  go_wp2_with fail
  refine (awake12_any _).mono ?_
  rintro e w1 ⟨rfl, K1⟩
  have B1 := B0.keep K1 (by simp)
  have b1 := B1.cell
  have HP1 : Prods [] w1 (.slice A ps.length C) ps := HP0.mv0 K1
  go_wp2_with fail
  refine (few_any [] A K C m D ps _ HP1 hmk).mono ?_
  rintro e w2 ⟨⟨fw, rfl⟩, K2⟩
  have B2 := B1.keep K2 (by simp)
  have b2 := B2.cell
  have HP2 : Prods [] w2 (.slice A ps.length C) ps := HP1.mv0 K2
  have KF2 := (K0.trans K1).trans K2
  clear HP0 HP1 B0 B1 b1
  cases fw with
  | false =>
    clear HP2
    go_wp2
    go_ret
    exact ⟨rfl, KF2⟩
  | true =>
    have hc3 := may_any [] (.slice A ps.length C) (.slice K m D) ps _ HP2
    have HC3 := Lib.hid hc3
    clear hc3
    go_wp2_with fail
    refine HC3.out.mono ?_
    rintro e w3 ⟨rfl, K3⟩
    have B3 := B2.keep K3 (by simp)
    have b3 := B3.cell
    have HP3 : Prods [] w3 (.slice A ps.length C) ps := HP2.mv0 K3
    have KF3 := KF2.trans K3
    clear HP2 B2 b2 HC3
    cases hg : gmay ps with
    | false =>
      clear HP3
      go_wp2
      go_ret
      exact ⟨rfl, KF3⟩
    | true =>
      obtain ⟨hl0, hl1⟩ := gmay_len hg
      obtain ⟨bp, op, _, _, _, _, rfl, -, -, -, -, -, -⟩ := HP3.pick 0 hl0
      have HPP := Lib.hid HP3
      have HBB := Lib.hid B3
      have HKF := Lib.hid KF3
      have HMK := Lib.hid (fun k (hk : k < ps.length) => (⟨mk_at hk, mk_in hg hk⟩ : mk ps k = ps[k].marks ∧ 0 ≤ mk ps k ∧ mk ps k ≤ 63))
      have HLA := Lib.hid (fun n (hn : n < ps.length) => (by have h := laid_acc2 hg hn; simp only [ne_bne] at h; exact h : laidP ps n = accB false (fun i => (decide (i = n) || (fromF ps n).getD i false) && (mk ps i / 4 % 8 != 0)) ps.length))
      have HBA := Lib.hid (bad_acc hg)
      have HBQ : Hid (badR ps = -1 ∨ ∃ q : Nat, badR ps = q ∧ q < ps.length ∧ filtN ps q = true ∧ badP ps q = true) := Lib.hid (by
        rcases bad_cases hg with ⟨h, _⟩ | ⟨q, h1, h2, h3, h4, _⟩
        · exact .inl h
        · exact .inr ⟨q, h1, h2, h3, h4⟩)
      have HLQ : Hid (laidR ps = -1 ∨ ∃ q : Nat, laidR ps = q ∧ q < ps.length ∧ filtN ps q = true ∧ laidP ps q = true) := Lib.hid (by
        rcases laid_cases hg with ⟨h, _⟩ | ⟨q, h1, h2, h3, h4, _⟩
        · exact .inl h
        · exact .inr ⟨q, h1, h2, h3, h4⟩)
      have HCB := Lib.hid (bad12_any _ K C m D ps _ HP3)
      have HCL := Lib.hid (fun w' (K' : Keep [] w3 w') => laid12_any _ K C m D ps w' (HP3.mv0 K'))
      have hbb : -1 ≤ badR ps ∧ badR ps < ps.length := by rcases HBQ.out with h | ⟨q, h, h2, _⟩ <;> omega
      have hll : -1 ≤ laidR ps ∧ laidR ps < ps.length := by rcases HLQ.out with h | ⟨q, h, h2, _⟩ <;> omega
      obtain ⟨hb1, hb2⟩ := hbb
      obtain ⟨hll1, hll2⟩ := hll
      generalize badR ps = bR at HBQ HCB hb1 hb2
      generalize laidR ps = lR at HLQ HCL hll1 hll2
      have hc1 : decide (bR < -1) = false := by simp; omega
      have hc2 : decide ((ps.length : Int) ≤ bR) = false := by simp; omega
      have hc3 : decide (lR < -1) = false := by simp; omega
      have hc4 : decide ((ps.length : Int) ≤ lR) = false := by simp; omega
      clear HP3 B3 KF3
      go_wp2_with fail
      refine HCB.out.mono ?_
      rintro e w4 ⟨rfl, K4⟩
      have b4 := (HBB.out.keep K4 (by simp)).cell
      have HCL4 := Lib.hid (HCL.out _ K4)
      clear HCB b3
      go_wp2_with fail
      refine HCL4.out.mono ?_
      rintro e w5 ⟨rfl, K5⟩
      have K35 := K4.trans K5
      have b5 := (HBB.out.keep K35 (by simp)).cell
      have HX5 := Lib.hid K35
      clear HCL4 HCL b4 K4 K5 K35
      rcases HBQ.out with rfl | ⟨n, rfl, hn, hnf, hnp⟩
      · have HX := HX5
        clear HBQ
        rcases HLQ.out with rfl | ⟨q, rfl, hq, hqf, hqp⟩
        · go_wp2
          go_ret
          exact ⟨rfl, HKF.out.trans HX.out⟩
        · have hd2 : decide ((q : Int) < 0) = false := by simp
          have hq' : (q : Int) < (ps.length : Int) := by omega
          have HQ := Lib.hid (⟨hq, hqf, hqp⟩ : _ ∧ _ ∧ _)
          have gx := (HBB.out.keep HX.out (by simp)).cell
          have HFR := Lib.hid (from_any [] _ K C m D ps q _ (HPP.out.mv0 HX.out) (by simp))
          clear hqf hqp
          go_wp2_with fail
          refine HFR.out.mono ?_
          rintro e wz ⟨⟨v, rfl, hv⟩, Kz⟩
          rw [fromR_fromF hg HQ.out.1] at hv
          obtain ⟨rz, Fz, rfl, _, hcl⟩ := hv.at (by rw [fromF_len]; omega)
          have hlr : (fromF ps q).length = ps.length := fromF_len ps q
          rw [hlr]
          obtain ⟨fq, hfq⟩ : ∃ fq : Nat → Bool, fq = fun k => (fromF ps q).getD k false := ⟨_, rfl⟩
          have HFC : Hid (∀ k, k < ps.length → wz.cell? ⟨rz, k, none⟩ = some (.bool (fq k))) := Lib.hid (fun k hk => by
            have h := hcl k (by rw [fromF_len]; exact hk)
            rw [hfq]
            show _ = some (Value.bool ((fromF ps q).getD k false))
            rw [List.getD_eq_getElem?_getD, List.getElem?_eq_getElem (by rw [fromF_len]; exact hk)]
            exact h)
          have HLA2 : Hid (true = accB false (fun i => (decide (i = q) || fq i) && (mk ps i / 4 % 8 != 0)) ps.length) := Lib.hid (by rw [hfq, ← HQ.out.2.2]; exact HLA.out q HQ.out.1)
          have HXZ := Lib.hid (HX.out.trans Kz)
          have HS0 : Hid (false = accB false (fun i => (decide (i = q) || fq i) && (mk ps i / 4 % 8 != 0)) 0) := Lib.hid (accB_zero _ _).symm
          clear hfq hcl hv hlr Kz HFR gx
          go_wp2
          go_loop [11, 12] (fun bv kv => ∃ (k : Nat) (b : Bool), k ≤ ps.length ∧ kv = .int .i64 k ∧ bv = .bool b ∧ Hid (b = accB false (fun i => (decide (i = q) || fq i) && (mk ps i / 4 % 8 != 0)) k)) (fun _ kv => ps.length - (intOf kv).toNat)
          case atStart => exact ⟨0, false, by omega, rfl, rfl, HS0⟩
          case round =>
            clear HS0
            obtain ⟨k, b, hk, rfl, rfl, hb⟩ := hrel
            by_cases hkl : k < ps.length
            · have hkl' : (k : Int) < (ps.length : Int) := by omega
              have HKL := Lib.hid hkl
              have q0 := HFC.out k hkl
              have g0 := (HBB.out.keep HXZ.out (by simp)).cell 0
              obtain ⟨_, _, _, e1, _, _⟩ := filt_at (HPP.out.mv0 HXZ.out) hkl
              obtain ⟨-, hm2, hm3⟩ := HMK.out k hkl
              have HNB : Hid (∀ x, x = (b || ((decide (k = q) || fq k) && (mk ps k / 4 % 8 != 0))) → x = accB false (fun i => (decide (i = q) || fq i) && (mk ps i / 4 % 8 != 0)) (k + 1)) := Lib.hid (fun x hx => by rw [hx, hb.out, accB_succ])
              generalize mk ps k = mkk at e1 hm2 hm3 HNB
              generalize fq k = ik at q0 HNB
              clear hb
              by_cases hkq : k = q
              · have hkb : ((k : Int) == (q : Int)) = true := by simp [hkq]
                have hkb2 : (k == q) = true := by simp [hkq]
                have hkd : decide (k = q) = true := by simpa using hkq
                rw [hkd] at HNB
                clear hkq hkd
                cases b <;> cases ik
                all_goals
                  go_wp2
                  go_round
                  case rel => exact ⟨k + 1, _, by have := HKL.out; omega, by go_num, rfl, Lib.hid (HNB.out _ (by simp))⟩
                  case measure => simp [intOf]; have := HKL.out; omega
              · have hkb : ((k : Int) == (q : Int)) = false := by simp; omega
                have hkb2 : (k == q) = false := by simp [hkq]
                have hkd : decide (k = q) = false := by simpa using hkq
                rw [hkd] at HNB
                clear hkq hkd
                cases b <;> cases ik
                all_goals
                  go_wp2
                  go_round
                  case rel => exact ⟨k + 1, _, by have := HKL.out; omega, by go_num, rfl, Lib.hid (HNB.out _ (by simp))⟩
                  case measure => simp [intOf]; have := HKL.out; omega
            · obtain rfl : k = ps.length := by omega
              obtain rfl : b = true := hb.out.trans HLA2.out.symm
              have g0 := (HBB.out.keep HXZ.out (by simp)).cell 0
              obtain ⟨a0, c2, e0, e1, e2, hfa⟩ := filt_at (HPP.out.mv0 HXZ.out) HQ.out.1
              rw [HQ.out.2.1] at hfa
              have HFA := Lib.hid hfa
              generalize mk ps q = mq at e1 HFA
              clear hb hfa
              go_wp2_with fail
              refine HFA.out.mono ?_
              rintro e wy ⟨rfl, Ky⟩
              have HKY := Lib.hid (HKF.out.trans (HXZ.out.trans Ky))
              go_wp2
              go_ret
              exact ⟨rfl, HKY.out⟩
      · have hn' : (n : Int) < (ps.length : Int) := by omega
        have hd1 : decide (0 ≤ (n : Int)) = true := by simp
        have HN := Lib.hid (⟨hn, hnf, hnp⟩ : _ ∧ _ ∧ _)
        have HFR := Lib.hid (from_any [] _ K C m D ps n _ (HPP.out.mv0 HX5.out) (by simp))
        clear HBQ hnf hnp
        go_wp2_with fail
        refine HFR.out.mono ?_
        rintro e w6 ⟨⟨v, rfl, hv⟩, K6⟩
        rw [fromR_fromF hg HN.out.1] at hv
        obtain ⟨rb, Fb, rfl, _, hcl⟩ := hv.at (by rw [fromF_len]; omega)
        have hlr : (fromF ps n).length = ps.length := fromF_len ps n
        rw [hlr]
        obtain ⟨fi, hfi⟩ : ∃ fi : Nat → Bool, fi = fun k => (fromF ps n).getD k false := ⟨_, rfl⟩
        have HFI : Hid (∀ k, k < ps.length → w6.cell? ⟨rb, k, none⟩ = some (.bool (fi k))) := Lib.hid (fun k hk => by
          have h := hcl k (by rw [fromF_len]; exact hk)
          rw [hfi]
          show _ = some (Value.bool ((fromF ps n).getD k false))
          rw [List.getD_eq_getElem?_getD, List.getElem?_eq_getElem (by rw [fromF_len]; exact hk)]
          exact h)
        have HBA2 : Hid (true = accB (fi n) (fun i => fi i && decide (32 ≤ mk ps i)) ps.length) := Lib.hid (by rw [hfi, ← HN.out.2.2]; exact HBA.out n)
        have HS1 : Hid (∀ x, x = fi n → x = accB (fi n) (fun i => fi i && decide (32 ≤ mk ps i)) 0) := Lib.hid (fun x hx => by rw [hx]; exact (accB_zero _ _).symm)
        have K36 := HX5.out.trans K6
        have HX6 := Lib.hid K36
        have b6 := (HBB.out.keep K36 (by simp)).cell
        obtain ⟨a0, c2, e0, e1, e2, hfa⟩ := filt_at (HPP.out.mv0 K36) HN.out.1
        rw [HN.out.2.1] at hfa
        have HFA := Lib.hid hfa
        have q0 := HFI.out n HN.out.1
        generalize mk ps n = mn at e1 HFA
        generalize fi n = fn at q0 HBA2 HS1
        clear hfi hcl hv hlr K6 K36 HFR b5 hfa
        go_wp2_with fail
        refine HFA.out.mono ?_
        rintro e w7 ⟨rfl, K7⟩
        have HX7 := Lib.hid (HX6.out.trans K7)
        have HK67 := Lib.hid K7
        have q7 := Keep.cell (T := []) K7 q0 (by simp)
        clear HFA e0 e1 e2 q0 b6 K7
        go_wp2
        clear q7
        go_loopw [8, 9] (fun bv kv wr => ∃ (k : Nat) (b : Bool), k ≤ ps.length ∧ kv = .int .i64 k ∧ bv = .bool b ∧ Hid (b = accB fn (fun i => fi i && decide (32 ≤ mk ps i)) k) ∧ Keep [] w7 wr) (fun _ kv _ => ps.length - (intOf kv).toNat)
        case atStart => exact ⟨0, _, by omega, rfl, rfl, Lib.hid (HS1.out _ rfl), Keep.refl _ _⟩
        case round =>
          clear HS1
          obtain ⟨k, b, hk, rfl, rfl, hb, Kr⟩ := hrel
          have HX := Lib.hid (HX7.out.trans Kr)
          have b8 := (HBB.out.keep HX.out (by simp)).cell
          by_cases hkl : k < ps.length
          · have hkl' : (k : Int) < (ps.length : Int) := by omega
            have HKL := Lib.hid hkl
            have q0 := Keep.cell (T := []) (HK67.out.trans Kr) (HFI.out k hkl) (by simp)
            obtain ⟨a0, c2, e0, e1, e2, hfa⟩ := filt_at (HPP.out.mv0 HX.out) HN.out.1
            rw [HN.out.2.1] at hfa
            have HFA := Lib.hid hfa
            have HKr := Lib.hid Kr
            obtain ⟨-, hm2, hm3⟩ := HMK.out k hkl
            have HNB : Hid (∀ x, x = (b || (fi k && decide (32 ≤ mk ps k))) → x = accB fn (fun i => fi i && decide (32 ≤ mk ps i)) (k + 1)) := Lib.hid (fun x hx => by rw [hx, hb.out, accB_succ])
            have HE1 := Lib.hid (fun w' (K' : Keep [] wr w') => (by
              obtain ⟨_, _, _, h1, _, _⟩ := filt_at (HPP.out.mv0 (HX.out.trans K')) hkl
              exact ⟨h1, (HBB.out.keep (HX.out.trans K') (by simp)).cell 0, Keep.cell (T := []) K' q0 (by simp)⟩ : w'.cell? ⟨bp, op + k * 3 + 1, none⟩ = some (.int .i64 (mk ps k)) ∧ w'.cell? ⟨w.heap.size, 0, none⟩ = some (.slice (some ⟨bp, op, none⟩) ps.length C) ∧ w'.cell? ⟨rb, k, none⟩ = some (.bool (fi k))))
            generalize mk ps n = mn at e1 HFA
            generalize mk ps k = mkk at hm2 hm3 HNB HE1
            generalize fi k = ik at q0 HNB HE1
            clear hb hfa Kr
            go_wp2_with fail
            refine HFA.out.mono ?_
            rintro e w9 ⟨rfl, K9⟩
            obtain ⟨p1, p2, p3⟩ := HE1.out _ K9
            have HK9 := Lib.hid (HKr.out.trans K9)
            clear HFA e0 e1 e2 b8 q0 K9 HE1
            cases b <;> cases ik
            all_goals
              go_wp2
              go_roundw
              case rel => exact ⟨k + 1, _, by have := HKL.out; omega, by go_num, rfl, Lib.hid (HNB.out _ (by simp)), HK9.out⟩
              case measure => simp [intOf]; have := HKL.out; omega
          · obtain rfl : k = ps.length := by omega
            obtain rfl : b = true := hb.out.trans HBA2.out.symm
            clear hb Kr
            rcases HLQ.out with rfl | ⟨q, rfl, hq, hqf, hqp⟩
            · go_wp2
              go_ret
              exact ⟨rfl, HKF.out.trans HX.out⟩
            · have hd2 : decide ((q : Int) < 0) = false := by simp
              have hq' : (q : Int) < (ps.length : Int) := by omega
              have HQ := Lib.hid (⟨hq, hqf, hqp⟩ : _ ∧ _ ∧ _)
              have gx := (HBB.out.keep HX.out (by simp)).cell
              have HFR := Lib.hid (from_any [] _ K C m D ps q _ (HPP.out.mv0 HX.out) (by simp))
              clear hqf hqp
              go_wp2_with fail
              refine HFR.out.mono ?_
              rintro e wz ⟨⟨v, rfl, hv⟩, Kz⟩
              rw [fromR_fromF hg HQ.out.1] at hv
              obtain ⟨rz, Fz, rfl, _, hcl⟩ := hv.at (by rw [fromF_len]; omega)
              have hlr : (fromF ps q).length = ps.length := fromF_len ps q
              rw [hlr]
              obtain ⟨fq, hfq⟩ : ∃ fq : Nat → Bool, fq = fun k => (fromF ps q).getD k false := ⟨_, rfl⟩
              have HFC : Hid (∀ k, k < ps.length → wz.cell? ⟨rz, k, none⟩ = some (.bool (fq k))) := Lib.hid (fun k hk => by
                have h := hcl k (by rw [fromF_len]; exact hk)
                rw [hfq]
                show _ = some (Value.bool ((fromF ps q).getD k false))
                rw [List.getD_eq_getElem?_getD, List.getElem?_eq_getElem (by rw [fromF_len]; exact hk)]
                exact h)
              have HLA2 : Hid (true = accB false (fun i => (decide (i = q) || fq i) && (mk ps i / 4 % 8 != 0)) ps.length) := Lib.hid (by rw [hfq, ← HQ.out.2.2]; exact HLA.out q HQ.out.1)
              have HXZ := Lib.hid (HX.out.trans Kz)
              have HS0 : Hid (false = accB false (fun i => (decide (i = q) || fq i) && (mk ps i / 4 % 8 != 0)) 0) := Lib.hid (accB_zero _ _).symm
              clear hfq hcl hv hlr Kz HFR gx
              go_wp2
              go_loop [11, 12] (fun bv kv => ∃ (k : Nat) (b : Bool), k ≤ ps.length ∧ kv = .int .i64 k ∧ bv = .bool b ∧ Hid (b = accB false (fun i => (decide (i = q) || fq i) && (mk ps i / 4 % 8 != 0)) k)) (fun _ kv => ps.length - (intOf kv).toNat)
              case atStart => exact ⟨0, false, by omega, rfl, rfl, HS0⟩
              case round =>
                clear HS0
                obtain ⟨k, b, hk, rfl, rfl, hb⟩ := hrel
                by_cases hkl : k < ps.length
                · have hkl' : (k : Int) < (ps.length : Int) := by omega
                  have HKL := Lib.hid hkl
                  have q0 := HFC.out k hkl
                  have g0 := (HBB.out.keep HXZ.out (by simp)).cell 0
                  obtain ⟨_, _, _, e1, _, _⟩ := filt_at (HPP.out.mv0 HXZ.out) hkl
                  obtain ⟨-, hm2, hm3⟩ := HMK.out k hkl
                  have HNB : Hid (∀ x, x = (b || ((decide (k = q) || fq k) && (mk ps k / 4 % 8 != 0))) → x = accB false (fun i => (decide (i = q) || fq i) && (mk ps i / 4 % 8 != 0)) (k + 1)) := Lib.hid (fun x hx => by rw [hx, hb.out, accB_succ])
                  generalize mk ps k = mkk at e1 hm2 hm3 HNB
                  generalize fq k = ik at q0 HNB
                  clear hb
                  by_cases hkq : k = q
                  · have hkb : ((k : Int) == (q : Int)) = true := by simp [hkq]
                    have hkb2 : (k == q) = true := by simp [hkq]
                    have hkd : decide (k = q) = true := by simpa using hkq
                    rw [hkd] at HNB
                    clear hkq hkd
                    cases b <;> cases ik
                    all_goals
                      go_wp2
                      go_round
                      case rel => exact ⟨k + 1, _, by have := HKL.out; omega, by go_num, rfl, Lib.hid (HNB.out _ (by simp))⟩
                      case measure => simp [intOf]; have := HKL.out; omega
                  · have hkb : ((k : Int) == (q : Int)) = false := by simp; omega
                    have hkb2 : (k == q) = false := by simp [hkq]
                    have hkd : decide (k = q) = false := by simpa using hkq
                    rw [hkd] at HNB
                    clear hkq hkd
                    cases b <;> cases ik
                    all_goals
                      go_wp2
                      go_round
                      case rel => exact ⟨k + 1, _, by have := HKL.out; omega, by go_num, rfl, Lib.hid (HNB.out _ (by simp))⟩
                      case measure => simp [intOf]; have := HKL.out; omega
                · obtain rfl : k = ps.length := by omega
                  obtain rfl : b = true := hb.out.trans HLA2.out.symm
                  have g0 := (HBB.out.keep HXZ.out (by simp)).cell 0
                  obtain ⟨a0, c2, e0, e1, e2, hfa⟩ := filt_at (HPP.out.mv0 HXZ.out) HQ.out.1
                  rw [HQ.out.2.1] at hfa
                  have HFA := Lib.hid hfa
                  generalize mk ps q = mq at e1 HFA
                  clear hb hfa
                  go_wp2_with fail
                  refine HFA.out.mono ?_
                  rintro e wy ⟨rfl, Ky⟩
                  have HKY := Lib.hid (HKF.out.trans (HXZ.out.trans Ky))
                  go_wp2
                  go_ret
                  exact ⟨rfl, HKY.out⟩
end Go.Proofs.YtkminfdblimiiaaGreatDoor
namespace Go.Proofs.YtkminfdblimiiaaGreatDoor.RowSW
open Go.ChangeShapes Go.WideShapes Go.ChangeAt Go.RowKit Go.Joins Go.Deep Go.Proofs.YtkminfdblimiiaaGreatDoor.RowG

def zeroA : Array Value := #[.agg #[.slice none 0 0, .slice none 0 0]]
set_option maxRecDepth 100000 in
theorem laid_met (os : Os) : laidMet Tryz.prog laid2 ((laidWorld os).forCall (fun _ _ => 0) ⟨#[], zeroA, []⟩).memory :=
  laidMet_of_run' 8 (by kernel_rfl) (by kernel_rfl)
theorem reads (os : Os) {H : Type} (enc : TypeId × Value → H) : ∃ places, DataW.whole enc Tryz.prog ((laidWorld os).forCall (fun _ _ => 0) ⟨#[], zeroA, []⟩).memory Tryz.f6.params.toList Rows.strataWhoSpec.vars false zeroA.toList 8 = some ([.agg [.nil, .nil]], [], places) :=
  ⟨[], by kernel_rfl⟩
set_option maxRecDepth 100000 in
set_option maxHeartbeats 1000000 in
theorem contract (H : Type) (enc : TypeId × Value → H) (W : World) (args : Array Value) (ds gs : List (DataW H)) (before : List MemPlace) (base : Nat)
    (hval : ∀ (j : Nat) t v, Tryz.f6.params[j]? = some t → args[j]? = some v → Value.okWide Tryz.prog W .any base t v)
    (hW : DataW.Whole enc Tryz.prog Tryz.f6.params.toList Rows.strataWhoSpec.vars false W args.toList ds gs before) :
    Calls Tryz.prog 6 args W fun e W' => ∃ v, e = .returned v ∧ Rows.strataWhoSpec.post enc Tryz.prog Tryz.f6 false true false false W args v W' := by
  have hW' := hW
  obtain ⟨p, q, hA0, hV, rfl, hfz, hnd⟩ := hW
  have hA : DataW.TrodAll enc Tryz.prog W 0 (fun _ => true) true Tryz.f6.params.toList args.toList ds p := hA0
  rw [Tryz.params6] at hA hval
  obtain ⟨v0, vs0, d0, ds0, p0, q0, hargs, rfl, rfl, h0, r0⟩ := trodAll_cons hA
  obtain ⟨rfl, rfl, rfl⟩ := trodAll_nil r0
  obtain rfl : args = #[v0] := by cases args; simp_all
  obtain ⟨rfl, rfl⟩ := trodVars_none hV
  have k0 := h0
  have lt0 : ∀ x ∈ p0, x.block < W.heap.size := by obtain ⟨m, hm⟩ := k0; exact DataW.trod_lt m _ _ _ hm
  obtain ⟨A0, ps0, C0, K0, m0, D0, rfl, hp0, hm0⟩ := open_gram rfl (hval 0 _ v0 rfl rfl) h0
  clear hA0
  refine (strataWho_walk A0 K0 C0 m0 D0 ps0 W hp0 hm0).mono fun e W' ⟨he, kp⟩ => ?_
  have bel := kp.below
  subst he
  exact ⟨_, rfl, _, _, _, [], _, [], hW', trodAll_mk1 (shut_bool Tryz.underlying4 _), (trodAll_cons_mk (Below.trod laidOut (by kernel_rfl) (of_decide_eq_true (by kernel_rfl)) k0 bel lt0) trodAll_mk0), rfl, bel.frame _, fun h => by cases h⟩

set_option maxRecDepth 100000 in
theorem lifted (os : Os) (started : os.Started) (H : Type) (enc : TypeId × Value → H) (F : Stop.Interp) :
    ReturnsInHanded {} Tryz.checked os 6 .any ((OpenSpec.ofChange Rows.strataWhoSpec).preRow enc Tryz.prog Tryz.f6 Rows.strataWhoRow.domain false Rows.strataWhoRow.laid) (((OpenSpec.ofChange Rows.strataWhoSpec).at F).post enc Tryz.prog Tryz.f6 false true false false) := by
  obtain ⟨places, hx⟩ := reads os enc
  refine returnsInHanded_of_row (C := Tryz.checked) (s := OpenSpec.ofChange Rows.strataWhoSpec) own started (by kernel_rfl) Tryz.func6
    (witness_row_at (enc := enc) (C := Tryz.checked) false (laidWorld os) zeroA rfl (by kernel_rfl) (by kernel_rfl) (by kernel_rfl)
      (OpenSpec.preRow_of_cond 8 hx (by kernel_rfl) (fun k hk => by cases hk) (by kernel_rfl) (laid_met os))) ?_
  intro W base args ds gs before hval hW _ _ _ _ _ _
  exact contract H enc W args ds gs before base hval hW

theorem said : Rows.StrataWhoSaid :=
  OpenClaim.holds_of_cond 6 Tryz.f6 rfl rfl rfl rfl rfl rfl rfl ⟨rfl, rfl, rfl, rfl, rfl⟩ rfl rfl rfl rfl rfl (by kernel_rfl) Tryz.func6 (by kernel_rfl)
    (of_decide_eq_true (by kernel_rfl)) (by unfold Func.isWrapper; first | (rw [if_pos (by decide +kernel)]; kernel_rfl) | (rw [if_neg (by decide +kernel)]; exact ⟨rfl, rfl⟩))
    (fun os started H enc _ F => by rw [OpenClaim.pre_eq_preRow]; exact lifted os started H enc F)

theorem plain (f : FuncId) (fn : Func) (hf : Tryz.pinned.checked.prog.funcNamed "exegete/exegetelaw12.StrataWho" = some f) (hfn : Tryz.pinned.checked.prog.funcs[f]? = some fn) :
    true = Tryz.pinned.checked.prog.looks [] ∧ ∀ (j : Nat) t, fn.params[j]? = some t → Tryz.pinned.checked.prog.wantsStandIn t = false := by
  obtain rfl : f = 6 := Option.some.inj ((show Tryz.prog.funcNamed "exegete/exegetelaw12.StrataWho" = some 6 by kernel_rfl).symm.trans hf) |>.symm
  obtain rfl : fn = Tryz.f6 := (Option.some.inj (Tryz.func6.symm.trans hfn)).symm
  refine ⟨by kernel_rfl, fun j t ht => ?_⟩
  rw [Tryz.params6] at ht
  have hm : t = 25 := by simpa [or_assoc] using Array.mem_of_getElem? ht
  rcases hm with rfl
  exact (show Tryz.prog.wantsStandIn 25 = false by kernel_rfl)

theorem card : Rows.StrataWhoCardSaid :=
  Claim7.holds_tied_plain_at .later [] _ _ _ _ said (fun _ h => by cases h) (by kernel_rfl) (fun _ h => by cases h) strataWho_row_tie rfl ⟨rfl, rfl⟩ (by kernel_rfl) rfl plain (by kernel_rfl)
end Go.Proofs.YtkminfdblimiiaaGreatDoor.RowSW
namespace Go.Proofs.YtkminfdblimiiaaGreatDoor
/-- The card of the law. -/
theorem strataWho_card : Rows.StrataWhoCardSaid := RowSW.card
#print axioms strataWho_card
end Go.Proofs.YtkminfdblimiiaaGreatDoor
