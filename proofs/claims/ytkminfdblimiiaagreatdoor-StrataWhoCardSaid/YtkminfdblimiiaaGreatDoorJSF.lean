/- The law StrataFirst, as its row and its card state it: for every input it answers true and the arguments read as before. -/
import Derived.Test.YtkminfdblimiiaaGreatDoorJ19
import Derived.Test.YtkminfdblimiiaaGreatDoorJ20
set_option linter.unusedVariables false
set_option linter.unusedSimpArgs false
namespace Go.Proofs.YtkminfdblimiiaaGreatDoor
open Go Go.RowKit Go.MapKept

theorem first_plain {ps : List ProdS} (hg : gmay ps = true) {n : Nat} (hn : n < ps.length) (hf : filtN ps n = true) : (badP ps n = true → 0 ≤ badR ps ∧ badR ps ≤ n) ∧ (laidP ps n = true → 0 ≤ laidR ps ∧ laidR ps ≤ n) := by
  refine ⟨fun h => ?_, fun h => ?_⟩
  · rcases bad_cases hg with ⟨_, h2⟩ | ⟨m, h1, _, _, _, h2⟩
    · rw [h2 n hn hf] at h; cases h
    · have := h2 n hn hf h
      omega
  · rcases laid_cases hg with ⟨_, h2⟩ | ⟨m, h1, _, _, _, h2⟩
    · rw [h2 n hn hf] at h; cases h
    · have := h2 n hn hf h
      omega
theorem ne_bne (a : Int) : decide (a ≠ 0) = (a != 0) := by by_cases h : a = 0 <;> simp [h]
set_option maxRecDepth 20000 in
set_option maxHeartbeats 4000000 in
theorem strataFirst_walk (A K : Option Addr) (C m D : Nat) (ps : List ProdS) (i : Int) (w : World) (HP : Prods [] w (.slice A ps.length C) ps) (hmk : m ≤ 9223372036854775807) :
    Calls Tryz.prog 7 #[.agg #[.slice A ps.length C, .slice K m D], .int .i64 i] w fun e w' => e = .returned (.bool true) ∧ Keep [] w w' := by
  have K0 := (Keep.refl [] w).alloc (.cells #[.slice A ps.length C, .slice K m D] 25)
  have HP0 : Prods [] _ (.slice A ps.length C) ps := HP.mv0 K0
  have B0 := Blk.new w #[.slice A ps.length C, .slice K m D] 25
  have hlp := (SlOf.len HP).2.1
  clear HP
  go_enter Tryz.func7, Tryz.ntmps7
  go_wp2_with fail
  refine (awake12_any _).mono ?_
  rintro e w1 ⟨rfl, K1⟩
  have B1 := B0.keep K1 (by simp)
  have b1 := B1.cell
  have HP1 : Prods [] w1 (.slice A ps.length C) ps := HP0.mv0 K1
  go_wp2_with fail
  refine (few_any [] A K C m D ps _ HP1 hmk).mono ?_
  rintro e w2 ⟨⟨fw, rfl⟩, K2⟩
  have B2 := B1.keep K2 (by simp)
  have b2 := B2.cell
  have HP2 : Prods [] w2 (.slice A ps.length C) ps := HP1.mv0 K2
  have KF2 := (K0.trans K1).trans K2
  clear HP0 HP1 B0 B1 b1
  cases fw with
  | false =>
    clear HP2
    go_wp2
    go_ret
    exact ⟨rfl, KF2⟩
  | true =>
    have hc3 := may_any [] (.slice A ps.length C) (.slice K m D) ps _ HP2
    have HC3 := Lib.hid hc3
    clear hc3
    go_wp2_with fail
    refine HC3.out.mono ?_
    rintro e w3 ⟨rfl, K3⟩
    have B3 := B2.keep K3 (by simp)
    have b3 := B3.cell
    have HP3 : Prods [] w3 (.slice A ps.length C) ps := HP2.mv0 K3
    have KF3 := KF2.trans K3
    clear HP2 B2 b2 HC3
    cases hg : gmay ps with
    | false =>
      clear HP3
      go_wp2
      go_ret
      exact ⟨rfl, KF3⟩
    | true =>
      by_cases hi0 : i < 0
      · clear HP3
        go_wp2
        go_ret
        exact ⟨rfl, KF3⟩
      · by_cases hi1 : (ps.length : Int) ≤ i
        · have hi0' : 0 ≤ i := by omega
          clear HP3 hi0
          go_wp2
          go_ret
          exact ⟨rfl, KF3⟩
        · obtain ⟨n, rfl⟩ : ∃ n : Nat, i = n := ⟨i.toNat, by omega⟩
          have hn : n < ps.length := by omega
          have hn' : (n : Int) < (ps.length : Int) := by omega
          have hd0 : decide ((n : Int) < 0) = false := by simp
          have hd1 : decide (ps.length ≤ n) = false := by simp; omega
          obtain ⟨hl0, hl1⟩ := gmay_len hg
          clear hi0 hi1
          obtain ⟨bp, op, A2, C2, N2, F2, rfl, -, e0, e1, e2, -, -⟩ := HP3.pick n hn
          have hfa := filt_any (.slice A2 ps[n].a.length C2) ps[n].marks N2 ps[n].nt.length F2 w3
          have hfb : (hasM ps[n].marks 3 || decide (0 < ps[n].nt.length)) = filtN ps n := by rw [filtN_at hn]; rfl
          rw [hfb] at hfa
          have HFA := Lib.hid hfa
          have HPP := Lib.hid HP3
          have HBB := Lib.hid B3
          have HKF := Lib.hid KF3
          have HPL : Hid (filtN ps n = true → (badP ps n = true → 0 ≤ badR ps ∧ badR ps ≤ n) ∧ (laidP ps n = true → 0 ≤ laidR ps ∧ laidR ps ≤ n)) := Lib.hid (fun h => first_plain hg hn h)
          have hmn : mk ps n = ps[n].marks := mk_at hn
          have hmi := mk_in hg hn
          have hla := laid_acc hg hn
          have hba := bad_acc hg n
          simp only [ne_bne] at hla
          have HLA := Lib.hid hla
          have HBA := Lib.hid hba
          clear hla hba
          have HMK := Lib.hid (fun k (hk : k < ps.length) => (⟨mk_at hk, mk_in hg hk⟩ : mk ps k = ps[k].marks ∧ 0 ≤ mk ps k ∧ mk ps k ≤ 63))
          rw [hmn] at hmi
          have HMN := Lib.hid hmn
          generalize filtN ps n = fn at HFA HPL
          generalize ps[n] = p at e0 e1 e2 HFA hmi HMN
          obtain ⟨pa, pm, pn⟩ := p
          simp only at e0 e1 e2 HFA hmi
          have he1 : ∀ w', Keep [] w3 w' → w'.cell? ⟨bp, op + n * 3 + 1, none⟩ = some (.int .i64 pm) := fun w' K' => Keep.cell (T := []) K' e1 (by simp)
          have HE1 := Lib.hid he1
          clear HP3 B3 hfa hfb KF3 hmn he1
          go_wp2_with fail
          refine HFA.out.mono ?_
          rintro e w4 ⟨rfl, K4⟩
          have b4 := (HBB.out.keep K4 (by simp)).cell
          clear HFA e0 e1 e2 b3
          cases fn with
          | false =>
            go_wp2
            go_ret
            exact ⟨rfl, HKF.out.trans K4⟩
          | true =>
            have HPL2 := Lib.hid (HPL.out (by simp))
            clear HPL
            go_wp2_with fail
            refine (bad12_any _ K C m D ps _ (HPP.out.mv0 K4)).mono ?_
            rintro e w5 ⟨rfl, K5⟩
            have K35 := K4.trans K5
            have b5 := (HBB.out.keep K35 (by simp)).cell
            clear b4
            go_wp2_with fail
            refine (laid12_any _ K C m D ps _ (HPP.out.mv0 K35)).mono ?_
            rintro e w6 ⟨rfl, K6⟩
            have K36 := K35.trans K6
            have b6 := (HBB.out.keep K36 (by simp)).cell
            clear b5
            go_wp2_with fail
            refine (from_any [] _ K C m D ps n _ (HPP.out.mv0 K36) (by simp)).mono ?_
            rintro e w7 ⟨⟨v, rfl, hv⟩, K7⟩
            rw [fromR_fromF hg hn] at hv
            obtain ⟨rb, Fb, rfl, _, hcl⟩ := hv.at (by rw [fromF_len]; omega)
            have K37 := K36.trans K7
            have HCL := Lib.hid (fun k (hk : k < ps.length) => (by
              have h := hcl k (by rw [fromF_len]; exact hk)
              rw [List.getD_eq_getElem?_getD, List.getElem?_eq_getElem (by rw [fromF_len]; exact hk)]
              exact h : w7.cell? ⟨rb, k, none⟩ = some (.bool ((fromF ps n).getD k false))))
            have hlr : (fromF ps n).length = ps.length := fromF_len ps n
            rw [hlr]
            obtain ⟨fi, hfi⟩ : ∃ fi : Nat → Bool, fi = fun k => (fromF ps n).getD k false := ⟨_, rfl⟩
            have HFC : Hid (∀ k, k < ps.length → w7.cell? ⟨rb, k, none⟩ = some (.bool (fi k))) := Lib.hid (by rw [hfi]; exact HCL.out)
            have HBA2 : Hid (badP ps n = accB (fi n) (fun k => fi k && decide (32 ≤ mk ps k)) ps.length) := Lib.hid (by rw [hfi]; exact HBA.out)
            have HLA2 : Hid (laidP ps n = accB (pm / 4 % 8 != 0) (fun k => fi k && (mk ps k / 4 % 8 != 0)) ps.length) := Lib.hid (by have h := HLA.out; rw [HMN.out] at h; rw [hfi]; exact h)
            clear hfi
            have b7 := (HBB.out.keep K37 (by simp)).cell
            have q0 := HFC.out n hn
            have e1 := HE1.out _ K37
            have HP7 := Lib.hid (HPP.out.mv0 K37)
            have HKZ := Lib.hid (HKF.out.trans K37)
            have HB7 := Lib.hid (HBB.out.keep K37 (by simp))
            clear b6 hcl hv hlr K36 K35 K6 K5 K4 K7 K37 HKF HPP HBB HE1 HCL HBA HLA
            have HS0 : Hid (fi n = accB (fi n) (fun k => fi k && decide (32 ≤ mk ps k)) 0 ∧ (pm / 4 % 8 != 0) = accB (pm / 4 % 8 != 0) (fun k => fi k && (mk ps k / 4 % 8 != 0)) 0) := Lib.hid ⟨(accB_zero _ _).symm, (accB_zero _ _).symm⟩
            generalize badP ps n = bP at HPL2 HBA2
            generalize laidP ps n = lP at HPL2 HLA2
            generalize badR ps = bR at HPL2 ⊢
            generalize laidR ps = lR at HPL2 ⊢
            go_wp2
            clear b7 q0 e1
            go_loop [10, 11, 12] (fun bv lv kv => ∃ (k : Nat) (b l : Bool), k ≤ ps.length ∧ kv = .int .i64 k ∧ bv = .bool b ∧ lv = .bool l ∧ Hid (b = accB (fi n) (fun k => fi k && decide (32 ≤ mk ps k)) k) ∧ Hid (l = accB (pm / 4 % 8 != 0) (fun k => fi k && (mk ps k / 4 % 8 != 0)) k)) (fun _ _ kv => ps.length - (intOf kv).toNat)
            case atStart => exact ⟨0, _, _, by omega, rfl, rfl, rfl, Lib.hid HS0.out.1, Lib.hid HS0.out.2⟩
            case round =>
              clear HS0
              obtain ⟨k, b, l, hk, rfl, rfl, rfl, hb, hl⟩ := hrel
              by_cases hkl : k < ps.length
              · have hkl' : (k : Int) < (ps.length : Int) := by omega
                have HKL := Lib.hid hkl
                have q0 := HFC.out k hkl
                have g0 := HB7.out.cell 0
                obtain ⟨bp', op', A4, C4, N4, F4, he, -, -, e1, -, -, -⟩ := HP7.out.pick k hkl
                simp only [Option.some.injEq, Addr.mk.injEq, and_true] at he
                obtain ⟨rfl, rfl⟩ := he
                obtain ⟨hm1, hm2, hm3⟩ := HMK.out k hkl
                rw [← hm1] at e1
                have HNB : Hid (∀ x, x = (b || (fi k && decide (32 ≤ mk ps k))) → x = accB (fi n) (fun k => fi k && decide (32 ≤ mk ps k)) (k + 1)) := Lib.hid (fun x hx => by rw [hx, hb.out, accB_succ])
                have HNL : Hid (∀ x, x = (l || (fi k && (mk ps k / 4 % 8 != 0))) → x = accB (pm / 4 % 8 != 0) (fun k => fi k && (mk ps k / 4 % 8 != 0)) (k + 1)) := Lib.hid (fun x hx => by rw [hx, hl.out, accB_succ])
                generalize mk ps k = mkk at e1 hm2 hm3 HNB HNL
                generalize fi k = ik at q0 HNB HNL
                clear hm1 hb hl
                cases b <;> cases l <;> cases ik
                all_goals
                  go_wp2
                  go_round
                  case rel => exact ⟨k + 1, _, _, by have := HKL.out; omega, by go_num, rfl, rfl, Lib.hid (HNB.out _ (by simp)), Lib.hid (HNL.out _ (by simp))⟩
                  case measure => simp [intOf]; have := HKL.out; omega
              · obtain rfl : k = ps.length := by omega
                have hbP : b = bP := hb.out.trans HBA2.out.symm
                have hlP : l = lP := hl.out.trans HLA2.out.symm
                have HQ : Hid ((b = true → 0 ≤ bR ∧ bR ≤ n) ∧ (l = true → 0 ≤ lR ∧ lR ≤ n)) := Lib.hid (by rw [hbP, hlP]; exact HPL2.out)
                clear hb hl hbP hlP
                cases b <;> cases l
                · go_wp2
                  go_ret
                  exact ⟨rfl, HKZ.out⟩
                · obtain ⟨z1, z2⟩ := HQ.out.2 rfl
                  have d1 : decide (0 ≤ lR) = true := by simpa using z1
                  have d2 : decide (lR ≤ (n : Int)) = true := by simpa using z2
                  go_wp2
                  go_ret
                  exact ⟨rfl, HKZ.out⟩
                · obtain ⟨y1, y2⟩ := HQ.out.1 rfl
                  have d3 : decide (0 ≤ bR) = true := by simpa using y1
                  have d4 : decide (bR ≤ (n : Int)) = true := by simpa using y2
                  go_wp2
                  go_ret
                  exact ⟨rfl, HKZ.out⟩
                · obtain ⟨z1, z2⟩ := HQ.out.2 rfl
                  have d1 : decide (0 ≤ lR) = true := by simpa using z1
                  have d2 : decide (lR ≤ (n : Int)) = true := by simpa using z2
                  obtain ⟨y1, y2⟩ := HQ.out.1 rfl
                  have d3 : decide (0 ≤ bR) = true := by simpa using y1
                  have d4 : decide (bR ≤ (n : Int)) = true := by simpa using y2
                  go_wp2
                  go_ret
                  exact ⟨rfl, HKZ.out⟩
end Go.Proofs.YtkminfdblimiiaaGreatDoor
namespace Go.Proofs.YtkminfdblimiiaaGreatDoor.RowSF
open Go.ChangeShapes Go.WideShapes Go.ChangeAt Go.RowKit Go.Joins Go.Deep Go.Proofs.YtkminfdblimiiaaGreatDoor.RowG

def zeroA : Array Value := #[.agg #[.slice none 0 0, .slice none 0 0], .int .i64 0]
set_option maxRecDepth 100000 in
theorem laid_met (os : Os) : laidMet Tryz.prog laid2 ((laidWorld os).forCall (fun _ _ => 0) ⟨#[], zeroA, []⟩).memory :=
  laidMet_of_run' 8 (by kernel_rfl) (by kernel_rfl)
theorem reads (os : Os) {H : Type} (enc : TypeId × Value → H) : ∃ places, DataW.whole enc Tryz.prog ((laidWorld os).forCall (fun _ _ => 0) ⟨#[], zeroA, []⟩).memory Tryz.f7.params.toList Rows.strataFirstSpec.vars false zeroA.toList 8 = some ([.agg [.nil, .nil], .lit (.int .i64 0)], [], places) :=
  ⟨[], by kernel_rfl⟩
set_option maxRecDepth 100000 in
set_option maxHeartbeats 1000000 in
theorem contract (H : Type) (enc : TypeId × Value → H) (W : World) (args : Array Value) (ds gs : List (DataW H)) (before : List MemPlace) (base : Nat)
    (hval : ∀ (j : Nat) t v, Tryz.f7.params[j]? = some t → args[j]? = some v → Value.okWide Tryz.prog W .any base t v)
    (hW : DataW.Whole enc Tryz.prog Tryz.f7.params.toList Rows.strataFirstSpec.vars false W args.toList ds gs before) :
    Calls Tryz.prog 7 args W fun e W' => ∃ v, e = .returned v ∧ Rows.strataFirstSpec.post enc Tryz.prog Tryz.f7 false true false false W args v W' := by
  have hW' := hW
  obtain ⟨p, q, hA0, hV, rfl, hfz, hnd⟩ := hW
  have hA : DataW.TrodAll enc Tryz.prog W 0 (fun _ => true) true Tryz.f7.params.toList args.toList ds p := hA0
  rw [Tryz.params7] at hA hval
  obtain ⟨v0, vs0, d0, ds0, p0, q0, hargs, rfl, rfl, h0, r0⟩ := trodAll_cons hA
  obtain ⟨v1, vs1, d1, ds1, p1, q1, rfl, rfl, rfl, h1, r1⟩ := trodAll_cons r0
  obtain ⟨rfl, rfl, rfl⟩ := trodAll_nil r1
  obtain rfl : args = #[v0, v1] := by cases args; simp_all
  obtain ⟨rfl, rfl⟩ := trodVars_none hV
  have k0 := h0
  have lt0 : ∀ x ∈ p0, x.block < W.heap.size := by obtain ⟨m, hm⟩ := k0; exact DataW.trod_lt m _ _ _ hm
  obtain ⟨A0, ps0, C0, K0, m0, D0, rfl, hp0, hm0⟩ := open_gram rfl (hval 0 _ v0 rfl rfl) h0
  obtain ⟨a1, rfl, rfl, rfl, w1⟩ := open_int Tryz.underlying3 (hval 1 _ v1 rfl rfl) h1
  clear hA0
  refine (strataFirst_walk A0 K0 C0 m0 D0 ps0 a1 W hp0 hm0).mono fun e W' ⟨he, kp⟩ => ?_
  have bel := kp.below
  subst he
  exact ⟨_, rfl, _, _, _, [], _, [], hW', trodAll_mk1 (shut_bool Tryz.underlying4 _), (trodAll_cons_mk (Below.trod laidOut (by kernel_rfl) (of_decide_eq_true (by kernel_rfl)) k0 bel lt0) (trodAll_cons_mk (shut_int Tryz.underlying3 w1) trodAll_mk0)), rfl, bel.frame _, fun h => by cases h⟩

set_option maxRecDepth 100000 in
theorem lifted (os : Os) (started : os.Started) (H : Type) (enc : TypeId × Value → H) (F : Stop.Interp) :
    ReturnsInHanded {} Tryz.checked os 7 .any ((OpenSpec.ofChange Rows.strataFirstSpec).preRow enc Tryz.prog Tryz.f7 Rows.strataFirstRow.domain false Rows.strataFirstRow.laid) (((OpenSpec.ofChange Rows.strataFirstSpec).at F).post enc Tryz.prog Tryz.f7 false true false false) := by
  obtain ⟨places, hx⟩ := reads os enc
  refine returnsInHanded_of_row (C := Tryz.checked) (s := OpenSpec.ofChange Rows.strataFirstSpec) own started (by kernel_rfl) Tryz.func7
    (witness_row_at (enc := enc) (C := Tryz.checked) false (laidWorld os) zeroA rfl (by kernel_rfl) (by kernel_rfl) (by kernel_rfl)
      (OpenSpec.preRow_of_cond 8 hx (by kernel_rfl) (fun k hk => by cases hk) (by kernel_rfl) (laid_met os))) ?_
  intro W base args ds gs before hval hW _ _ _ _ _ _
  exact contract H enc W args ds gs before base hval hW

theorem said : Rows.StrataFirstSaid :=
  OpenClaim.holds_of_cond 7 Tryz.f7 rfl rfl rfl rfl rfl rfl rfl ⟨rfl, rfl, rfl, rfl, rfl⟩ rfl rfl rfl rfl rfl (by kernel_rfl) Tryz.func7 (by kernel_rfl)
    (of_decide_eq_true (by kernel_rfl)) (by unfold Func.isWrapper; first | (rw [if_pos (by decide +kernel)]; kernel_rfl) | (rw [if_neg (by decide +kernel)]; exact ⟨rfl, rfl⟩))
    (fun os started H enc _ F => by rw [OpenClaim.pre_eq_preRow]; exact lifted os started H enc F)

theorem plain (f : FuncId) (fn : Func) (hf : Tryz.pinned.checked.prog.funcNamed "exegete/exegetelaw12.StrataFirst" = some f) (hfn : Tryz.pinned.checked.prog.funcs[f]? = some fn) :
    true = Tryz.pinned.checked.prog.looks [] ∧ ∀ (j : Nat) t, fn.params[j]? = some t → Tryz.pinned.checked.prog.wantsStandIn t = false := by
  obtain rfl : f = 7 := Option.some.inj ((show Tryz.prog.funcNamed "exegete/exegetelaw12.StrataFirst" = some 7 by kernel_rfl).symm.trans hf) |>.symm
  obtain rfl : fn = Tryz.f7 := (Option.some.inj (Tryz.func7.symm.trans hfn)).symm
  refine ⟨by kernel_rfl, fun j t ht => ?_⟩
  rw [Tryz.params7] at ht
  have hm : t = 25 ∨ t = 3 := by simpa [or_assoc] using Array.mem_of_getElem? ht
  rcases hm with rfl | rfl
  · exact (show Tryz.prog.wantsStandIn 25 = false by kernel_rfl)
  · exact (show Tryz.prog.wantsStandIn 3 = false by kernel_rfl)

theorem card : Rows.StrataFirstCardSaid :=
  Claim7.holds_tied_plain_at .later [] _ _ _ _ said (fun _ h => by cases h) (by kernel_rfl) (fun _ h => by cases h) strataFirst_row_tie rfl ⟨rfl, rfl⟩ (by kernel_rfl) rfl plain (by kernel_rfl)
end Go.Proofs.YtkminfdblimiiaaGreatDoor.RowSF
namespace Go.Proofs.YtkminfdblimiiaaGreatDoor
/-- The card of the law. -/
theorem strataFirst_card : Rows.StrataFirstCardSaid := RowSF.card
#print axioms strataFirst_card
end Go.Proofs.YtkminfdblimiiaaGreatDoor
