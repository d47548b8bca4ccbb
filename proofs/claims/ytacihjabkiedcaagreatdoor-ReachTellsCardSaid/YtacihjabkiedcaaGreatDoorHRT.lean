/- The law ReachTells, as its row and its card state it: for every input it answers true and the arguments read as before. -/
import Derived.Test.YtacihjabkiedcaaGreatDoorH37
import Derived.Test.YtacihjabkiedcaaGreatDoorH35
import Derived.Test.YtacihjabkiedcaaGreatDoorH18
import Derived.Test.YtacihjabkiedcaaGreatDoorH19
set_option linter.unusedVariables false
set_option linter.unusedSimpArgs false
namespace Go.Proofs.YtacihjabkiedcaaGreatDoor
open Go Go.RowKit Go.MapKept

set_option maxRecDepth 20000 in
set_option maxHeartbeats 4000000 in
/-- Makes, where sets are small if nonterminals may be. -/
theorem makesT_any (A K : Option Addr) (C m D : Nat) (ps : List ProdS) (w : World) (HP : Prods [] w (.slice A ps.length C) ps) (hsm : gmay ps = true → SmallG ps) :
    Calls Tryz.prog 18 #[.agg #[.slice A ps.length C, .slice K m D]] w fun e w' => (∃ v, e = .returned v ∧ BoolV w' w.heap.size v (makesR someF ps)) ∧ Keep [] w w' := by
  cases hg : gmay ps with
  | true => exact makesR_any someF [] A K C m D ps w HP (by simp) (somesOK_small (hsm hg))
  | false =>
    have K0 := (Keep.refl [] w).alloc (.cells #[.slice A ps.length C, .slice K m D] 25)
    have HC := Lib.hid (may_any [] (.slice A ps.length C) (.slice K m D) ps _ (HP.mv0 K0))
    have hr : makesR someF ps = [] := by simp [makesR, hg]
    rw [hr]
    clear HP hsm
    go_enter Tryz.func18, Tryz.ntmps18
    go_wp2_with fail
    refine HC.out.mono ?_
    rintro e w1 ⟨rfl, K1⟩
    rw [hg]
    go_wp2
    go_ret
    exact ⟨⟨_, rfl, .inl ⟨rfl, rfl⟩⟩, K0.trans K1⟩
set_option maxHeartbeats 2000000 in
theorem vainT_any (A K : Option Addr) (C m D : Nat) (ps : List ProdS) (w : World) (HP : Prods [] w (.slice A ps.length C) ps) (hsm : gmay ps = true → SmallG ps) :
    Calls Tryz.prog 22 #[.agg #[.slice A ps.length C, .slice K m D]] w fun e w' => e = .returned (.int .i64 (vainR someF ps)) ∧ Keep [] w w' := by
  have K0 := (Keep.refl [] w).alloc (.cells #[.slice A ps.length C, .slice K m D] 25)
  have HP0 : Prods [] _ (.slice A ps.length C) ps := HP.mv0 K0
  have hcall := makesT_any A K C m D ps _ HP0 hsm
  have HC := Lib.hid hcall; clear hcall HP0 HP hsm
  have hlen := makesR_len someF ps
  unfold vainR
  generalize makesR someF ps = bs at HC hlen ⊢
  go_enter Tryz.func22, Tryz.ntmps22
  go_wp2_with fail
  refine HC.out.mono ?_
  rintro e w1 ⟨⟨v, rfl, hB⟩, K1⟩
  have hcall := bindex_any _ _ _ false _ hB (by omega)
  have HC2 := Lib.hid hcall
  clear HC hcall hB
  go_wp2_with fail
  refine HC2.out.mono ?_
  rintro e w2 ⟨rfl, rfl⟩
  go_wp2
  go_ret
  exact ⟨rfl, K0.trans K1⟩
set_option maxRecDepth 20000 in
set_option maxHeartbeats 8000000 in
theorem reachTells_walk (A K : Option Addr) (C m D : Nat) (ps : List ProdS) (n : Int) (w : World) (HP : Prods [] w (.slice A ps.length C) ps) (hmk : m ≤ 9223372036854775807) :
    Calls Tryz.prog 3 #[.agg #[.slice A ps.length C, .slice K m D], .int .i64 n] w fun e w' => e = .returned (.bool true) ∧ Keep [] w w' := by
  have K0 := (Keep.refl [] w).alloc (.cells #[.slice A ps.length C, .slice K m D] 25)
  have HP0 : Prods [] _ (.slice A ps.length C) ps := HP.mv0 K0
  have B0 := Blk.new w #[.slice A ps.length C, .slice K m D] 25
  have hlp := (SlOf.len HP).2.1
  clear HP
  go_enter Tryz.func3, Tryz.ntmps3
  go_wp2_with fail
  refine (awake11_any _).mono ?_
  rintro e w1 ⟨rfl, K1⟩
  have B1 := B0.keep K1 (by simp)
  have b1 := B1.cell
  have HP1 : Prods [] w1 (.slice A ps.length C) ps := HP0.mv0 K1
  go_wp2_with fail
  refine (few2_any [] A K C m D ps _ HP1 hmk).mono ?_
  rintro e w2 ⟨⟨fw, rfl, hfw⟩, K2⟩
  have HFW := Lib.hid hfw
  clear hfw
  have B2 := B1.keep K2 (by simp)
  have b2 := B2.cell
  have HP2 : Prods [] w2 (.slice A ps.length C) ps := HP1.mv0 K2
  have KF2 := (K0.trans K1).trans K2
  clear HP0 HP1 B0 B1 b1
  cases fw with
  | false =>
    clear HP2
    go_wp2
    go_ret
    exact ⟨rfl, KF2⟩
  | true =>
    have hkp : ∀ w', Keep [] w2 w' → w'.cell? ⟨w.heap.size, 0, none⟩ = some (.slice A ps.length C) ∧ w'.cell? ⟨w.heap.size, 1, none⟩ = some (.slice K m D) ∧ Keep [] w2 w' := fun w' K' => ⟨(B2.keep K' (by simp)).cell 0, (B2.keep K' (by simp)).cell 1, K'⟩
    have HKP := Lib.hid hkp
    have hsm : gmay ps = true → SmallG ps := HFW.out (by simp)
    have h16 : ∀ w', Keep [] w2 w' → Calls Tryz.prog 16 #[.agg #[.slice A ps.length C, .slice K m D], .int .i64 n] w' fun e w'' => (∃ v, e = .returned v ∧ BoolV w'' 0 v (fromR ps n)) ∧ Keep [] w2 w'' ∧ Keep [] w' w'' := fun w' K' =>
      (from_any [] A K C m D ps n w' (HP2.mv0 K') (by simp)).mono fun e w'' ⟨⟨v, h1, h2⟩, h3⟩ => ⟨⟨v, h1, h2.mono (Nat.zero_le _)⟩, K'.trans h3, h3⟩
    have h17 : ∀ w', Keep [] w2 w' → Calls Tryz.prog 17 #[.agg #[.slice A ps.length C, .slice K m D], .int .i64 n] w' fun e w'' => (∃ v, e = .returned v ∧ BoolV w'' 0 v (fromR ps n)) ∧ Keep [] w2 w'' ∧ Keep [] w' w'' := fun w' K' =>
      (from11_any [] A K C m D ps n w' (HP2.mv0 K') (by simp)).mono fun e w'' ⟨⟨v, h1, h2⟩, h3⟩ => ⟨⟨v, h1, h2.mono (Nat.zero_le _)⟩, K'.trans h3, h3⟩
    have h15 : ∀ w' v u (bs : List Bool), bs.length ≤ 1000000 → Keep [] w2 w' → BoolV w' 0 v bs → BoolV w' 0 u bs → Calls Tryz.prog 15 #[v, u] w' fun e w'' => e = .returned (.bool true) ∧ Keep [] w2 w'' := fun w' v u bs hl K' h1 h2 =>
      (bools_any 0 v u _ _ w' h1 h2 hl hl).mono fun e w'' ⟨h3, h4⟩ => ⟨by rw [h3]; simp, K'.trans h4⟩
    have h18 : ∀ w', Keep [] w2 w' → Calls Tryz.prog 18 #[.agg #[.slice A ps.length C, .slice K m D]] w' fun e w'' => (∃ v, e = .returned v ∧ BoolV w'' 0 v (makesR someF ps)) ∧ Keep [] w2 w'' ∧ Keep [] w' w'' := fun w' K' =>
      (makesT_any A K C m D ps w' (HP2.mv0 K') hsm).mono fun e w'' ⟨⟨v, h1, h2⟩, h3⟩ => ⟨⟨v, h1, h2.mono (Nat.zero_le _)⟩, K'.trans h3, h3⟩
    have h19 : ∀ w', Keep [] w2 w' → Calls Tryz.prog 19 #[.agg #[.slice A ps.length C, .slice K m D]] w' fun e w'' => (∃ v, e = .returned v ∧ BoolV w'' 0 v (makesR someF ps)) ∧ Keep [] w2 w'' ∧ Keep [] w' w'' := fun w' K' =>
      (makes11_any [] A K C m D ps w' (HP2.mv0 K') (by simp)).mono fun e w'' ⟨⟨v, h1, h2⟩, h3⟩ => ⟨⟨v, h1, h2.mono (Nat.zero_le _)⟩, K'.trans h3, h3⟩
    have h20 : ∀ w', Keep [] w2 w' → Calls Tryz.prog 20 #[.agg #[.slice A ps.length C, .slice K m D]] w' fun e w'' => e = .returned (.int .i64 (lostR ps)) ∧ Keep [] w2 w'' := fun w' K' =>
      (lost_any [] A K C m D ps w' (HP2.mv0 K') (by simp)).mono fun e w'' ⟨h1, h2⟩ => ⟨h1, K'.trans h2⟩
    have h21 : ∀ w', Keep [] w2 w' → Calls Tryz.prog 21 #[.agg #[.slice A ps.length C, .slice K m D]] w' fun e w'' => e = .returned (.int .i64 (lostR ps)) ∧ Keep [] w2 w'' := fun w' K' =>
      (lost11_any [] A K C m D ps w' (HP2.mv0 K') (by simp)).mono fun e w'' ⟨h1, h2⟩ => ⟨h1, K'.trans h2⟩
    have h22 : ∀ w', Keep [] w2 w' → Calls Tryz.prog 22 #[.agg #[.slice A ps.length C, .slice K m D]] w' fun e w'' => e = .returned (.int .i64 (vainR someF ps)) ∧ Keep [] w2 w'' := fun w' K' =>
      (vainT_any A K C m D ps w' (HP2.mv0 K') hsm).mono fun e w'' ⟨h1, h2⟩ => ⟨h1, K'.trans h2⟩
    have h23 : ∀ w', Keep [] w2 w' → Calls Tryz.prog 23 #[.agg #[.slice A ps.length C, .slice K m D]] w' fun e w'' => e = .returned (.int .i64 (vainR someF ps)) ∧ Keep [] w2 w'' := fun w' K' =>
      (vain11_any [] A K C m D ps w' (HP2.mv0 K') (by simp)).mono fun e w'' ⟨h1, h2⟩ => ⟨h1, K'.trans h2⟩
    have hb1 : (fromR ps n).length ≤ 1000000 := Nat.le_trans (fromR_len ps n) (by decide)
    have hb2 : (makesR someF ps).length ≤ 1000000 := Nat.le_trans (makesR_len someF ps) (by decide)
    generalize lostR ps = lo at h20 h21
    generalize vainR someF ps = vn at h22 h23
    generalize fromR ps n = fr at h16 h17 hb1
    generalize makesR someF ps = mk at h18 h19 hb2
    have H15a := Lib.hid (fun w' v u => h15 w' v u fr hb1)
    have H15b := Lib.hid (fun w' v u => h15 w' v u mk hb2)
    have H16 := Lib.hid h16
    have H17 := Lib.hid h17
    have H18 := Lib.hid h18
    have H19 := Lib.hid h19
    have H20 := Lib.hid h20
    have H21 := Lib.hid h21
    have H22 := Lib.hid h22
    have H23 := Lib.hid h23
    have Kd := (Keep.refl [] w2).drew
    clear h15 h16 h17 h18 h19 h20 h21 h22 h23 hkp HP2 B2 hsm hb1 hb2
    go_wp2
    clear b2
    first
      | (go_region_held3 (fun w' => w'.cell? ⟨w.heap.size, 0, none⟩ = some (.slice A ps.length C) ∧ w'.cell? ⟨w.heap.size, 1, none⟩ = some (.slice K m D) ∧ Keep [] w2 w') (exact HKP.out _ (by assumption)) (first
          | (go_at_call 16; refine (H16.out _ (by assumption)).mono ?_; rintro e w' ⟨⟨v1, rfl, hv1⟩, K1', _⟩; have HV1 := Lib.hid hv1; clear hv1)
          | (go_at_call 17; refine (H17.out _ (by assumption)).mono ?_; rintro e w' ⟨⟨v2, rfl, hv2⟩, K2', K2p⟩; have HV2 := Lib.hid hv2; have HV1' := Lib.hid (HV1.out.keep K2p (by simp)); clear hv2)
          | (go_at_call 15; refine (H15a.out _ _ _ (by assumption) HV1'.out HV2.out).mono ?_; rintro e w' ⟨rfl, K3'⟩)))
      | fail
    have K5 : Keep [] w2 _ := ‹Keep [] w2 w'›
    obtain ⟨g0, g1, _⟩ := HKP.out _ K5
    have Ke := K5.drew
    go_wp2
    first
      | (go_region_held3 (fun w' => w'.cell? ⟨w.heap.size, 0, none⟩ = some (.slice A ps.length C) ∧ w'.cell? ⟨w.heap.size, 1, none⟩ = some (.slice K m D) ∧ Keep [] w2 w') (exact HKP.out _ (by assumption)) (first
          | (go_at_call 18; refine (H18.out _ (by assumption)).mono ?_; rintro e w6 ⟨⟨v3, rfl, hv3⟩, K6, _⟩; have HV3 := Lib.hid hv3; clear hv3)
          | (go_at_call 19; refine (H19.out _ (by assumption)).mono ?_; rintro e w7 ⟨⟨v4, rfl, hv4⟩, K7, K7p⟩; have HV4 := Lib.hid hv4; have HV3' := Lib.hid (HV3.out.keep K7p (by simp)); clear hv4)
          | (go_at_call 15; refine (H15b.out _ _ _ (by assumption) HV3'.out HV4.out).mono ?_; rintro e w8 ⟨rfl, K8⟩)))
      | fail
    obtain ⟨q0, q1, _⟩ := HKP.out _ K8
    have Kf := K8.drew
    go_wp2
    first
      | (go_region_held3 (fun w' => w'.cell? ⟨w.heap.size, 0, none⟩ = some (.slice A ps.length C) ∧ w'.cell? ⟨w.heap.size, 1, none⟩ = some (.slice K m D) ∧ Keep [] w2 w') (exact HKP.out _ (by assumption)) (first
          | (go_at_call 20; refine (H20.out _ (by assumption)).mono ?_; rintro e w9 ⟨rfl, K9⟩)
          | (go_at_call 21; refine (H21.out _ (by assumption)).mono ?_; rintro e w10 ⟨rfl, K10⟩)
          | (go_at_call 22; refine (H22.out _ (by assumption)).mono ?_; rintro e w11 ⟨rfl, K11⟩)
          | (go_at_call 23; refine (H23.out _ (by assumption)).mono ?_; rintro e w12 ⟨rfl, K12⟩)))
      | fail
    all_goals
      have HF := Lib.hid (KF2.trans K12)
      go_wp2
      go_ret
      exact ⟨rfl, HF.out⟩
end Go.Proofs.YtacihjabkiedcaaGreatDoor
namespace Go.Proofs.YtacihjabkiedcaaGreatDoor.RowRT
open Go.ChangeShapes Go.WideShapes Go.ChangeAt Go.RowKit Go.Joins Go.Deep Go.Proofs.YtacihjabkiedcaaGreatDoor.RowG

def zeroA : Array Value := #[.agg #[.slice none 0 0, .slice none 0 0], .int .i64 0]
set_option maxRecDepth 100000 in
theorem laid_met (os : Os) : laidMet Tryz.prog laid2 ((laidWorld os).forCall (fun _ _ => 0) ⟨#[], zeroA, []⟩).memory :=
  laidMet_of_run' 8 (by kernel_rfl) (by kernel_rfl)
theorem reads (os : Os) {H : Type} (enc : TypeId × Value → H) : ∃ places, DataW.whole enc Tryz.prog ((laidWorld os).forCall (fun _ _ => 0) ⟨#[], zeroA, []⟩).memory Tryz.f3.params.toList Rows.reachTellsSpec.vars false zeroA.toList 8 = some ([.agg [.nil, .nil], .lit (.int .i64 0)], [], places) :=
  ⟨[], by kernel_rfl⟩
set_option maxRecDepth 100000 in
set_option maxHeartbeats 1000000 in
theorem contract (H : Type) (enc : TypeId × Value → H) (W : World) (args : Array Value) (ds gs : List (DataW H)) (before : List MemPlace) (base : Nat)
    (hval : ∀ (j : Nat) t v, Tryz.f3.params[j]? = some t → args[j]? = some v → Value.okWide Tryz.prog W .any base t v)
    (hW : DataW.Whole enc Tryz.prog Tryz.f3.params.toList Rows.reachTellsSpec.vars false W args.toList ds gs before) :
    Calls Tryz.prog 3 args W fun e W' => ∃ v, e = .returned v ∧ Rows.reachTellsSpec.post enc Tryz.prog Tryz.f3 false true false false W args v W' := by
  have hW' := hW
  obtain ⟨p, q, hA0, hV, rfl, hfz, hnd⟩ := hW
  have hA : DataW.TrodAll enc Tryz.prog W 0 (fun _ => true) true Tryz.f3.params.toList args.toList ds p := hA0
  rw [Tryz.params3] at hA hval
  obtain ⟨v0, vs0, d0, ds0, p0, q0, hargs, rfl, rfl, h0, r0⟩ := trodAll_cons hA
  obtain ⟨v1, vs1, d1, ds1, p1, q1, rfl, rfl, rfl, h1, r1⟩ := trodAll_cons r0
  obtain ⟨rfl, rfl, rfl⟩ := trodAll_nil r1
  obtain rfl : args = #[v0, v1] := by cases args; simp_all
  obtain ⟨rfl, rfl⟩ := trodVars_none hV
  have k0 := h0
  have lt0 : ∀ x ∈ p0, x.block < W.heap.size := by obtain ⟨m, hm⟩ := k0; exact DataW.trod_lt m _ _ _ hm
  obtain ⟨A0, ps0, C0, K0, m0, D0, rfl, hp0, hm0⟩ := open_gram rfl (hval 0 _ v0 rfl rfl) h0
  obtain ⟨a1, rfl, rfl, rfl, w1⟩ := open_int Tryz.underlying3 (hval 1 _ v1 rfl rfl) h1
  clear hA0
  refine (reachTells_walk A0 K0 C0 m0 D0 ps0 a1 W hp0 hm0).mono fun e W' ⟨he, kp⟩ => ?_
  have bel := kp.below
  subst he
  exact ⟨_, rfl, _, _, _, [], _, [], hW', trodAll_mk1 (shut_bool Tryz.underlying4 _), (trodAll_cons_mk (Below.trod laidOut (by kernel_rfl) (of_decide_eq_true (by kernel_rfl)) k0 bel lt0) (trodAll_cons_mk (shut_int Tryz.underlying3 w1) trodAll_mk0)), rfl, bel.frame _, fun h => by cases h⟩

set_option maxRecDepth 100000 in
theorem lifted (os : Os) (started : os.Started) (H : Type) (enc : TypeId × Value → H) (F : Stop.Interp) :
    ReturnsInHanded {} Tryz.checked os 3 .any ((OpenSpec.ofChange Rows.reachTellsSpec).preRow enc Tryz.prog Tryz.f3 Rows.reachTellsRow.domain false Rows.reachTellsRow.laid) (((OpenSpec.ofChange Rows.reachTellsSpec).at F).post enc Tryz.prog Tryz.f3 false true false false) := by
  obtain ⟨places, hx⟩ := reads os enc
  refine returnsInHanded_of_row (C := Tryz.checked) (s := OpenSpec.ofChange Rows.reachTellsSpec) own started (by kernel_rfl) Tryz.func3
    (witness_row_at (enc := enc) (C := Tryz.checked) false (laidWorld os) zeroA rfl (by kernel_rfl) (by kernel_rfl) (by kernel_rfl)
      (OpenSpec.preRow_of_cond 8 hx (by kernel_rfl) (fun k hk => by cases hk) (by kernel_rfl) (laid_met os))) ?_
  intro W base args ds gs before hval hW _ _ _ _ _ _
  exact contract H enc W args ds gs before base hval hW

theorem said : Rows.ReachTellsSaid :=
  OpenClaim.holds_of_cond 3 Tryz.f3 rfl rfl rfl rfl rfl rfl rfl ⟨rfl, rfl, rfl, rfl, rfl⟩ rfl rfl rfl rfl rfl (by kernel_rfl) Tryz.func3 (by kernel_rfl)
    (of_decide_eq_true (by kernel_rfl)) (by unfold Func.isWrapper; first | (rw [if_pos (by decide +kernel)]; kernel_rfl) | (rw [if_neg (by decide +kernel)]; exact ⟨rfl, rfl⟩))
    (fun os started H enc _ F => by rw [OpenClaim.pre_eq_preRow]; exact lifted os started H enc F)

theorem plain (f : FuncId) (fn : Func) (hf : Tryz.pinned.checked.prog.funcNamed "exegete/exegetelaw11.ReachTells" = some f) (hfn : Tryz.pinned.checked.prog.funcs[f]? = some fn) :
    true = Tryz.pinned.checked.prog.looks [] ∧ ∀ (j : Nat) t, fn.params[j]? = some t → Tryz.pinned.checked.prog.wantsStandIn t = false := by
  obtain rfl : f = 3 := Option.some.inj ((show Tryz.prog.funcNamed "exegete/exegetelaw11.ReachTells" = some 3 by kernel_rfl).symm.trans hf) |>.symm
  obtain rfl : fn = Tryz.f3 := (Option.some.inj (Tryz.func3.symm.trans hfn)).symm
  refine ⟨by kernel_rfl, fun j t ht => ?_⟩
  rw [Tryz.params3] at ht
  have hm : t = 25 ∨ t = 3 := by simpa [or_assoc] using Array.mem_of_getElem? ht
  rcases hm with rfl | rfl
  · exact (show Tryz.prog.wantsStandIn 25 = false by kernel_rfl)
  · exact (show Tryz.prog.wantsStandIn 3 = false by kernel_rfl)

theorem card : Rows.ReachTellsCardSaid :=
  Claim7.holds_tied_plain_at .later [] _ _ _ _ said (fun _ h => by cases h) (by kernel_rfl) (fun _ h => by cases h) reachTells_row_tie rfl ⟨rfl, rfl⟩ (by kernel_rfl) rfl plain (by kernel_rfl)
end Go.Proofs.YtacihjabkiedcaaGreatDoor.RowRT
namespace Go.Proofs.YtacihjabkiedcaaGreatDoor
/-- The card of the law. -/
theorem reachTells_card : Rows.ReachTellsCardSaid := RowRT.card
#print axioms reachTells_card
end Go.Proofs.YtacihjabkiedcaaGreatDoor
