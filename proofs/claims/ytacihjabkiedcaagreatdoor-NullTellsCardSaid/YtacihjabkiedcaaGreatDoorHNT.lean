/- The law NullTells, as its row and its card state it: for every input it answers true and the arguments read as before. -/
import Derived.Test.YtacihjabkiedcaaGreatDoorH28
import Derived.Test.YtacihjabkiedcaaGreatDoorH25
import Derived.Test.YtacihjabkiedcaaGreatDoorH19
set_option linter.unusedVariables false
set_option linter.unusedSimpArgs false
namespace Go.Proofs.YtacihjabkiedcaaGreatDoor
open Go Go.RowKit Go.MapKept

theorem allR_len (ps : List ProdS) : (allR ps).length ≤ 1000000 := by
  unfold allR
  split
  · rename_i hg
    have := (gmay_len hg).2
    simp [bl]; omega
  · simp
set_option maxRecDepth 20000 in
set_option maxHeartbeats 8000000 in
theorem nullTells_walk (A K AA : Option Addr) (C m D CA : Nat) (ps : List ProdS) (n : Int) (l : List SymS) (w : World) (HP : Prods [] w (.slice A ps.length C) ps) (hmk : m ≤ 9223372036854775807) (HA : Syms [] w (.slice AA l.length CA) l) :
    Calls Tryz.prog 7 #[.agg #[.slice A ps.length C, .slice K m D], .int .i64 n, .slice AA l.length CA] w fun e w' => e = .returned (.bool true) ∧ Keep [] w w' := by
  have K0 := (Keep.refl [] w).alloc (.cells #[.slice A ps.length C, .slice K m D] 25)
  have HP0 : Prods [] _ (.slice A ps.length C) ps := HP.mv0 K0
  have B0 := Blk.new w #[.slice A ps.length C, .slice K m D] 25
  have hla := (SlOf.len HA).2.1
  have hlp := (SlOf.len HP).2.1
  have HAA := Lib.hid HA
  clear HP HA
  go_enter Tryz.func7, Tryz.ntmps7
  go_wp2_with fail
  refine (awake9_any _).mono ?_
  rintro e w1 ⟨rfl, K1⟩
  have B1 := B0.keep K1 (by simp)
  have b1 := B1.cell
  have HP1 : Prods [] w1 (.slice A ps.length C) ps := HP0.mv0 K1
  go_wp2_with fail
  refine (few_any [] A K C m D ps _ HP1 hmk).mono ?_
  rintro e w2 ⟨⟨fw, rfl⟩, K2⟩
  have B2 := B1.keep K2 (by simp)
  have b2 := B2.cell
  have HP2 : Prods [] w2 (.slice A ps.length C) ps := HP1.mv0 K2
  have KF2 := (K0.trans K1).trans K2
  clear HP0 HP1 B0 B1 b1
  cases fw with
  | false =>
    clear HP2
    go_wp2
    go_ret
    exact ⟨rfl, KF2⟩
  | true =>
    by_cases h60 : 60 < l.length
    · have h60' : (60 : Int) < (l.length : Int) := by omega
      clear HP2
      go_wp2
      go_ret
      exact ⟨rfl, KF2⟩
    · have h60' : (l.length : Int) ≤ 60 := by omega
      have HS := Lib.hid (HAA.out.mv0 KF2)
      have hkp : ∀ w', Keep [] w2 w' → w'.cell? ⟨w.heap.size, 0, none⟩ = some (.slice A ps.length C) ∧ w'.cell? ⟨w.heap.size, 1, none⟩ = some (.slice K m D) ∧ Keep [] w2 w' := fun w' K' => ⟨(B2.keep K' (by simp)).cell 0, (B2.keep K' (by simp)).cell 1, K'⟩
      have HKP := Lib.hid hkp
      have h25 : ∀ w', Keep [] w2 w' → Calls Tryz.prog 25 #[.agg #[.slice A ps.length C, .slice K m D]] w' fun e w'' => (∃ v, e = .returned v ∧ BoolV w'' 0 v (allR ps)) ∧ Keep [] w2 w'' ∧ Keep [] w' w'' := fun w' K' =>
        (all_nulls [] A K C m D ps w' (HP2.mv0 K') (by simp)).mono fun e w'' ⟨⟨v, h1, h2⟩, h3⟩ => ⟨⟨v, h1, h2.mono (Nat.zero_le _)⟩, K'.trans h3, h3⟩
      have h27 : ∀ w', Keep [] w2 w' → Calls Tryz.prog 27 #[.agg #[.slice A ps.length C, .slice K m D]] w' fun e w'' => (∃ v, e = .returned v ∧ BoolV w'' 0 v (allR ps)) ∧ Keep [] w2 w'' ∧ Keep [] w' w'' := fun w' K' => by
        have := all9_any [] A K C m D ps w' (HP2.mv0 K') (by simp)
        rw [all9_eq] at this
        exact this.mono fun e w'' ⟨⟨v, h1, h2⟩, h3⟩ => ⟨⟨v, h1, h2.mono (Nat.zero_le _)⟩, K'.trans h3, h3⟩
      have h15 : ∀ w' v u, Keep [] w2 w' → BoolV w' 0 v (allR ps) → BoolV w' 0 u (allR ps) → Calls Tryz.prog 15 #[v, u] w' fun e w'' => e = .returned (.bool true) ∧ Keep [] w2 w'' := fun w' v u K' h1 h2 =>
        (bools_any 0 v u _ _ w' h1 h2 (allR_len ps) (allR_len ps)).mono fun e w'' ⟨h3, h4⟩ => ⟨by rw [h3]; simp, K'.trans h4⟩
      have h29 : ∀ w', Keep [] w2 w' → Calls Tryz.prog 29 #[.agg #[.slice A ps.length C, .slice K m D], .int .i64 n] w' fun e w'' => (∃ v, e = .returned v ∧ IntV w'' 0 v (leftsR ps n)) ∧ Keep [] w2 w'' ∧ Keep [] w' w'' := fun w' K' =>
        (lefts_any A K C m D n [] ps w' (HP2.mv0 K') (by simp) hlp).mono fun e w'' ⟨⟨v, h1, h2⟩, h3⟩ => ⟨⟨v, h1, h2.low (Nat.zero_le _)⟩, K'.trans h3, h3⟩
      have h30 : ∀ w', Keep [] w2 w' → Calls Tryz.prog 30 #[.agg #[.slice A ps.length C, .slice K m D], .int .i64 n] w' fun e w'' => (∃ v, e = .returned v ∧ IntV w'' 0 v (leftsR ps n)) ∧ Keep [] w2 w'' ∧ Keep [] w' w'' := fun w' K' =>
        (lefts9_any [] A K C m D n ps w' (HP2.mv0 K') (by simp)).mono fun e w'' ⟨⟨v, h1, h2⟩, h3⟩ => ⟨⟨v, h1, h2.low (Nat.zero_le _)⟩, K'.trans h3, h3⟩
      have h28 : ∀ w' v u, Keep [] w2 w' → IntV w' 0 v (leftsR ps n) → IntV w' 0 u (leftsR ps n) → Calls Tryz.prog 28 #[v, u] w' fun e w'' => e = .returned (.bool true) ∧ Keep [] w2 w'' := fun w' v u K' h1 h2 =>
        (ints_any 0 0 v u _ _ w' h1 h2).mono fun e w'' ⟨h3, h4⟩ => ⟨by rw [h3]; simp, K'.trans h4⟩
      have h31 : ∀ w', Keep [] w2 w' → Calls Tryz.prog 31 #[.agg #[.slice A ps.length C, .slice K m D], .slice AA l.length CA] w' fun e w'' => e = .returned (.bool (emptyR ps l)) ∧ Keep [] w2 w'' := fun w' K' =>
        (empty9_any [] A K AA C m D CA ps l w' (HP2.mv0 K') (by simp) (HS.out.mv0 K')).mono fun e w'' ⟨h1, h2⟩ => ⟨h1, K'.trans h2⟩
      have h32 : ∀ w', Keep [] w2 w' → Calls Tryz.prog 32 #[.agg #[.slice A ps.length C, .slice K m D], .slice AA l.length CA] w' fun e w'' => e = .returned (.bool (emptyR ps l)) ∧ Keep [] w2 w'' := fun w' K' =>
        (empty_any A K AA C m D CA [] ps l w' (HP2.mv0 K') (by simp) (HS.out.mv0 K')).mono fun e w'' ⟨h1, h2⟩ => ⟨h1, K'.trans h2⟩
      have H25 := Lib.hid h25
      have H27 := Lib.hid h27
      have H15 := Lib.hid h15
      have H29 := Lib.hid h29
      have H30 := Lib.hid h30
      have H28 := Lib.hid h28
      generalize emptyR ps l = er at h31 h32
      have H31 := Lib.hid h31
      have H32 := Lib.hid h32
      have Kd := (Keep.refl [] w2).drew
      clear h25 h27 h15 h29 h30 h28 h31 h32 hkp HP2 B2 HAA h60
      go_wp2
      clear b2
      first
        | (go_region_held3 (fun w' => w'.cell? ⟨w.heap.size, 0, none⟩ = some (.slice A ps.length C) ∧ w'.cell? ⟨w.heap.size, 1, none⟩ = some (.slice K m D) ∧ Keep [] w2 w') (exact HKP.out _ (by assumption)) (first
            | (go_at_call 25; refine (H25.out _ (by assumption)).mono ?_; rintro e w' ⟨⟨v1, rfl, hv1⟩, K1', _⟩; have HV1 := Lib.hid hv1; clear hv1)
            | (go_at_call 27; refine (H27.out _ (by assumption)).mono ?_; rintro e w' ⟨⟨v2, rfl, hv2⟩, K2', K2p⟩; have HV2 := Lib.hid hv2; have HV1' := Lib.hid (HV1.out.keep K2p (by simp)); clear hv2)
            | (go_at_call 15; refine (H15.out _ _ _ (by assumption) HV1'.out HV2.out).mono ?_; rintro e w' ⟨rfl, K3'⟩)))
        | fail
      have K5 : Keep [] w2 _ := ‹Keep [] w2 w'›
      obtain ⟨g0, g1, _⟩ := HKP.out _ K5
      have Ke := K5.drew
      go_wp2
      first
        | (go_region_held3 (fun w' => w'.cell? ⟨w.heap.size, 0, none⟩ = some (.slice A ps.length C) ∧ w'.cell? ⟨w.heap.size, 1, none⟩ = some (.slice K m D) ∧ Keep [] w2 w') (exact HKP.out _ (by assumption)) (first
            | (go_at_call 29; refine (H29.out _ (by assumption)).mono ?_; rintro e w6 ⟨⟨v3, rfl, hv3⟩, K6, _⟩; have HV3 := Lib.hid hv3; clear hv3)
            | (go_at_call 30; refine (H30.out _ (by assumption)).mono ?_; rintro e w7 ⟨⟨v4, rfl, hv4⟩, K7, K7p⟩; have HV4 := Lib.hid hv4; have HV3' := Lib.hid (HV3.out.keep K7p (by simp)); clear hv4)
            | (go_at_call 28; refine (H28.out _ _ _ (by assumption) HV3'.out HV4.out).mono ?_; rintro e w8 ⟨rfl, K8⟩)))
        | fail
      obtain ⟨q0, q1, _⟩ := HKP.out _ K8
      go_wp2_with fail
      refine (H31.out _ K8).mono ?_
      rintro e w9 ⟨rfl, K9⟩
      obtain ⟨p0, p1, _⟩ := HKP.out _ K9
      go_wp2_with fail
      refine (H32.out _ K9).mono ?_
      rintro e w10 ⟨rfl, K10⟩
      have HF := Lib.hid (KF2.trans K10)
      cases er
      all_goals
        go_wp2
        go_ret
        exact ⟨rfl, HF.out⟩
end Go.Proofs.YtacihjabkiedcaaGreatDoor
namespace Go.Proofs.YtacihjabkiedcaaGreatDoor.RowNT
open Go.ChangeShapes Go.WideShapes Go.ChangeAt Go.RowKit Go.Joins Go.Deep Go.Proofs.YtacihjabkiedcaaGreatDoor.RowG

def zeroA : Array Value := #[.agg #[.slice none 0 0, .slice none 0 0], .int .i64 0, .slice none 0 0]
set_option maxRecDepth 100000 in
theorem laid_met (os : Os) : laidMet Tryz.prog laid2 ((laidWorld os).forCall (fun _ _ => 0) ⟨#[], zeroA, []⟩).memory :=
  laidMet_of_run' 8 (by kernel_rfl) (by kernel_rfl)
theorem reads (os : Os) {H : Type} (enc : TypeId × Value → H) : ∃ places, DataW.whole enc Tryz.prog ((laidWorld os).forCall (fun _ _ => 0) ⟨#[], zeroA, []⟩).memory Tryz.f7.params.toList Rows.nullTellsSpec.vars false zeroA.toList 8 = some ([.agg [.nil, .nil], .lit (.int .i64 0), .nil], [], places) :=
  ⟨[], by kernel_rfl⟩
set_option maxRecDepth 100000 in
set_option maxHeartbeats 1000000 in
theorem contract (H : Type) (enc : TypeId × Value → H) (W : World) (args : Array Value) (ds gs : List (DataW H)) (before : List MemPlace) (base : Nat)
    (hval : ∀ (j : Nat) t v, Tryz.f7.params[j]? = some t → args[j]? = some v → Value.okWide Tryz.prog W .any base t v)
    (hW : DataW.Whole enc Tryz.prog Tryz.f7.params.toList Rows.nullTellsSpec.vars false W args.toList ds gs before) :
    Calls Tryz.prog 7 args W fun e W' => ∃ v, e = .returned v ∧ Rows.nullTellsSpec.post enc Tryz.prog Tryz.f7 false true false false W args v W' := by
  have hW' := hW
  obtain ⟨p, q, hA0, hV, rfl, hfz, hnd⟩ := hW
  have hA : DataW.TrodAll enc Tryz.prog W 0 (fun _ => true) true Tryz.f7.params.toList args.toList ds p := hA0
  rw [Tryz.params7] at hA hval
  obtain ⟨v0, vs0, d0, ds0, p0, q0, hargs, rfl, rfl, h0, r0⟩ := trodAll_cons hA
  obtain ⟨v1, vs1, d1, ds1, p1, q1, rfl, rfl, rfl, h1, r1⟩ := trodAll_cons r0
  obtain ⟨v2, vs2, d2, ds2, p2, q2, rfl, rfl, rfl, h2, r2⟩ := trodAll_cons r1
  obtain ⟨rfl, rfl, rfl⟩ := trodAll_nil r2
  obtain rfl : args = #[v0, v1, v2] := by cases args; simp_all
  obtain ⟨rfl, rfl⟩ := trodVars_none hV
  have k0 := h0
  have lt0 : ∀ x ∈ p0, x.block < W.heap.size := by obtain ⟨m, hm⟩ := k0; exact DataW.trod_lt m _ _ _ hm
  have k2 := h2
  have lt2 : ∀ x ∈ p2, x.block < W.heap.size := by obtain ⟨m, hm⟩ := k2; exact DataW.trod_lt m _ _ _ hm
  obtain ⟨A0, ps0, C0, K0, m0, D0, rfl, hp0, hm0⟩ := open_gram rfl (hval 0 _ v0 rfl rfl) h0
  obtain ⟨a1, rfl, rfl, rfl, w1⟩ := open_int Tryz.underlying3 (hval 1 _ v1 rfl rfl) h1
  obtain ⟨x2, y2, z2, rfl⟩ := okWide_slice Tryz.underlying40 (hval 2 _ v2 rfl rfl)
  obtain ⟨n2, hn2⟩ := h2
  obtain ⟨A2, l2, C2, e2, hp2⟩ := syms_read hn2
  obtain ⟨rfl, rfl, rfl⟩ : x2 = A2 ∧ y2 = l2.length ∧ z2 = C2 := by simpa using e2
  clear hA0
  refine (nullTells_walk A0 K0 x2 C0 m0 D0 z2 ps0 a1 l2 W hp0 hm0 hp2).mono fun e W' ⟨he, kp⟩ => ?_
  have bel := kp.below
  subst he
  exact ⟨_, rfl, _, _, _, [], _, [], hW', trodAll_mk1 (shut_bool Tryz.underlying4 _), (trodAll_cons_mk (Below.trod laidOut (by kernel_rfl) (of_decide_eq_true (by kernel_rfl)) k0 bel lt0) (trodAll_cons_mk (shut_int Tryz.underlying3 w1) (trodAll_cons_mk (Below.trod laidOut (by kernel_rfl) (of_decide_eq_true (by kernel_rfl)) k2 bel lt2) trodAll_mk0))), rfl, bel.frame _, fun h => by cases h⟩

set_option maxRecDepth 100000 in
theorem lifted (os : Os) (started : os.Started) (H : Type) (enc : TypeId × Value → H) (F : Stop.Interp) :
    ReturnsInHanded {} Tryz.checked os 7 .any ((OpenSpec.ofChange Rows.nullTellsSpec).preRow enc Tryz.prog Tryz.f7 Rows.nullTellsRow.domain false Rows.nullTellsRow.laid) (((OpenSpec.ofChange Rows.nullTellsSpec).at F).post enc Tryz.prog Tryz.f7 false true false false) := by
  obtain ⟨places, hx⟩ := reads os enc
  refine returnsInHanded_of_row (C := Tryz.checked) (s := OpenSpec.ofChange Rows.nullTellsSpec) own started (by kernel_rfl) Tryz.func7
    (witness_row_at (enc := enc) (C := Tryz.checked) false (laidWorld os) zeroA rfl (by kernel_rfl) (by kernel_rfl) (by kernel_rfl)
      (OpenSpec.preRow_of_cond 8 hx (by kernel_rfl) (fun k hk => by cases hk) (by kernel_rfl) (laid_met os))) ?_
  intro W base args ds gs before hval hW _ _ _ _ _ _
  exact contract H enc W args ds gs before base hval hW

theorem said : Rows.NullTellsSaid :=
  OpenClaim.holds_of_cond 7 Tryz.f7 rfl rfl rfl rfl rfl rfl rfl ⟨rfl, rfl, rfl, rfl, rfl⟩ rfl rfl rfl rfl rfl (by kernel_rfl) Tryz.func7 (by kernel_rfl)
    (of_decide_eq_true (by kernel_rfl)) (by unfold Func.isWrapper; first | (rw [if_pos (by decide +kernel)]; kernel_rfl) | (rw [if_neg (by decide +kernel)]; exact ⟨rfl, rfl⟩))
    (fun os started H enc _ F => by rw [OpenClaim.pre_eq_preRow]; exact lifted os started H enc F)

theorem plain (f : FuncId) (fn : Func) (hf : Tryz.pinned.checked.prog.funcNamed "exegete/exegetelaw09.NullTells" = some f) (hfn : Tryz.pinned.checked.prog.funcs[f]? = some fn) :
    true = Tryz.pinned.checked.prog.looks [] ∧ ∀ (j : Nat) t, fn.params[j]? = some t → Tryz.pinned.checked.prog.wantsStandIn t = false := by
  obtain rfl : f = 7 := Option.some.inj ((show Tryz.prog.funcNamed "exegete/exegetelaw09.NullTells" = some 7 by kernel_rfl).symm.trans hf) |>.symm
  obtain rfl : fn = Tryz.f7 := (Option.some.inj (Tryz.func7.symm.trans hfn)).symm
  refine ⟨by kernel_rfl, fun j t ht => ?_⟩
  rw [Tryz.params7] at ht
  have hm : t = 25 ∨ t = 3 ∨ t = 40 := by simpa [or_assoc] using Array.mem_of_getElem? ht
  rcases hm with rfl | rfl | rfl
  · exact (show Tryz.prog.wantsStandIn 25 = false by kernel_rfl)
  · exact (show Tryz.prog.wantsStandIn 3 = false by kernel_rfl)
  · exact (show Tryz.prog.wantsStandIn 40 = false by kernel_rfl)

theorem card : Rows.NullTellsCardSaid :=
  Claim7.holds_tied_plain_at .later [] _ _ _ _ said (fun _ h => by cases h) (by kernel_rfl) (fun _ h => by cases h) nullTells_row_tie rfl ⟨rfl, rfl⟩ (by kernel_rfl) rfl plain (by kernel_rfl)
end Go.Proofs.YtacihjabkiedcaaGreatDoor.RowNT
namespace Go.Proofs.YtacihjabkiedcaaGreatDoor
/-- The card of the law. -/
theorem nullTells_card : Rows.NullTellsCardSaid := RowNT.card
#print axioms nullTells_card
end Go.Proofs.YtacihjabkiedcaaGreatDoor
