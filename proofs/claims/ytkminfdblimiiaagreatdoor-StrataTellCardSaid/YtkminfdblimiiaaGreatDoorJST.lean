/- The law StrataTell, as its row and its card state it: for every input it answers true and the arguments read as before. -/
import Derived.Test.YtkminfdblimiiaaGreatDoorJ23
import Derived.Test.YtkminfdblimiiaaGreatDoorJ19
import Derived.Test.YtkminfdblimiiaaGreatDoorJ24
set_option linter.unusedVariables false
set_option linter.unusedSimpArgs false
namespace Go.Proofs.YtkminfdblimiiaaGreatDoor
open Go Go.RowKit Go.MapKept

/-- Both orders are one. -/
theorem ord_same {ps : List ProdS} {r r' : Option (List Int)} (h1 : gmay ps = true → OrdRel ps (filtN ps) [] r) (h2 : gmay ps = false → r = none) (k1 : gmay ps = true → OrdRel ps (filtN ps) [] r') (k2 : gmay ps = false → r' = none) : r = r' := by
  cases hg : gmay ps with
  | false => rw [h2 hg, k2 hg]
  | true => exact (h1 hg).same (k1 hg)
set_option maxRecDepth 20000 in
set_option maxHeartbeats 4000000 in
theorem strataTell_walk (A K : Option Addr) (C m D : Nat) (ps : List ProdS) (PA : Option Addr) (PC : Nat) (N : Option Addr) (F : Nat) (q : ProdS) (w : World) (HP : Prods [] w (.slice A ps.length C) ps) (hmk : m ≤ 9223372036854775807) (hq : q.marks ≤ 9223372036854775807) :
    Calls Tryz.prog 3 #[.agg #[.slice A ps.length C, .slice K m D], .agg #[.slice PA q.a.length PC, .int .i64 q.marks, .slice N q.nt.length F]] w fun e w' => e = .returned (.bool true) ∧ Keep [] w w' := by
  obtain ⟨qa, qm, qn⟩ := q
  simp only at hq ⊢
  generalize qa.length = la
  generalize qn.length = ln
  have KA := (Keep.refl [] w).alloc (.cells #[.slice A ps.length C, .slice K m D] 25)
  have BA := Blk.new w #[.slice A ps.length C, .slice K m D] 25
  have hsz : (w.alloc (.cells #[.slice A ps.length C, .slice K m D] 25)).heap.size = w.heap.size + 1 := by simp
  have BP := Blk.new (w.alloc (.cells #[.slice A ps.length C, .slice K m D] 25)) #[.slice PA la PC, .int .i64 qm, .slice N ln F] 29
  rw [hsz] at BP
  have K0 := KA.alloc (.cells #[.slice PA la PC, .int .i64 qm, .slice N ln F] 29)
  have B0 := BA.alloc (.cells #[.slice PA la PC, .int .i64 qm, .slice N ln F] 29)
  have HP0 : Prods [] _ (.slice A ps.length C) ps := HP.mv0 K0
  clear HP KA BA hsz
  go_enter Tryz.func3, Tryz.ntmps3
  go_wp2_with fail
  refine (awake12_any _).mono ?_
  rintro e w1 ⟨rfl, K1⟩
  have B1 := B0.keep K1 (by simp)
  have b1 := B1.cell
  have HP1 : Prods [] w1 (.slice A ps.length C) ps := HP0.mv0 K1
  go_wp2_with fail
  refine (few_any [] A K C m D ps _ HP1 hmk).mono ?_
  rintro e w2 ⟨⟨fw, rfl⟩, K2⟩
  have B2 := B1.keep K2 (by simp)
  have b2 := B2.cell
  have BP2 := (BP.keep K1 (by simp)).keep K2 (by simp)
  have bp2 := BP2.cell
  have HP2 : Prods [] w2 (.slice A ps.length C) ps := HP1.mv0 K2
  have KF2 := (K0.trans K1).trans K2
  clear HP0 HP1 B0 B1 b1 BP
  cases fw with
  | false =>
    clear HP2
    go_wp2
    go_ret
    exact ⟨rfl, KF2⟩
  | true =>
    by_cases hn : 60 < ln
    · have hd : decide (60 < ln) = true := by simpa using hn
      have hn' : (60 : Int) < (ln : Int) := by omega
      clear HP2
      go_wp2
      go_ret
      exact ⟨rfl, KF2⟩
    · have hd : decide (60 < ln) = false := by simpa using hn
      have hn' : (ln : Int) ≤ 60 := by omega
      by_cases hq0 : qm < 0
      · have hd0 : decide (qm < 0) = true := by simpa using hq0
        clear HP2
        go_wp2
        go_ret
        exact ⟨rfl, KF2⟩
      · have hd0 : decide (qm < 0) = false := by simpa using hq0
        have hq1 : 0 ≤ qm := by omega
        have HPP := Lib.hid HP2
        have HBB := Lib.hid (⟨B2, BP2⟩ : _ ∧ _)
        have HKF := Lib.hid KF2
        have HKP := Lib.hid (fun w' (K' : Keep [] w2 w') => (⟨(B2.keep K' (by simp)).cell 0, (B2.keep K' (by simp)).cell 1, (BP2.keep K' (by simp)).cell 0, (BP2.keep K' (by simp)).cell 1, (BP2.keep K' (by simp)).cell 2, K'⟩ : w'.cell? ⟨w.heap.size, 0, none⟩ = some (.slice A ps.length C) ∧ w'.cell? ⟨w.heap.size, 1, none⟩ = some (.slice K m D) ∧ w'.cell? ⟨w.heap.size + 1, 0, none⟩ = some (.slice PA la PC) ∧ w'.cell? ⟨w.heap.size + 1, 1, none⟩ = some (.int .i64 qm) ∧ w'.cell? ⟨w.heap.size + 1, 2, none⟩ = some (.slice N ln F) ∧ Keep [] w2 w'))
        have HC10 := Lib.hid (order12_any A K C m D ps w2 HP2)
        have HC11 := Lib.hid (fun w' (K' : Keep [] w2 w') => orderR12_any A K C m D ps w' (HP2.mv0 K'))
        have hf1 : ∀ w', Keep [] w2 w' → Calls Tryz.prog 13 #[.agg #[.slice PA la PC, .int .i64 qm, .slice N ln F]] w' fun e w'' => e = .returned (.bool (hasM qm 3 || decide (0 < ln))) ∧ Keep [] w2 w'' := fun w' K' => (filtR_any _ qm N ln F w' hq1 hq).mono fun e w'' ⟨h1, h2⟩ => ⟨h1, K'.trans h2⟩
        have hf2 : ∀ w', Keep [] w2 w' → Calls Tryz.prog 14 #[.agg #[.slice PA la PC, .int .i64 qm, .slice N ln F]] w' fun e w'' => e = .returned (.bool (hasM qm 3 || decide (0 < ln))) ∧ Keep [] w2 w'' := fun w' K' => (filt_any _ qm N ln F w').mono fun e w'' ⟨h1, h2⟩ => ⟨h1, K'.trans h2⟩
        have hb1 : ∀ w', Keep [] w2 w' → Calls Tryz.prog 15 #[.agg #[.slice A ps.length C, .slice K m D]] w' fun e w'' => e = .returned (.int .i64 (badR ps)) ∧ Keep [] w2 w'' := fun w' K' => (bad12_any A K C m D ps w' (HP2.mv0 K')).mono fun e w'' ⟨h1, h2⟩ => ⟨h1, K'.trans h2⟩
        have hb2 : ∀ w', Keep [] w2 w' → Calls Tryz.prog 16 #[.agg #[.slice A ps.length C, .slice K m D]] w' fun e w'' => e = .returned (.int .i64 (badR ps)) ∧ Keep [] w2 w'' := fun w' K' => (badR12_any A K C m D ps w' (HP2.mv0 K')).mono fun e w'' ⟨h1, h2⟩ => ⟨h1, K'.trans h2⟩
        have hl1 : ∀ w', Keep [] w2 w' → Calls Tryz.prog 17 #[.agg #[.slice A ps.length C, .slice K m D]] w' fun e w'' => e = .returned (.int .i64 (laidR ps)) ∧ Keep [] w2 w'' := fun w' K' => (laid12_any A K C m D ps w' (HP2.mv0 K')).mono fun e w'' ⟨h1, h2⟩ => ⟨h1, K'.trans h2⟩
        have hl2 : ∀ w', Keep [] w2 w' → Calls Tryz.prog 18 #[.agg #[.slice A ps.length C, .slice K m D]] w' fun e w'' => e = .returned (.int .i64 (laidR ps)) ∧ Keep [] w2 w'' := fun w' K' => (laidR12_any A K C m D ps w' (HP2.mv0 K')).mono fun e w'' ⟨h1, h2⟩ => ⟨h1, K'.trans h2⟩
        generalize (hasM qm 3 || decide (0 < ln)) = ff at hf1 hf2
        generalize badR ps = bb at hb1 hb2
        generalize laidR ps = ll at hl1 hl2
        have HF1 := Lib.hid hf1
        have HF2 := Lib.hid hf2
        have HB1 := Lib.hid hb1
        have HB2 := Lib.hid hb2
        have HL1 := Lib.hid hl1
        have HL2 := Lib.hid hl2
        clear hf1 hf2 hb1 hb2 hl1 hl2 HP2 B2 BP2 KF2 hn hq0
        go_wp2_with fail
        refine HC10.out.mono ?_
        rintro e w3 ⟨⟨r, hr1, hr2, v, rfl, hv⟩, K3⟩
        obtain ⟨a0, a1, a2, a3, a4, _⟩ := HKP.out w3 K3
        have HR := Lib.hid (⟨hr1, hr2⟩ : _ ∧ _)
        have HV := Lib.hid hv
        clear hr1 hr2 hv b2 bp2 HC10
        go_wp2_with fail
        refine (HC11.out w3 K3).mono ?_
        rintro e w4 ⟨⟨r', hk1, hk2, u, rfl, hu⟩, K4⟩
        obtain rfl : r = r' := ord_same HR.out.1 HR.out.2 hk1 hk2
        have K24 := K3.trans K4
        have hin := ints_c v u _ _ w4 (HV.out.keep K4) hu
        simp only [decide_true] at hin
        have HI := Lib.hid hin
        clear hk1 hk2 hu hin K3 K4 HV HR a0 a1 a2 a3 a4 HC11
        generalize r.isSome = rs
        go_wp2_with fail
        refine HI.out.mono ?_
        rintro e w5 ⟨rfl, K5⟩
        have K25 := K24.trans K5
        obtain ⟨a0, a1, a2, a3, a4, _⟩ := HKP.out w5 K25
        clear HI
        go_wp2_with fail
        refine (HF1.out w5 K25).mono ?_
        rintro e w6 ⟨rfl, K6⟩
        obtain ⟨c0, c1, c2, c3, c4, _⟩ := HKP.out w6 K6
        clear a0 a1 a2 a3 a4 HF1 K24 K5 K25
        have Kd := K6.drew
        have hrs : (rs == rs) = true := by simp
        have hff : (ff == ff) = true := by simp
        have hbb : (bb == bb) = true := by simp
        have hll : (ll == ll) = true := by simp
        go_wp2
        first
          | (go_region_held3 (fun w' => w'.cell? ⟨w.heap.size, 0, none⟩ = some (.slice A ps.length C) ∧ w'.cell? ⟨w.heap.size, 1, none⟩ = some (.slice K m D) ∧ w'.cell? ⟨w.heap.size + 1, 0, none⟩ = some (.slice PA la PC) ∧ w'.cell? ⟨w.heap.size + 1, 1, none⟩ = some (.int .i64 qm) ∧ w'.cell? ⟨w.heap.size + 1, 2, none⟩ = some (.slice N ln F) ∧ Keep [] w2 w') (exact HKP.out _ (by assumption)) (first
              | (go_at_call 14; refine (HF2.out _ (by assumption)).mono ?_; rintro e w7 ⟨rfl, K7⟩)
              | (go_at_call 15; refine (HB1.out _ (by assumption)).mono ?_; rintro e w8 ⟨rfl, K8⟩)
              | (go_at_call 16; refine (HB2.out _ (by assumption)).mono ?_; rintro e w9 ⟨rfl, K9⟩)
              | (go_at_call 17; refine (HL1.out _ (by assumption)).mono ?_; rintro e w10 ⟨rfl, K10⟩)
              | (go_at_call 18; refine (HL2.out _ (by assumption)).mono ?_; rintro e w11 ⟨rfl, K11⟩)))
          | fail
        go_wp2
        go_ret
        exact ⟨by simp, HKF.out.trans (by assumption)⟩
end Go.Proofs.YtkminfdblimiiaaGreatDoor
namespace Go.Proofs.YtkminfdblimiiaaGreatDoor.RowST
open Go.ChangeShapes Go.WideShapes Go.ChangeAt Go.RowKit Go.Joins Go.Deep Go.Proofs.YtkminfdblimiiaaGreatDoor.RowG

def zeroA : Array Value := #[.agg #[.slice none 0 0, .slice none 0 0], .agg #[.slice none 0 0, .int .i64 0, .slice none 0 0]]
set_option maxRecDepth 100000 in
theorem laid_met (os : Os) : laidMet Tryz.prog laid2 ((laidWorld os).forCall (fun _ _ => 0) ⟨#[], zeroA, []⟩).memory :=
  laidMet_of_run' 8 (by kernel_rfl) (by kernel_rfl)
theorem reads (os : Os) {H : Type} (enc : TypeId × Value → H) : ∃ places, DataW.whole enc Tryz.prog ((laidWorld os).forCall (fun _ _ => 0) ⟨#[], zeroA, []⟩).memory Tryz.f3.params.toList Rows.strataTellSpec.vars false zeroA.toList 8 = some ([.agg [.nil, .nil], .agg [.nil, .lit (.int .i64 0), .nil]], [], places) :=
  ⟨[], by kernel_rfl⟩
set_option maxRecDepth 100000 in
set_option maxHeartbeats 1000000 in
theorem contract (H : Type) (enc : TypeId × Value → H) (W : World) (args : Array Value) (ds gs : List (DataW H)) (before : List MemPlace) (base : Nat)
    (hval : ∀ (j : Nat) t v, Tryz.f3.params[j]? = some t → args[j]? = some v → Value.okWide Tryz.prog W .any base t v)
    (hW : DataW.Whole enc Tryz.prog Tryz.f3.params.toList Rows.strataTellSpec.vars false W args.toList ds gs before) :
    Calls Tryz.prog 3 args W fun e W' => ∃ v, e = .returned v ∧ Rows.strataTellSpec.post enc Tryz.prog Tryz.f3 false true false false W args v W' := by
  have hW' := hW
  obtain ⟨p, q, hA0, hV, rfl, hfz, hnd⟩ := hW
  have hA : DataW.TrodAll enc Tryz.prog W 0 (fun _ => true) true Tryz.f3.params.toList args.toList ds p := hA0
  rw [Tryz.params3] at hA hval
  obtain ⟨v0, vs0, d0, ds0, p0, q0, hargs, rfl, rfl, h0, r0⟩ := trodAll_cons hA
  obtain ⟨v1, vs1, d1, ds1, p1, q1, rfl, rfl, rfl, h1, r1⟩ := trodAll_cons r0
  obtain ⟨rfl, rfl, rfl⟩ := trodAll_nil r1
  obtain rfl : args = #[v0, v1] := by cases args; simp_all
  obtain ⟨rfl, rfl⟩ := trodVars_none hV
  have k0 := h0
  have lt0 : ∀ x ∈ p0, x.block < W.heap.size := by obtain ⟨m, hm⟩ := k0; exact DataW.trod_lt m _ _ _ hm
  have k1 := h1
  have lt1 : ∀ x ∈ p1, x.block < W.heap.size := by obtain ⟨m, hm⟩ := k1; exact DataW.trod_lt m _ _ _ hm
  obtain ⟨A0, ps0, C0, K0, m0, D0, rfl, hp0, hm0⟩ := open_gram rfl (hval 0 _ v0 rfl rfl) h0
  obtain ⟨q1, A1, C1, N1, F1, rfl, hp1, hr1, hm1⟩ := open_prod rfl (hval 1 _ v1 rfl rfl) h1
  clear hA0
  refine (strataTell_walk A0 K0 C0 m0 D0 ps0 A1 C1 N1 F1 q1 W hp0 hm0 hm1).mono fun e W' ⟨he, kp⟩ => ?_
  have bel := kp.below
  subst he
  exact ⟨_, rfl, _, _, _, [], _, [], hW', trodAll_mk1 (shut_bool Tryz.underlying4 _), (trodAll_cons_mk (Below.trod laidOut (by kernel_rfl) (of_decide_eq_true (by kernel_rfl)) k0 bel lt0) (trodAll_cons_mk (Below.trod laidOut (by kernel_rfl) (of_decide_eq_true (by kernel_rfl)) k1 bel lt1) trodAll_mk0)), rfl, bel.frame _, fun h => by cases h⟩

set_option maxRecDepth 100000 in
theorem lifted (os : Os) (started : os.Started) (H : Type) (enc : TypeId × Value → H) (F : Stop.Interp) :
    ReturnsInHanded {} Tryz.checked os 3 .any ((OpenSpec.ofChange Rows.strataTellSpec).preRow enc Tryz.prog Tryz.f3 Rows.strataTellRow.domain false Rows.strataTellRow.laid) (((OpenSpec.ofChange Rows.strataTellSpec).at F).post enc Tryz.prog Tryz.f3 false true false false) := by
  obtain ⟨places, hx⟩ := reads os enc
  refine returnsInHanded_of_row (C := Tryz.checked) (s := OpenSpec.ofChange Rows.strataTellSpec) own started (by kernel_rfl) Tryz.func3
    (witness_row_at (enc := enc) (C := Tryz.checked) false (laidWorld os) zeroA rfl (by kernel_rfl) (by kernel_rfl) (by kernel_rfl)
      (OpenSpec.preRow_of_cond 8 hx (by kernel_rfl) (fun k hk => by cases hk) (by kernel_rfl) (laid_met os))) ?_
  intro W base args ds gs before hval hW _ _ _ _ _ _
  exact contract H enc W args ds gs before base hval hW

theorem said : Rows.StrataTellSaid :=
  OpenClaim.holds_of_cond 3 Tryz.f3 rfl rfl rfl rfl rfl rfl rfl ⟨rfl, rfl, rfl, rfl, rfl⟩ rfl rfl rfl rfl rfl (by kernel_rfl) Tryz.func3 (by kernel_rfl)
    (of_decide_eq_true (by kernel_rfl)) (by unfold Func.isWrapper; first | (rw [if_pos (by decide +kernel)]; kernel_rfl) | (rw [if_neg (by decide +kernel)]; exact ⟨rfl, rfl⟩))
    (fun os started H enc _ F => by rw [OpenClaim.pre_eq_preRow]; exact lifted os started H enc F)

theorem plain (f : FuncId) (fn : Func) (hf : Tryz.pinned.checked.prog.funcNamed "exegete/exegetelaw12.StrataTell" = some f) (hfn : Tryz.pinned.checked.prog.funcs[f]? = some fn) :
    true = Tryz.pinned.checked.prog.looks [] ∧ ∀ (j : Nat) t, fn.params[j]? = some t → Tryz.pinned.checked.prog.wantsStandIn t = false := by
  obtain rfl : f = 3 := Option.some.inj ((show Tryz.prog.funcNamed "exegete/exegetelaw12.StrataTell" = some 3 by kernel_rfl).symm.trans hf) |>.symm
  obtain rfl : fn = Tryz.f3 := (Option.some.inj (Tryz.func3.symm.trans hfn)).symm
  refine ⟨by kernel_rfl, fun j t ht => ?_⟩
  rw [Tryz.params3] at ht
  have hm : t = 25 ∨ t = 29 := by simpa [or_assoc] using Array.mem_of_getElem? ht
  rcases hm with rfl | rfl
  · exact (show Tryz.prog.wantsStandIn 25 = false by kernel_rfl)
  · exact (show Tryz.prog.wantsStandIn 29 = false by kernel_rfl)

theorem card : Rows.StrataTellCardSaid :=
  Claim7.holds_tied_plain_at .later [] _ _ _ _ said (fun _ h => by cases h) (by kernel_rfl) (fun _ h => by cases h) strataTell_row_tie rfl ⟨rfl, rfl⟩ (by kernel_rfl) rfl plain (by kernel_rfl)
end Go.Proofs.YtkminfdblimiiaaGreatDoor.RowST
namespace Go.Proofs.YtkminfdblimiiaaGreatDoor
/-- The card of the law. -/
theorem strataTell_card : Rows.StrataTellCardSaid := RowST.card
#print axioms strataTell_card
end Go.Proofs.YtkminfdblimiiaaGreatDoor
