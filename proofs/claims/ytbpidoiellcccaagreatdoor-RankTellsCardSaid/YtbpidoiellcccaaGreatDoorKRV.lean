/- The law RankTells, as its row and its card state it: for every input it answers true and the arguments read as before. -/
import Derived.Test.YtbpidoiellcccaaGreatDoorK32
import Derived.Deep.RegionHeld3
import Derived.Test.YtbpidoiellcccaaGreatDoorK20
set_option linter.unusedVariables false
set_option linter.unusedSimpArgs false
namespace Go.Proofs.YtbpidoiellcccaaGreatDoor
open Go Go.RowKit Go.MapKept

set_option maxRecDepth 20000 in
set_option maxHeartbeats 4000000 in
theorem rankTells_walk (A K AA : Option Addr) (C m D CA : Nat) (ps : List ProdS) (l : List Int) (w : World) (HP : Prods [] w (.slice A ps.length C) ps) (hmk : m ≤ 9223372036854775807) (HA : SlOf IntRow [] w 1 (.slice AA l.length CA) l) :
    Calls Tryz.prog 3 #[.agg #[.slice A ps.length C, .slice K m D], .slice AA l.length CA] w fun e w' => e = .returned (.bool true) ∧ Keep [] w w' := by
  have hmv : ∀ (x y : Value) (w : World), (Instr.extract (.tuple #[x, y]) 0).run Tryz.prog w = .ok x w := fun _ _ _ => rfl
  have hmv1 : ∀ (x y : Value) (w : World), (Instr.extract (.tuple #[x, y]) 1).run Tryz.prog w = .ok y w := fun _ _ _ => rfl
  have K0 := (Keep.refl [] w).alloc (.cells #[.slice A ps.length C, .slice K m D] 25)
  have HP0 : Prods [] _ (.slice A ps.length C) ps := HP.mv0 K0
  have B0 := Blk.new w #[.slice A ps.length C, .slice K m D] 25
  have hl63 : l.length ≤ 9223372036854775807 := (SlOf.len HA).2.1
  have HAA := Lib.hid HA
  clear HP HA
  generalize hln : l.length = n at *
  have HLN := Lib.hid hln
  clear hln
  go_enter Tryz.func3, Tryz.ntmps3
  go_wp2_with fail
  refine (awakeR_any _).mono ?_
  rintro e w1 ⟨rfl, K1⟩
  have B1 := B0.keep K1 (by simp)
  have b1 := B1.cell
  have HP1 : Prods [] w1 (.slice A ps.length C) ps := HP0.mv0 K1
  go_wp2_with fail
  refine (few62_any A K C m D ps _ HP1 hmk).mono ?_
  rintro e w2 ⟨⟨fw, rfl, hfw⟩, K2⟩
  have B2 := B1.keep K2 (by simp)
  have b2 := B2.cell
  have HP2 : Prods [] w2 (.slice A ps.length C) ps := HP1.mv0 K2
  have KF2 := (K0.trans K1).trans K2
  clear HP0 HP1 B0 B1 b1
  cases fw with
  | false =>
    clear HP2
    go_wp2
    go_ret
    exact ⟨rfl, KF2⟩
  | true =>
    have h62 := hfw rfl
    clear hfw
    by_cases h100 : n ≤ 100
    · have hg : decide ((n : Int) > 100) = false := by simp; omega
      have hg2 : ¬ ((n : Int) > 100) := by omega
      have HO := Lib.hid (orderR_rank A K C m D ps _ HP2)
      have HH := Lib.hid (⟨HP2, B2, KF2⟩ : _ ∧ _ ∧ _)
      clear HP2 B2 KF2 K1 K2
      go_wp2_with fail
      refine HO.out.mono ?_
      rintro e w3 ⟨⟨v3, r, b, rfl, N3, hO⟩, K3⟩
      have b3 := (HH.out.2.1.keep K3 (by simp)).cell
      have HO9 := Lib.hid (order9_any A K C m D ps _ (HH.out.1.mv0 K3) h62)
      have H3 := Lib.hid (⟨N3, hO, K3, hO.len⟩ : _ ∧ _ ∧ _ ∧ _)
      clear N3 hO K3 HO b2
      go_wp2_with fail
      refine HO9.out.mono ?_
      rintro e w4 ⟨⟨v4, t, c, rfl, N4, hT⟩, K4⟩
      obtain ⟨rfl, rfl⟩ := H3.out.2.1.same hT
      have hcall := ints_c v3 v4 r r w4 (IntC.own (H3.out.1.keep K4 (by simp)) (by have := H3.out.2.2.2; omega)) (IntC.own N4 (by have := H3.out.2.2.2; omega))
      rw [decide_eq_true (rfl : r = r)] at hcall
      have HC := Lib.hid hcall
      have HK4 := Lib.hid (H3.out.2.2.1.trans K4)
      clear hcall N4 hT K4 HO9 b3
      go_wp2_with fail
      refine HC.out.mono ?_
      rintro e w5 ⟨rfl, K5⟩
      have K25 := HK4.out.trans K5
      have HF1 := Lib.hid (first_any AA CA l w5 (by rw [HLN.out]; exact SlOf.move HAA.out intRow_stab (by omega) (HH.out.2.2.trans K25) (by simp) (fun x hx => .inl hx)) (by rw [HLN.out]; omega))
      rw [HLN.out] at HF1
      have HK5 := Lib.hid K25
      clear K25 K5 HC HK4 H3
      go_wp2_with fail
      refine HF1.out.mono ?_
      rintro e w6 ⟨⟨v6, s, rfl, N6, r6⟩, K6⟩
      have K26 := HK5.out.trans K6
      have HF2 := Lib.hid (firstR_any AA CA l w6 (by rw [HLN.out]; exact SlOf.move HAA.out intRow_stab (by omega) (HH.out.2.2.trans K26) (by simp) (fun x hx => .inl hx)) (by rw [HLN.out]; omega))
      rw [HLN.out] at HF2
      have H6 := Lib.hid (⟨N6, r6, K26⟩ : _ ∧ _ ∧ _)
      clear N6 r6 K6 K26 HF1
      go_wp2_with fail
      refine HF2.out.mono ?_
      rintro e w7 ⟨⟨v7, t7, rfl, N7, r7⟩, K7⟩
      obtain rfl := H6.out.2.1.same r7
      have hsl : s.length ≤ 1000000 := by rw [r7.1.length_eq, HLN.out]; omega
      have hcall := ints_c v6 v7 s s w7 (IntC.own (H6.out.1.keep K7 (by simp)) hsl) (IntC.own N7 hsl)
      rw [decide_eq_true (rfl : s = s)] at hcall
      have HC := Lib.hid hcall
      have HK7 := Lib.hid (H6.out.2.2.trans K7)
      clear hcall N7 r7 K7 HF2 hsl
      go_wp2_with fail
      refine HC.out.mono ?_
      rintro e w8 ⟨rfl, K8⟩
      have K28 := HK7.out.trans K8
      have hkp : ∀ w', Keep [] w8 w' → w'.cell? ⟨w.heap.size, 0, none⟩ = some (.slice A ps.length C) ∧ w'.cell? ⟨w.heap.size, 1, none⟩ = some (.slice K m D) ∧ Keep [] w8 w' := fun w' K' => ⟨(HH.out.2.1.keep (K28.trans K') (by simp)).cell 0, (HH.out.2.1.keep (K28.trans K') (by simp)).cell 1, K'⟩
      have h16 : ∀ w', Keep [] w8 w' → Calls Tryz.prog 16 #[.agg #[.slice A ps.length C, .slice K m D]] w' fun e w'' => (∃ z, e = .returned (.int .i64 z) ∧ CirIs ps z) ∧ Keep [] w8 w'' := fun w' K' => (circle_any A K C m D ps w' (HH.out.1.mv0 (K28.trans K'))).mono fun e w'' h => ⟨h.1, K'.trans h.2⟩
      have h17 : ∀ w', Keep [] w8 w' → Calls Tryz.prog 17 #[.agg #[.slice A ps.length C, .slice K m D]] w' fun e w'' => (∃ z, e = .returned (.int .i64 z) ∧ CirIs ps z) ∧ Keep [] w8 w'' := fun w' K' => (circleR_any A K C m D ps w' (HH.out.1.mv0 (K28.trans K')) h62).mono fun e w'' h => ⟨h.1, K'.trans h.2⟩
      have HKP := Lib.hid hkp
      have H16 := Lib.hid h16
      have H17 := Lib.hid h17
      have HKF := Lib.hid (HH.out.2.2.trans K28)
      have Kd := (Keep.refl [] w8).drew
      have hbb : (b == b) = true := by cases b <;> rfl
      clear hkp h16 h17 K28 K8 HC HK7 HK5
      go_wp2
      first
        | (go_region_held3 (fun w' => w'.cell? ⟨w.heap.size, 0, none⟩ = some (.slice A ps.length C) ∧ w'.cell? ⟨w.heap.size, 1, none⟩ = some (.slice K m D) ∧ Keep [] w8 w') (exact HKP.out _ (by assumption)) (first
            | (go_at_call 16; refine (H16.out _ (by assumption)).mono ?_; rintro e w9 ⟨⟨z1, rfl, hz1'⟩, K9⟩)
            | (go_at_call 17; refine (H17.out _ (by assumption)).mono ?_; rintro e w10 ⟨⟨z2, rfl, hz2'⟩, K10⟩)))
        | fail
      obtain rfl := hz1'.same hz2'
      have hzz : (z1 == z1) = true := by simp
      rw [hzz]
      have HKE := Lib.hid (HKF.out.trans K10)
      clear K10
      go_wp2
      go_ret
      exact ⟨rfl, HKE.out⟩
    · have hg : decide ((n : Int) > 100) = true := by simp; omega
      have hg2 : ((n : Int) > 100) := by omega
      clear HP2
      go_wp2
      go_ret
      exact ⟨rfl, KF2⟩
end Go.Proofs.YtbpidoiellcccaaGreatDoor
namespace Go.Proofs.YtbpidoiellcccaaGreatDoor.RowRV
open Go.ChangeShapes Go.WideShapes Go.ChangeAt Go.RowKit Go.Joins Go.Deep Go.Proofs.YtbpidoiellcccaaGreatDoor.RowG

def zeroA : Array Value := #[.agg #[.slice none 0 0, .slice none 0 0], .slice none 0 0]
set_option maxRecDepth 100000 in
theorem laid_met (os : Os) : laidMet Tryz.prog laid2 ((laidWorld os).forCall (fun _ _ => 0) ⟨#[], zeroA, []⟩).memory :=
  laidMet_of_run' 8 (by kernel_rfl) (by kernel_rfl)
theorem reads (os : Os) {H : Type} (enc : TypeId × Value → H) : ∃ places, DataW.whole enc Tryz.prog ((laidWorld os).forCall (fun _ _ => 0) ⟨#[], zeroA, []⟩).memory Tryz.f3.params.toList Rows.rankTellsSpec.vars false zeroA.toList 8 = some ([.agg [.nil, .nil], .nil], [], places) :=
  ⟨[], by kernel_rfl⟩
set_option maxRecDepth 100000 in
set_option maxHeartbeats 1000000 in
theorem contract (H : Type) (enc : TypeId × Value → H) (W : World) (args : Array Value) (ds gs : List (DataW H)) (before : List MemPlace) (base : Nat)
    (hval : ∀ (j : Nat) t v, Tryz.f3.params[j]? = some t → args[j]? = some v → Value.okWide Tryz.prog W .any base t v)
    (hW : DataW.Whole enc Tryz.prog Tryz.f3.params.toList Rows.rankTellsSpec.vars false W args.toList ds gs before) :
    Calls Tryz.prog 3 args W fun e W' => ∃ v, e = .returned v ∧ Rows.rankTellsSpec.post enc Tryz.prog Tryz.f3 false true false false W args v W' := by
  have hW' := hW
  obtain ⟨p, q, hA0, hV, rfl, hfz, hnd⟩ := hW
  have hA : DataW.TrodAll enc Tryz.prog W 0 (fun _ => true) true Tryz.f3.params.toList args.toList ds p := hA0
  rw [Tryz.params3] at hA hval
  obtain ⟨v0, vs0, d0, ds0, p0, q0, hargs, rfl, rfl, h0, r0⟩ := trodAll_cons hA
  obtain ⟨v1, vs1, d1, ds1, p1, q1, rfl, rfl, rfl, h1, r1⟩ := trodAll_cons r0
  obtain ⟨rfl, rfl, rfl⟩ := trodAll_nil r1
  obtain rfl : args = #[v0, v1] := by cases args; simp_all
  obtain ⟨rfl, rfl⟩ := trodVars_none hV
  have k0 := h0
  have lt0 : ∀ x ∈ p0, x.block < W.heap.size := by obtain ⟨m, hm⟩ := k0; exact DataW.trod_lt m _ _ _ hm
  have k1 := h1
  have lt1 : ∀ x ∈ p1, x.block < W.heap.size := by obtain ⟨m, hm⟩ := k1; exact DataW.trod_lt m _ _ _ hm
  obtain ⟨A0, ps0, C0, K0, m0, D0, rfl, hp0, hm0⟩ := open_gram rfl (hval 0 _ v0 rfl rfl) h0
  obtain ⟨x1, y1, z1, rfl⟩ := okWide_slice Tryz.underlying26 (hval 1 _ v1 rfl rfl)
  obtain ⟨n1, hn1⟩ := h1
  obtain ⟨A1, l1, C1, e1, hp1⟩ := ints_read hn1
  obtain ⟨rfl, rfl, rfl⟩ : x1 = A1 ∧ y1 = l1.length ∧ z1 = C1 := by simpa using e1
  clear hA0
  refine (rankTells_walk A0 K0 x1 C0 m0 D0 z1 ps0 l1 W hp0 hm0 hp1).mono fun e W' ⟨he, kp⟩ => ?_
  have bel := kp.below
  subst he
  exact ⟨_, rfl, _, _, _, [], _, [], hW', trodAll_mk1 (shut_bool Tryz.underlying4 _), (trodAll_cons_mk (Below.trod laidOut (by kernel_rfl) (of_decide_eq_true (by kernel_rfl)) k0 bel lt0) (trodAll_cons_mk (Below.trod laidOut (by kernel_rfl) (of_decide_eq_true (by kernel_rfl)) k1 bel lt1) trodAll_mk0)), rfl, bel.frame _, fun h => by cases h⟩

set_option maxRecDepth 100000 in
theorem lifted (os : Os) (started : os.Started) (H : Type) (enc : TypeId × Value → H) (F : Stop.Interp) :
    ReturnsInHanded {} Tryz.checked os 3 .any ((OpenSpec.ofChange Rows.rankTellsSpec).preRow enc Tryz.prog Tryz.f3 Rows.rankTellsRow.domain false Rows.rankTellsRow.laid) (((OpenSpec.ofChange Rows.rankTellsSpec).at F).post enc Tryz.prog Tryz.f3 false true false false) := by
  obtain ⟨places, hx⟩ := reads os enc
  refine returnsInHanded_of_row (C := Tryz.checked) (s := OpenSpec.ofChange Rows.rankTellsSpec) own started (by kernel_rfl) Tryz.func3
    (witness_row_at (enc := enc) (C := Tryz.checked) false (laidWorld os) zeroA rfl (by kernel_rfl) (by kernel_rfl) (by kernel_rfl)
      (OpenSpec.preRow_of_cond 8 hx (by kernel_rfl) (fun k hk => by cases hk) (by kernel_rfl) (laid_met os))) ?_
  intro W base args ds gs before hval hW _ _ _ _ _ _
  exact contract H enc W args ds gs before base hval hW

theorem said : Rows.RankTellsSaid :=
  OpenClaim.holds_of_cond 3 Tryz.f3 rfl rfl rfl rfl rfl rfl rfl ⟨rfl, rfl, rfl, rfl, rfl⟩ rfl rfl rfl rfl rfl (by kernel_rfl) Tryz.func3 (by kernel_rfl)
    (of_decide_eq_true (by kernel_rfl)) (by unfold Func.isWrapper; first | (rw [if_pos (by decide +kernel)]; kernel_rfl) | (rw [if_neg (by decide +kernel)]; exact ⟨rfl, rfl⟩))
    (fun os started H enc _ F => by rw [OpenClaim.pre_eq_preRow]; exact lifted os started H enc F)

theorem plain (f : FuncId) (fn : Func) (hf : Tryz.pinned.checked.prog.funcNamed "exegete/exegetelaw10.RankTells" = some f) (hfn : Tryz.pinned.checked.prog.funcs[f]? = some fn) :
    true = Tryz.pinned.checked.prog.looks [] ∧ ∀ (j : Nat) t, fn.params[j]? = some t → Tryz.pinned.checked.prog.wantsStandIn t = false := by
  obtain rfl : f = 3 := Option.some.inj ((show Tryz.prog.funcNamed "exegete/exegetelaw10.RankTells" = some 3 by kernel_rfl).symm.trans hf) |>.symm
  obtain rfl : fn = Tryz.f3 := (Option.some.inj (Tryz.func3.symm.trans hfn)).symm
  refine ⟨by kernel_rfl, fun j t ht => ?_⟩
  rw [Tryz.params3] at ht
  have hm : t = 25 ∨ t = 26 := by simpa [or_assoc] using Array.mem_of_getElem? ht
  rcases hm with rfl | rfl
  · exact (show Tryz.prog.wantsStandIn 25 = false by kernel_rfl)
  · exact (show Tryz.prog.wantsStandIn 26 = false by kernel_rfl)

theorem card : Rows.RankTellsCardSaid :=
  Claim7.holds_tied_plain_at .later [] _ _ _ _ said (fun _ h => by cases h) (by kernel_rfl) (fun _ h => by cases h) rankTells_row_tie rfl ⟨rfl, rfl⟩ (by kernel_rfl) rfl plain (by kernel_rfl)
end Go.Proofs.YtbpidoiellcccaaGreatDoor.RowRV
namespace Go.Proofs.YtbpidoiellcccaaGreatDoor
/-- The card of the law. -/
theorem rankTells_card : Rows.RankTellsCardSaid := RowRV.card
#print axioms rankTells_card
end Go.Proofs.YtbpidoiellcccaaGreatDoor
