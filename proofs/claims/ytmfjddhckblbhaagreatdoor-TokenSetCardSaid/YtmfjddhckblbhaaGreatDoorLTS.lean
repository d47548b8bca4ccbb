/- The law TokenSet, as its row and its card state it: for every input it answers true and the arguments read as before. -/
import Derived.Test.YtmfjddhckblbhaaGreatDoorL17
import Derived.Test.YtmfjddhckblbhaaGreatDoorL15
import Derived.Test.YtmfjddhckblbhaaGreatDoorL16
set_option linter.unusedVariables false
set_option linter.unusedSimpArgs false
namespace Go.Proofs.YtmfjddhckblbhaaGreatDoor
open Go Go.RowKit Go.MapKept
attribute [local go_sem] Oper.semAt_some

theorem rsame_any (S T : List Nat) (A B : Option Addr) (n C m D : Nat) (a b : List Rng) (w : World) (H : SlOf RngRow S w 2 (.slice A n C) a) (G : SlOf RngRow T w 2 (.slice B m D) b) :
    Calls Tryz.prog 20 #[.slice A n C, .slice B m D] w fun e w' => e = .returned (.bool (decide (a = b))) ∧ Keep [] w w' := by
  have HE := Lib.hid (equal_any S T A B n C m D a b w H G)
  generalize decide (a = b) = q at HE ⊢
  clear H G
  go_enter Tryz.func20, Tryz.ntmps20
  go_wp2_with fail
  refine HE.out.mono ?_
  rintro e w' ⟨rfl, K⟩
  go_wp2
  go_ret
  exact ⟨rfl, K⟩

set_option maxRecDepth 100000 in
set_option maxHeartbeats 4000000 in
theorem tokenSet_walk (A : Option Addr) (C : Nat) (l : List Rng) (w : World) (H : Rngs [] w (.slice A l.length C) l) (HT : Tab w) (h5 : 5 < w.heap.size) :
    Calls Tryz.prog 8 #[.slice A l.length C] w fun e w' => e = .returned (.bool true) ∧ Keep [] w w' := by
  have HA := Lib.hid (awakeT_any w HT h5)
  by_cases hl : (20 : Int) < l.length
  · clear HT H
    go_enter Tryz.func8, Tryz.ntmps8
    go_wp2_with fail
    refine HA.out.mono ?_
    rintro e w1 ⟨rfl, K1⟩
    clear HA
    go_wp2
    go_ret
    exact ⟨rfl, K1.alloc _⟩
  · have hl20 : l.length ≤ 20 := by omega
    have HM := Lib.hid (fun w1 (K : Keep [] w w1) => mayT_any [] (clsT l) _ w1 (Rngs.mv0 H K) (by show l.length ≤ 10000; omega) (by show (0 : Nat) ≤ 10000; omega) (HT.keep K h5) (Nat.lt_of_lt_of_le h5 K.size))
    have HX := Lib.hid (fun w1 (K : Keep [] w w1) => textT_any [] (clsT l) _ w1 (Rngs.mv0 H K) (by show l.length ≤ 10000; omega) (by show (0 : Nat) ≤ 10000; omega) (HT.keep K h5) (Nat.lt_of_lt_of_le h5 K.size))
    have HR := Lib.hid (fun w1 (K : Keep [] w w1) => rmay_any [] _ l w1 (Rngs.mv0 H K))
    have HL := Lib.hid (fun h => set_told l hl20 h)
    have HH := Lib.hid H
    simp only [clsT] at HM HX
    clear HT H
    go_enter Tryz.func8, Tryz.ntmps8
    go_wp2_with fail
    refine HA.out.mono ?_
    rintro e w1 ⟨rfl, K1⟩
    have K2 := K1.alloc (.cells #[.int .i64 2, .string { data := #[] }, .slice A l.length C, .int .i64 0] 24)
    have B2 := Blk.new' w1 #[.int .i64 2, .string { data := #[] }, .slice A l.length C, .int .i64 0] 24 (b := w1.heap.size) rfl
    have HK2 := Lib.hid (⟨K2, B2⟩ : _ ∧ _)
    have hb1 := B2.cell
    have HM1 := Lib.hid (HM.out _ K2)
    clear K1 K2 B2 HM HA
    go_wp2_with fail
    refine HM1.out.mono ?_
    rintro e w3 ⟨rfl, K3⟩
    have HK3 := Lib.hid (⟨HK2.out.1.trans K3, HK2.out.2.keep K3 (by simp)⟩ : _ ∧ _)
    clear hb1 HK2 HM1 K3
    have hb1 := HK3.out.2.cell
    cases hmay : mayT ⟨2, { data := #[] }, l, 0⟩
    · clear HX HR HL
      go_wp2
      go_ret
      exact ⟨rfl, HK3.out.1⟩
    · obtain ⟨hrm, hs2, hs4, a, hlx⟩ := HL.out hmay
      have hnf := twoR_len (fun x y => x && !y) full l
      have htx : textT ⟨2, { data := #[] }, l, 0⟩ = showL (clsT l) := by unfold textT; rw [if_pos hmay]; rfl
      have HX1 := Lib.hid (HX.out _ HK3.out.1)
      rw [htx] at HX1
      generalize hsh : (⟨(showL (clsT l)).toArray⟩ : ByteArray) = sh at HX1 hlx
      have hsz : sh.size = (showL (clsT l)).length := by rw [← hsh]; rfl
      have z2 : ¬ ((sh.size : Int) < 2) := by omega
      have z1 : (1 : Int) ≤ sh.size := by omega
      have z4 : sh.size ≤ 400 := by omega
      clear hsh hsz hs2 hs4 htx HL HX hmay
      have HNF : lessF full l = twoR (fun x y => x && !y) full l := rfl
      rw [← HNF] at hnf
      clear HNF
      generalize hnfe : lessF full l = nf at hlx hnf
      generalize hRe : lessF nf surr = R at hlx
      go_wp2_with fail
      refine HX1.out.mono ?_
      rintro e w4 ⟨rfl, K4⟩
      have HK4 := Lib.hid (HK3.out.1.trans K4)
      have HR1 := Lib.hid (HR.out _ HK4.out)
      rw [hrm] at HR1
      clear hb1 HK3 HX1 K4 HR hrm
      go_wp2_with fail
      refine HR1.out.mono ?_
      rintro e w5 ⟨rfl, K5⟩
      have HK5 := Lib.hid (HK4.out.trans K5)
      clear HR1 HK4 K5
      have HAL := Lib.hid (allTok_any [] (hatT sh) w5 (by simp) _ a 0 hlx)
      unfold hatT at HAL
      clear hlx
      go_wp2_with fail
      refine HAL.out.mono ?_
      rintro e w6 ⟨⟨u, rfl, HTS⟩, K6⟩
      have HK6 := Lib.hid (HK5.out.trans K6)
      clear K6 HAL HK5
      obtain ⟨A2, C2, rfl, _, hts⟩ := SlOf.at HTS
      obtain ⟨b2, o2, rfl, _, hcl⟩ := hts (by simp)
      obtain ⟨row, _, hcell, ⟨u, hrow, hyr⟩⟩ := hcl 0 (by simp)
      simp only [List.getElem_cons_zero] at hrow hyr
      subst hrow
      have y2 := hcell 2 (by omega)
      simp at y2
      obtain ⟨A3, C3, rfl, _⟩ := SlOf.at (Rngs.of hyr)
      have HS := Lib.hid (fun w' (K : Keep [] w6 w') => (⟨(K.cell y2 (by simp)), K⟩ : w'.cell? ⟨b2, o2 + 2, none⟩ = some (.slice A3 R.length C3) ∧ Keep [] w6 w'))
      have HNOT : Hid (∀ w', Keep [] w6 w' → Calls Tryz.prog 22 #[.slice A l.length C, .int .i64 1114111] w' fun e w'' => ∃ A' C', e = .returned (.slice A' nf.length C') ∧ SlOf RngRow [] w'' 2 (.slice A' nf.length C') nf ∧ Keep [] w' w'' ∧ Keep [] w6 w'') := Lib.hid (fun w' K => (not_any A l.length C l w' (Rngs.of (Rngs.mv0 HH.out (HK6.out.trans K))) (by omega)).mono fun e w'' ⟨v, h1, h2, h3⟩ => by
        rw [show ([⟨0, 1114111⟩] : List Rng) = full from rfl, hnfe] at h2
        obtain ⟨A', C', rfl⟩ := h2.slice
        exact ⟨A', C', h1, h2.read rngRow_stab (by simp) (by simp), h3, K.trans h3⟩)
      have HLESS : Hid (∀ b Wd A' C', SlOf RngRow [] Wd 2 (.slice A' nf.length C') nf → Blk Wd b #[.int .i64 55296, .int .i64 57343] 44 → Keep [] w6 Wd → Calls Tryz.prog 21 #[.slice A' nf.length C', .slice (some ⟨b, 0, none⟩) 1 1] Wd fun e w'' => ∃ A' C', e = .returned (.slice A' R.length C') ∧ SlOf RngRow [] w'' 2 (.slice A' R.length C') R ∧ Keep [] w6 w'') := Lib.hid (fun b Wd A' C' O B K => (less_any A' (some ⟨b, 0, none⟩) nf.length C' 1 1 nf surr Wd O (one_rng (r := ⟨55296, 57343⟩) B (by simp)) (by simp only [surr, List.length_cons, List.length_nil] at *; simp only [full, List.length_cons, List.length_nil] at hnf; omega)).mono fun e w'' ⟨v, h1, h2, h3⟩ => by
        rw [show twoR (fun x y => x && !y) nf surr = R from hRe] at h2
        obtain ⟨A', C', rfl⟩ := h2.slice
        exact ⟨A', C', h1, h2.read rngRow_stab (by simp) (by simp), K.trans h3⟩)
      have HSAME : Hid (∀ Wd A' C', SlOf RngRow [] Wd 2 (.slice A' R.length C') R → Keep [] w6 Wd → Calls Tryz.prog 20 #[.slice A3 R.length C3, .slice A' R.length C'] Wd fun e w'' => e = .returned (.bool true) ∧ Keep [] w6 w'') := Lib.hid (fun Wd A' C' O K => (rsame_any _ [] A3 A' R.length C3 R.length C' R R Wd (Rngs.of (Rngs.mv0 hyr K)) O).mono fun e w'' ⟨h1, h2⟩ => ⟨by rw [h1]; simp, K.trans h2⟩)
      have K0 := Keep.refl [] w6
      clear HTS hts hcl hcell hyr HH hnf hnfe hRe z1 z2 z4
      go_wp2
      go_region_held3 (fun w' => w'.cell? ⟨b2, o2 + 2, none⟩ = some (.slice A3 R.length C3) ∧ Keep [] w6 w')
        (exact HS.out _ (by repeat (first | assumption | apply Keep.drew | apply Keep.alloc)))
        (first
          | (go_at_call 22; refine (HNOT.out _ (by repeat (first | assumption | apply Keep.drew | apply Keep.alloc))).mono ?_; rintro e w' ⟨A', C', rfl, O', K', K''⟩)
          | (go_at_call 20; refine (HSAME.out _ _ _ ?_ ?_).mono ?_; assumption; (repeat (first | assumption | apply Keep.drew | apply Keep.alloc)); rintro e w' ⟨rfl, K'⟩)
          | (go_at_call 21; refine (HLESS.out _ _ _ _ ?_ ?_ ?_).mono ?_; (first | assumption | exact SlOf.move ‹SlOf RngRow [] _ 2 _ nf› rngRow_stab (by omega) ((Keep.refl [] _).alloc _) (by simp) (by simp)); (first | exact Blk.new' _ _ _ rfl | exact (Blk.new' _ _ _ rfl).keep ‹Keep [] (World.alloc _ _) _› (by simp) | exact (Blk.new' _ _ _ rfl).keep ((Keep.refl [] _).drew.trans ‹Keep [] (World.drew (World.alloc _ _)) _›) (by simp)); (repeat (first | assumption | apply Keep.drew | apply Keep.alloc)); rintro e w' ⟨A', C', rfl, O', K'⟩))
      all_goals
        go_wp2
        go_ret
        exact ⟨rfl, HK6.out.trans (by assumption)⟩
end Go.Proofs.YtmfjddhckblbhaaGreatDoor
namespace Go.Proofs.YtmfjddhckblbhaaGreatDoor.RowTS
open Go.ChangeShapes Go.WideShapes Go.ChangeAt Go.RowKit Go.Joins Go.Deep Go.ChangeMaps Go.Proofs.YtmfjddhckblbhaaGreatDoor.RowS

def zeroA : Array Value := #[.slice none 0 0]
set_option maxRecDepth 100000 in
theorem laid_met (os : Os) : laidMet Tryz.prog laid5 ((laidWorld os).forCall (fun _ _ => 0) ⟨#[], zeroA, []⟩).memory :=
  laidMet_of_run' 8 (by kernel_rfl) (by kernel_rfl)
theorem reads (os : Os) {H : Type} (enc : TypeId × Value → H) : ∃ places, DataW.whole enc Tryz.prog ((laidWorld os).forCall (fun _ _ => 0) ⟨#[], zeroA, []⟩).memory Tryz.f8.params.toList Rows.tokenSetSpec.vars false zeroA.toList 8 = some ([.nil], [], places) :=
  ⟨[], by kernel_rfl⟩
set_option maxRecDepth 100000 in
set_option maxHeartbeats 1000000 in
theorem contract (H : Type) (enc : TypeId × Value → H) (W : World) (args : Array Value) (ds gs : List (DataW H)) (before : List MemPlace) (base : Nat)
    (hval : ∀ (j : Nat) t v, Tryz.f8.params[j]? = some t → args[j]? = some v → Value.okWide Tryz.prog W .any base t v)
    (hW : DataW.Whole enc Tryz.prog Tryz.f8.params.toList Rows.tokenSetSpec.vars false W args.toList ds gs before) (HT : Tab W ∧ 5 < W.heap.size) :
    Calls Tryz.prog 8 args W fun e W' => ∃ v, e = .returned v ∧ Rows.tokenSetSpec.post enc Tryz.prog Tryz.f8 false true false false W args v W' := by
  have hW' := hW
  obtain ⟨p, q, hA0, hV, rfl, hfz, hnd⟩ := hW
  have hA : DataW.TrodAll enc Tryz.prog W 0 (fun _ => true) true Tryz.f8.params.toList args.toList ds p := hA0
  rw [Tryz.params8] at hA hval
  obtain ⟨v0, vs0, d0, ds0, p0, q0, hargs, rfl, rfl, h0, r0⟩ := trodAll_cons hA
  obtain ⟨rfl, rfl, rfl⟩ := trodAll_nil r0
  obtain rfl : args = #[v0] := by cases args; simp_all
  obtain ⟨rfl, rfl⟩ := trodVars_none hV
  have k0 := h0
  have lt0 : ∀ x ∈ p0, x.block < W.heap.size := by obtain ⟨m, hm⟩ := k0; exact DataW.trod_lt m _ _ _ hm
  obtain ⟨x0, y0, z0, rfl⟩ := okWide_slice Tryz.underlying22 (hval 0 _ v0 rfl rfl)
  obtain ⟨n0, hn0⟩ := h0
  obtain ⟨A0, l0, C0, e0, hp0⟩ := rngs_read hn0
  obtain ⟨rfl, rfl, rfl⟩ : x0 = A0 ∧ y0 = l0.length ∧ z0 = C0 := by simpa using e0
  clear hA0
  refine (tokenSet_walk _ _ l0 W (Rngs.back hp0) HT.1 HT.2).mono fun e W' ⟨he, kp⟩ => ?_
  have bel := kp.below
  subst he
  exact ⟨_, rfl, _, _, _, [], _, [], hW', trodAll_mk1 (shut_bool Tryz.underlying4 _), (trodAll_cons_mk (Below.trod laidOut (by kernel_rfl) (of_decide_eq_true (by kernel_rfl)) k0 bel lt0) trodAll_mk0), rfl, bel.frame _, fun h => by cases h⟩

set_option maxRecDepth 100000 in
theorem lifted (os : Os) (started : os.Started) (H : Type) (enc : TypeId × Value → H) (F : Stop.Interp) :
    ReturnsInHanded {} Tryz.checked os 8 .any ((OpenSpec.ofChange Rows.tokenSetSpec).preRow enc Tryz.prog Tryz.f8 Rows.tokenSetRow.domain false Rows.tokenSetRow.laid) (((OpenSpec.ofChange Rows.tokenSetSpec).at F).post enc Tryz.prog Tryz.f8 false true false false) := by
  obtain ⟨places, hx⟩ := reads os enc
  refine returnsInHanded_of_row (C := Tryz.checked) (s := OpenSpec.ofChange Rows.tokenSetSpec) own started (by kernel_rfl) Tryz.func8
    (witness_row_at (enc := enc) (C := Tryz.checked) false (laidWorld os) zeroA rfl (by kernel_rfl) (by kernel_rfl) (by kernel_rfl)
      (OpenSpec.preRow_of_cond 8 hx (by kernel_rfl) (fun k hk => by cases hk) (by kernel_rfl) (laid_met os))) ?_
  intro W base args ds gs before hval hW _ _ _ hL _ _
  exact contract H enc W args ds gs before base hval hW (tab_of (show laidMet Tryz.prog laid5 W from hL))

theorem said : Rows.TokenSetSaid :=
  OpenClaim.holds_of_cond 8 Tryz.f8 rfl rfl rfl rfl rfl rfl rfl ⟨rfl, rfl, rfl, rfl, rfl⟩ rfl rfl rfl rfl rfl (by kernel_rfl) Tryz.func8 (by kernel_rfl)
    (of_decide_eq_true (by kernel_rfl)) (by unfold Func.isWrapper; first | (rw [if_pos (by decide +kernel)]; kernel_rfl) | (rw [if_neg (by decide +kernel)]; exact ⟨rfl, rfl⟩))
    (fun os started H enc _ F => by rw [OpenClaim.pre_eq_preRow]; exact lifted os started H enc F)

theorem plain (f : FuncId) (fn : Func) (hf : Tryz.pinned.checked.prog.funcNamed "exegete/exegetelaw05.TokenSet" = some f) (hfn : Tryz.pinned.checked.prog.funcs[f]? = some fn) :
    false = Tryz.pinned.checked.prog.looks [] ∧ ∀ (j : Nat) t, fn.params[j]? = some t → Tryz.pinned.checked.prog.wantsStandIn t = false := by
  obtain rfl : f = 8 := Option.some.inj ((show Tryz.prog.funcNamed "exegete/exegetelaw05.TokenSet" = some 8 by kernel_rfl).symm.trans hf) |>.symm
  obtain rfl : fn = Tryz.f8 := (Option.some.inj (Tryz.func8.symm.trans hfn)).symm
  refine ⟨by kernel_rfl, fun j t ht => ?_⟩
  rw [Tryz.params8] at ht
  have hm : t = 22 := by simpa [or_assoc] using Array.mem_of_getElem? ht
  rcases hm with rfl
  exact (show Tryz.prog.wantsStandIn 22 = false by kernel_rfl)

theorem card : Rows.TokenSetCardSaid :=
  Claim7.holds_tied_plain_at .later [] _ _ _ _ said (fun _ h => by cases h) (by kernel_rfl) (fun _ h => by cases h) tokenSet_row_tie rfl ⟨rfl, rfl⟩ (by kernel_rfl) rfl plain (by kernel_rfl)
end Go.Proofs.YtmfjddhckblbhaaGreatDoor.RowTS
namespace Go.Proofs.YtmfjddhckblbhaaGreatDoor
/-- The card of the law. -/
theorem tokenSet_card : Rows.TokenSetCardSaid := RowTS.card
#print axioms tokenSet_card
end Go.Proofs.YtmfjddhckblbhaaGreatDoor
