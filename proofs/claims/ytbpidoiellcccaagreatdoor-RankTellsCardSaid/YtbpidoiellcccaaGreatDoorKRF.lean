/- The law RankFirst, as its row and its card state it: for every input it answers true and the arguments read as before. -/
import Derived.Test.YtbpidoiellcccaaGreatDoorK25
import Derived.Test.YtbpidoiellcccaaGreatDoorK20
set_option linter.unusedVariables false
set_option linter.unusedSimpArgs false
namespace Go.Proofs.YtbpidoiellcccaaGreatDoor
open Go Go.RowKit Go.MapKept

theorem IntC.data {S : List Nat} {w : World} {v : Value} {xs : List Int} (hr : SlOf IntRow S w 1 v xs) (hl : xs.length ≤ 1000000) : IntC w v xs := by
  obtain ⟨A, C, rfl, _, hc⟩ := SlOf.at hr
  refine ⟨A, C, rfl, hl, fun h0 => ?_⟩
  obtain ⟨b, o, rfl, _, hq⟩ := hc h0
  refine ⟨b, o, rfl, fun i hi => ?_⟩
  obtain ⟨row, _, h2, h3⟩ := hq i hi
  rw [show row = _ from h3] at h2
  simpa using h2 0 (by omega)
/-- How often x is among the first k. -/
def cntI (x : Int) (l : List Int) (k : Nat) : Nat := (l.take k).count x
theorem cntI_zero (x : Int) (l : List Int) : cntI x l 0 = 0 := by simp [cntI]
theorem cntI_succ (x : Int) (l : List Int) (k : Nat) (h : k < l.length) : cntI x l (k + 1) = cntI x l k + (if l[k] = x then 1 else 0) := by
  unfold cntI
  rw [List.take_succ_eq_append_getElem h, List.count_append, List.count_singleton]
  by_cases e : l[k] = x <;> simp [e]
theorem cntI_le (x : Int) (l : List Int) (k : Nat) : cntI x l k ≤ k := by
  unfold cntI
  have := List.count_le_length (a := x) (l := l.take k)
  simp at this
  omega
theorem cntI_all (x : Int) (l : List Int) : cntI x l l.length = l.count x := by simp [cntI]
theorem rises_at {l s : List Int} (h : Rises l s) (i : Nat) (hi : i + 1 < s.length) : ¬ s[i + 1] < s[i] := by
  have := List.pairwise_iff_getElem.1 h.2 i (i + 1) (by omega) hi (by omega)
  omega
set_option maxRecDepth 20000 in
set_option maxHeartbeats 4000000 in
theorem rankFirst_walk (A : Option Addr) (C : Nat) (l : List Int) (x : Int) (w : World) (H : SlOf IntRow [] w 1 (.slice A l.length C) l) :
    Calls Tryz.prog 5 #[.slice A l.length C, .int .i64 x] w fun e w' => e = .returned (.bool true) ∧ Keep [] w w' := by
  have HH := Lib.hid H; clear H
  generalize hln : l.length = n at *
  have HLN := Lib.hid hln
  clear hln
  have hn63 : n ≤ 9223372036854775807 := by
    obtain ⟨a, c, hv, hm, _⟩ := SlOf.at HH.out
    have := HLN.out; omega
  go_enter Tryz.func5, Tryz.ntmps5
  go_wp2_with fail
  refine (awakeR_any _).mono ?_
  rintro e w1 ⟨rfl, K1⟩
  have HK1 := Lib.hid K1
  clear K1
  by_cases h100 : n ≤ 100
  · have hg : decide ((n : Int) > 100) = false := by simp; omega
    have hg2 : ¬ ((n : Int) > 100) := by omega
    have H1 := SlOf.move HH.out intRow_stab (by omega) HK1.out (by simp) (fun x hx => .inl hx)
    have hF := first_any A C l w1 (by rw [HLN.out]; exact H1) (by rw [HLN.out]; omega)
    rw [HLN.out] at hF
    have HF := Lib.hid hF
    clear hF H1
    go_wp2_with fail
    refine HF.out.mono ?_
    rintro e w2 ⟨⟨v, s, rfl, NV, hri⟩, K2⟩
    have hsl : s.length = n := by rw [hri.1.length_eq]; exact HLN.out
    obtain ⟨As, Cs, rfl⟩ := NV.slice
    have hKK := HK1.out.trans K2
    obtain ⟨A', C', hv, hv0, hcl⟩ := IntC.data (SlOf.move HH.out intRow_stab (by omega) hKK (by simp) (fun x hx => .inl hx)) (by have := HLN.out; omega)
    simp only [Value.slice.injEq] at hv
    obtain ⟨rfl, hv1, rfl⟩ := hv
    clear hv1
    clear hv0
    obtain ⟨A', C', hv, hv0, hcs⟩ := IntC.own (NV.any []) (by omega)
    simp only [Value.slice.injEq] at hv
    obtain ⟨rfl, hv1, rfl⟩ := hv
    clear hv1
    clear hv0
    have HB := Lib.hid (⟨hcl, hcs, hri, hKK⟩ : _ ∧ _ ∧ _ ∧ _)
    clear hcl hcs hri hKK K2 NV HF
    rw [hsl]
    have HSL := Lib.hid hsl
    clear hsl
    go_wp2
    go_loopw [7, 9] (fun av iv wr => ∃ (k : Nat), iv = .int .i64 k ∧ av = .int .i64 (cntI x l k : Nat) ∧ k ≤ n ∧ Hid (Keep [] w2 wr)) (fun _ iv _ => n - (intOf iv).toNat)
    case atStart => exact ⟨0, rfl, by rw [cntI_zero]; rfl, by omega, Lib.hid (Keep.refl _ _)⟩
    case round =>
      obtain ⟨k, rfl, rfl, hk, HKr⟩ := hrel
      have hcb := cntI_le x l k
      by_cases hlt : k < n
      · have hlt2 : (k : Int) < (n : Int) := by omega
        have hkl : k < l.length := by rw [HLN.out]; exact hlt
        obtain ⟨b, o, rfl, hc⟩ := HB.out.1 (by omega)
        have c0 := HKr.out.cell (hc k hkl) (by simp)
        have hsu := cntI_succ x l k hkl
        generalize l[k] = z at c0 hsu
        generalize cntI x l k = q0 at *
        by_cases hz : z = x
        · rw [if_pos hz] at hsu
          have hz2 : (z == x) = true := by simp [hz]
          have HS := Lib.hid hsu
          clear hsu hc hz
          go_wp2
          go_roundw
          case rel => exact ⟨k + 1, by go_num, by rw [HS.out]; go_num, by omega, HKr⟩
          case measure => simp [intOf]; omega
        · rw [if_neg hz] at hsu
          have hz2 : (z == x) = false := by simp [hz]
          have HS := Lib.hid hsu
          clear hsu hc hz
          go_wp2
          go_roundw
          case rel => exact ⟨k + 1, by go_num, by rw [HS.out]; go_num, by omega, HKr⟩
          case measure => simp [intOf]; omega
      · obtain rfl : k = n := by omega
        obtain ⟨n, rfl⟩ : ∃ n, n = k := ⟨_, rfl⟩
        obtain ⟨w3, rfl⟩ : ∃ w3 : World, w3 = wr := ⟨_, rfl⟩
        generalize hca : cntI x l n = ca at *
        have HCA := Lib.hid hca
        clear hca
        go_wp2
        go_loopw [8, 10] (fun bv iv wr => ∃ (k : Nat), iv = .int .i64 k ∧ bv = .int .i64 (cntI x s k : Nat) ∧ k ≤ n ∧ Hid (Keep [] w2 wr)) (fun _ iv _ => n - (intOf iv).toNat)
        case atStart => exact ⟨0, rfl, by rw [cntI_zero]; rfl, by omega, HKr⟩
        case round =>
          obtain ⟨k, rfl, rfl, hk, HKs⟩ := hrel
          have hcb2 := cntI_le x s k
          by_cases hlt : k < n
          · have hlt2 : (k : Int) < (n : Int) := by omega
            have hks : k < s.length := by rw [HSL.out]; exact hlt
            obtain ⟨b, o, rfl, hc⟩ := HB.out.2.1 (by omega)
            have c0 := HKs.out.cell (hc k hks) (by simp)
            have hsu := cntI_succ x s k hks
            by_cases hk0 : k = 0
            · subst hk0
              rw [Nat.add_zero] at c0
              generalize s[0] = z at c0 hsu
              generalize cntI x s 0 = q0 at *
              have hcd : q0 = 0 := by omega
              by_cases hz : z = x
              · rw [if_pos hz] at hsu
                have hz2 : (z == x) = true := by simp [hz]
                have HS := Lib.hid hsu
                clear hsu hc hz hcd
                go_wp2
                go_quiet (fail)
                go_wp2
                go_roundw
                case rel => exact ⟨1, by go_num, by rw [HS.out]; go_num, by omega, Lib.hid (HKs.out.drewN _)⟩
                case measure => simp [intOf]; omega
              · rw [if_neg hz] at hsu
                have hz2 : (z == x) = false := by simp [hz]
                have HS := Lib.hid hsu
                clear hsu hc hz hcd
                go_wp2
                go_quiet (fail)
                go_wp2
                go_roundw
                case rel => exact ⟨1, by go_num, by rw [HS.out]; go_num, by omega, Lib.hid (HKs.out.drewN _)⟩
                case measure => simp [intOf]; omega
            · obtain ⟨m, rfl⟩ : ∃ m, k = m + 1 := ⟨k - 1, by omega⟩
              have c1 := HKs.out.cell (hc m (by omega)) (by simp)
              have hns := rises_at HB.out.2.2.1 m hks
              have hmp : (0 : Int) < (m : Int) + 1 := by omega
              generalize s[m + 1] = z at c0 hsu hns
              generalize s[m] = y at c1 hns
              generalize cntI x s (m + 1) = q0 at *
              have hns2 : decide (z < y) = false := by simp; omega
              by_cases hz : z = x
              · rw [if_pos hz] at hsu
                have hz2 : (z == x) = true := by simp [hz]
                have HS := Lib.hid hsu
                clear hsu hc hz hk0
                go_wp2
                go_quiet (fail)
                go_wp2
                go_roundw
                case rel => exact ⟨m + 1 + 1, by go_num, by rw [HS.out]; go_num, by omega, Lib.hid (HKs.out.drewN _)⟩
                case measure => simp [intOf]; omega
              · rw [if_neg hz] at hsu
                have hz2 : (z == x) = false := by simp [hz]
                have HS := Lib.hid hsu
                clear hsu hc hz hk0
                go_wp2
                go_quiet (fail)
                go_wp2
                go_roundw
                case rel => exact ⟨m + 1 + 1, by go_num, by rw [HS.out]; go_num, by omega, Lib.hid (HKs.out.drewN _)⟩
                case measure => simp [intOf]; omega
          · obtain rfl : k = n := by omega
            have hce : cntI x s k = ca := by
              have h1 := HCA.out
              have h2 := HB.out.2.2.1.1.count_eq x
              rw [← HLN.out, cntI_all] at h1
              rw [← HSL.out, cntI_all, h2, h1]
            rw [hce]
            have HKF := Lib.hid (HB.out.2.2.2.trans HKs.out)
            clear hce hcb2 hlt
            go_wp2
            go_ret
            exact ⟨rfl, HKF.out⟩
  · have hg : decide ((n : Int) > 100) = true := by simp; omega
    have hg2 : ((n : Int) > 100) := by omega
    go_wp2
    go_ret
    exact ⟨rfl, HK1.out⟩
end Go.Proofs.YtbpidoiellcccaaGreatDoor
namespace Go.Proofs.YtbpidoiellcccaaGreatDoor.RowRF
open Go.ChangeShapes Go.WideShapes Go.ChangeAt Go.RowKit Go.Joins Go.Deep Go.Proofs.YtbpidoiellcccaaGreatDoor.RowG

def zeroA : Array Value := #[.slice none 0 0, .int .i64 0]
set_option maxRecDepth 100000 in
theorem laid_met (os : Os) : laidMet Tryz.prog laid2 ((laidWorld os).forCall (fun _ _ => 0) ⟨#[], zeroA, []⟩).memory :=
  laidMet_of_run' 8 (by kernel_rfl) (by kernel_rfl)
theorem reads (os : Os) {H : Type} (enc : TypeId × Value → H) : ∃ places, DataW.whole enc Tryz.prog ((laidWorld os).forCall (fun _ _ => 0) ⟨#[], zeroA, []⟩).memory Tryz.f5.params.toList Rows.rankFirstSpec.vars false zeroA.toList 8 = some ([.nil, .lit (.int .i64 0)], [], places) :=
  ⟨[], by kernel_rfl⟩
set_option maxRecDepth 100000 in
set_option maxHeartbeats 1000000 in
theorem contract (H : Type) (enc : TypeId × Value → H) (W : World) (args : Array Value) (ds gs : List (DataW H)) (before : List MemPlace) (base : Nat)
    (hval : ∀ (j : Nat) t v, Tryz.f5.params[j]? = some t → args[j]? = some v → Value.okWide Tryz.prog W .any base t v)
    (hW : DataW.Whole enc Tryz.prog Tryz.f5.params.toList Rows.rankFirstSpec.vars false W args.toList ds gs before) :
    Calls Tryz.prog 5 args W fun e W' => ∃ v, e = .returned v ∧ Rows.rankFirstSpec.post enc Tryz.prog Tryz.f5 false true false false W args v W' := by
  have hW' := hW
  obtain ⟨p, q, hA0, hV, rfl, hfz, hnd⟩ := hW
  have hA : DataW.TrodAll enc Tryz.prog W 0 (fun _ => true) true Tryz.f5.params.toList args.toList ds p := hA0
  rw [Tryz.params5] at hA hval
  obtain ⟨v0, vs0, d0, ds0, p0, q0, hargs, rfl, rfl, h0, r0⟩ := trodAll_cons hA
  obtain ⟨v1, vs1, d1, ds1, p1, q1, rfl, rfl, rfl, h1, r1⟩ := trodAll_cons r0
  obtain ⟨rfl, rfl, rfl⟩ := trodAll_nil r1
  obtain rfl : args = #[v0, v1] := by cases args; simp_all
  obtain ⟨rfl, rfl⟩ := trodVars_none hV
  have k0 := h0
  have lt0 : ∀ x ∈ p0, x.block < W.heap.size := by obtain ⟨m, hm⟩ := k0; exact DataW.trod_lt m _ _ _ hm
  obtain ⟨x0, y0, z0, rfl⟩ := okWide_slice Tryz.underlying26 (hval 0 _ v0 rfl rfl)
  obtain ⟨n0, hn0⟩ := h0
  obtain ⟨A0, l0, C0, e0, hp0⟩ := ints_read hn0
  obtain ⟨rfl, rfl, rfl⟩ : x0 = A0 ∧ y0 = l0.length ∧ z0 = C0 := by simpa using e0
  obtain ⟨a1, rfl, rfl, rfl, w1⟩ := open_int Tryz.underlying3 (hval 1 _ v1 rfl rfl) h1
  clear hA0
  refine (rankFirst_walk x0 z0 l0 a1 W hp0).mono fun e W' ⟨he, kp⟩ => ?_
  have bel := kp.below
  subst he
  exact ⟨_, rfl, _, _, _, [], _, [], hW', trodAll_mk1 (shut_bool Tryz.underlying4 _), (trodAll_cons_mk (Below.trod laidOut (by kernel_rfl) (of_decide_eq_true (by kernel_rfl)) k0 bel lt0) (trodAll_cons_mk (shut_int Tryz.underlying3 w1) trodAll_mk0)), rfl, bel.frame _, fun h => by cases h⟩

set_option maxRecDepth 100000 in
theorem lifted (os : Os) (started : os.Started) (H : Type) (enc : TypeId × Value → H) (F : Stop.Interp) :
    ReturnsInHanded {} Tryz.checked os 5 .any ((OpenSpec.ofChange Rows.rankFirstSpec).preRow enc Tryz.prog Tryz.f5 Rows.rankFirstRow.domain false Rows.rankFirstRow.laid) (((OpenSpec.ofChange Rows.rankFirstSpec).at F).post enc Tryz.prog Tryz.f5 false true false false) := by
  obtain ⟨places, hx⟩ := reads os enc
  refine returnsInHanded_of_row (C := Tryz.checked) (s := OpenSpec.ofChange Rows.rankFirstSpec) own started (by kernel_rfl) Tryz.func5
    (witness_row_at (enc := enc) (C := Tryz.checked) false (laidWorld os) zeroA rfl (by kernel_rfl) (by kernel_rfl) (by kernel_rfl)
      (OpenSpec.preRow_of_cond 8 hx (by kernel_rfl) (fun k hk => by cases hk) (by kernel_rfl) (laid_met os))) ?_
  intro W base args ds gs before hval hW _ _ _ _ _ _
  exact contract H enc W args ds gs before base hval hW

theorem said : Rows.RankFirstSaid :=
  OpenClaim.holds_of_cond 5 Tryz.f5 rfl rfl rfl rfl rfl rfl rfl ⟨rfl, rfl, rfl, rfl, rfl⟩ rfl rfl rfl rfl rfl (by kernel_rfl) Tryz.func5 (by kernel_rfl)
    (of_decide_eq_true (by kernel_rfl)) (by unfold Func.isWrapper; first | (rw [if_pos (by decide +kernel)]; kernel_rfl) | (rw [if_neg (by decide +kernel)]; exact ⟨rfl, rfl⟩))
    (fun os started H enc _ F => by rw [OpenClaim.pre_eq_preRow]; exact lifted os started H enc F)

theorem plain (f : FuncId) (fn : Func) (hf : Tryz.pinned.checked.prog.funcNamed "exegete/exegetelaw10.RankFirst" = some f) (hfn : Tryz.pinned.checked.prog.funcs[f]? = some fn) :
    true = Tryz.pinned.checked.prog.looks [] ∧ ∀ (j : Nat) t, fn.params[j]? = some t → Tryz.pinned.checked.prog.wantsStandIn t = false := by
  obtain rfl : f = 5 := Option.some.inj ((show Tryz.prog.funcNamed "exegete/exegetelaw10.RankFirst" = some 5 by kernel_rfl).symm.trans hf) |>.symm
  obtain rfl : fn = Tryz.f5 := (Option.some.inj (Tryz.func5.symm.trans hfn)).symm
  refine ⟨by kernel_rfl, fun j t ht => ?_⟩
  rw [Tryz.params5] at ht
  have hm : t = 26 ∨ t = 3 := by simpa [or_assoc] using Array.mem_of_getElem? ht
  rcases hm with rfl | rfl
  · exact (show Tryz.prog.wantsStandIn 26 = false by kernel_rfl)
  · exact (show Tryz.prog.wantsStandIn 3 = false by kernel_rfl)

theorem card : Rows.RankFirstCardSaid :=
  Claim7.holds_tied_plain_at .later [] _ _ _ _ said (fun _ h => by cases h) (by kernel_rfl) (fun _ h => by cases h) rankFirst_row_tie rfl ⟨rfl, rfl⟩ (by kernel_rfl) rfl plain (by kernel_rfl)
end Go.Proofs.YtbpidoiellcccaaGreatDoor.RowRF
namespace Go.Proofs.YtbpidoiellcccaaGreatDoor
/-- The card of the law. -/
theorem rankFirst_card : Rows.RankFirstCardSaid := RowRF.card
#print axioms rankFirst_card
end Go.Proofs.YtbpidoiellcccaaGreatDoor
