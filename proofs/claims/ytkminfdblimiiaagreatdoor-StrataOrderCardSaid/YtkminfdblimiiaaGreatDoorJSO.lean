/- The law StrataOrder, as its row and its card state it: for every input it answers true and the arguments read as before. -/
import Derived.Test.YtkminfdblimiiaaGreatDoorJSW
import Derived.Test.YtkminfdblimiiaaGreatDoorJ20
set_option linter.unusedVariables false
set_option linter.unusedSimpArgs false
namespace Go.Proofs.YtkminfdblimiiaaGreatDoor
open Go Go.RowKit Go.MapKept

theorem strike_count (S : Nat → Bool) (n : Nat) : ∀ N, n < N → S n = true → (List.range N).countP (fun m => S m && !decide (m = n)) + 1 = (List.range N).countP S
  | 0, h, _ => absurd h (by omega)
  | N + 1, h, hs => by
    rw [List.range_succ, List.countP_append, List.countP_append]
    by_cases e : n = N
    · subst e
      have e1 : (List.range n).countP (fun m => S m && !decide (m = n)) = (List.range n).countP S := List.countP_congr (fun x hx => by
        have : x < n := by simpa using hx
        simp [show ¬ x = n by omega])
      rw [e1]
      simp [hs]
    · have ih := strike_count S n N (by omega) hs
      have e1 : [N].countP (fun m => S m && !decide (m = n)) = [N].countP S := by
        simp [show ¬ N = n by omega]
      rw [e1]
      omega
theorem OrdRel.count {ps : List ProdS} {N : Nat} {S : Nat → Bool} {out : List Int} {r : Option (List Int)} (h : OrdRel ps S out r) : (∀ n, S n = true → n < N) → ∀ l, r = some l → l.length = out.length + (List.range N).countP S := by
  induction h with
  | done h1 =>
    rintro _ l ⟨⟩
    rw [List.countP_eq_zero.2 (fun x _ => by simp [h1 x])]
    rfl
  | stuck _ _ => rintro _ l ⟨⟩
  | @step S out n r h1 _ _ ih =>
    intro hS l hl
    have h2 := ih (fun m hm => by simp at hm; exact hS m hm.1) l hl
    have h3 := strike_count S n N (hS n h1.1) h1.1
    simp at h2
    omega
/-- How many of the first k have filters. -/
def cntF (ps : List ProdS) (k : Nat) : Nat := (List.range k).countP (filtN ps)
theorem cntF_succ (ps : List ProdS) (k : Nat) : cntF ps (k + 1) = cntF ps k + (if filtN ps k = true then 1 else 0) := by
  unfold cntF
  rw [List.range_succ, List.countP_append]
  cases h : filtN ps k <;> simp [h]
theorem cntF_le (ps : List ProdS) (k : Nat) : cntF ps k ≤ k := by
  have := List.countP_le_length (p := filtN ps) (l := List.range k)
  simpa [cntF] using this
/-- What the law asks of an order. -/
structure OrdL (ps : List ProdS) (l : List Int) : Prop where
  len : l.length = cntF ps ps.length
  nat : ∀ i (h : i < l.length), ∃ x : Nat, l[i] = x ∧ x < ps.length ∧ filtN ps x = true
  dist : ∀ i k (hi : i < l.length) (hk : k < l.length), i < k → l[k] ≠ l[i]
  free : ∀ i k (hi : i < l.length) (hk : k < l.length), i ≤ k → inN ps l[i].toNat l[k].toNat = false
theorem filtN_lt {ps : List ProdS} {n : Nat} (h : filtN ps n = true) : n < ps.length := by
  unfold filtN at h
  simp only [Bool.and_eq_true, decide_eq_true_eq] at h
  exact h.1
theorem ordL_of {ps : List ProdS} {l : List Int} (h : OrdRel ps (filtN ps) [] (some l)) : OrdL ps l := by
  obtain ⟨t, e, O⟩ := h.law l rfl
  rw [List.nil_append] at e
  subst e
  refine ⟨?_, fun i hi => ?_, fun i k hi hk hik e => ?_, fun i k hi hk hik => O.free i k hi hk hik⟩
  · have := h.count (N := ps.length) (fun n hn => filtN_lt hn) l rfl
    simpa [cntF] using this
  · obtain ⟨x, h1, h2⟩ := (O.mem l[i]).1 (List.getElem_mem hi)
    exact ⟨x, h1, filtN_lt h2, h2⟩
  · have := (List.nodup_iff_pairwise_ne.1 O.dist)
    have h2 := List.pairwise_iff_getElem.1 this i k hi hk hik
    exact h2 e.symm
set_option maxRecDepth 20000 in
set_option maxHeartbeats 4000000 in
theorem strataOrder_walk (A K : Option Addr) (C m D : Nat) (ps : List ProdS) (w : World) (HP : Prods [] w (.slice A ps.length C) ps) (hmk : m ≤ 9223372036854775807) :
    Calls Tryz.prog 4 #[.agg #[.slice A ps.length C, .slice K m D]] w fun e w' => e = .returned (.bool true) ∧ Keep [] w w' := by
  have K0 := (Keep.refl [] w).alloc (.cells #[.slice A ps.length C, .slice K m D] 25)
  have HP0 : Prods [] _ (.slice A ps.length C) ps := HP.mv0 K0
  have B0 := Blk.new w #[.slice A ps.length C, .slice K m D] 25
  have hlp := (SlOf.len HP).2.1
  clear HP
  go_enter Tryz.func4, Tryz.ntmps4
  go_wp2_with fail
  refine (awake12_any _).mono ?_
  rintro e w1 ⟨rfl, K1⟩
  have B1 := B0.keep K1 (by simp)
  have b1 := B1.cell
  have HP1 : Prods [] w1 (.slice A ps.length C) ps := HP0.mv0 K1
  go_wp2_with fail
  refine (few_any [] A K C m D ps _ HP1 hmk).mono ?_
  rintro e w2 ⟨⟨fw, rfl⟩, K2⟩
  have B2 := B1.keep K2 (by simp)
  have b2 := B2.cell
  have HP2 : Prods [] w2 (.slice A ps.length C) ps := HP1.mv0 K2
  have KF2 := (K0.trans K1).trans K2
  clear HP0 HP1 B0 B1 b1
  cases fw with
  | false =>
    clear HP2
    go_wp2
    go_ret
    exact ⟨rfl, KF2⟩
  | true =>
    have hc3 := may_any [] (.slice A ps.length C) (.slice K m D) ps _ HP2
    have HC3 := Lib.hid hc3
    clear hc3
    go_wp2_with fail
    refine HC3.out.mono ?_
    rintro e w3 ⟨rfl, K3⟩
    have B3 := B2.keep K3 (by simp)
    have b3 := B3.cell
    have HP3 : Prods [] w3 (.slice A ps.length C) ps := HP2.mv0 K3
    have KF3 := KF2.trans K3
    clear HP2 B2 b2 HC3
    cases hg : gmay ps with
    | false =>
      clear HP3
      go_wp2
      go_ret
      exact ⟨rfl, KF3⟩
    | true =>
      obtain ⟨hl0, hl1⟩ := gmay_len hg
      obtain ⟨bp, op, _, _, _, _, rfl, -, -, -, -, -, -⟩ := HP3.pick 0 hl0
      have HO := Lib.hid (order12_any _ K C m D ps _ HP3)
      have HPP := Lib.hid HP3
      have HBB := Lib.hid B3
      have HKF := Lib.hid KF3
      clear HP3 B3 KF3
      go_wp2_with fail
      refine HO.out.mono ?_
      rintro e w4 ⟨⟨r, hr1, _, v, rfl, hv⟩, K4⟩
      have HR := Lib.hid (hr1 hg)
      have b4 := (HBB.out.keep K4 (by simp)).cell
      have HX := Lib.hid K4
      clear hr1 HO b3 K4
      cases r with
      | none =>
        have HB0 := Lib.hid (order_is hg HR.out rfl)
        obtain ⟨V, F, rfl, -, -⟩ := hv
        have HCB := Lib.hid (bad12_any _ K C m D ps _ (HPP.out.mv0 HX.out))
        generalize badR ps = bR at HB0 HCB
        clear HR
        simp only [Option.isSome_none, Option.getD_none, List.length_nil]
        go_wp2_with fail
        refine HCB.out.mono ?_
        rintro e w5 ⟨rfl, K5⟩
        have hb := HB0.out
        have hd : decide (0 ≤ bR) = true := by simpa using hb
        go_wp2
        go_ret
        exact ⟨rfl, HKF.out.trans (HX.out.trans K5)⟩
      | some l =>
        have HOL := Lib.hid (ordL_of HR.out)
        simp only [Option.isSome_some, Option.getD_some] at hv ⊢
        obtain ⟨V, F, rfl, hlm, hcl⟩ := hv
        have HCL := Lib.hid hcl
        have HT0 : Hid (0 = cntF ps 0) := Lib.hid rfl
        clear HR hcl
        go_wp2
        clear b4
        go_loopw [7, 8] (fun mv iv wr => ∃ (i mm : Nat), i ≤ ps.length ∧ iv = .int .i64 i ∧ mv = .int .i64 mm ∧ Hid (mm = cntF ps i) ∧ Keep [] w4 wr) (fun _ iv _ => ps.length - (intOf iv).toNat)
        case atStart => exact ⟨0, 0, by omega, rfl, rfl, HT0, Keep.refl _ _⟩
        case round =>
          clear HT0
          obtain ⟨i, mm, hi, rfl, rfl, hm, Kr⟩ := hrel
          have HXr := Lib.hid (HX.out.trans Kr)
          have g0 := (HBB.out.keep HXr.out (by simp)).cell 0
          by_cases hil : i < ps.length
          · have hil' : (i : Int) < (ps.length : Int) := by omega
            have HIL := Lib.hid hil
            obtain ⟨a0, c2, e0, e1, e2, hfa⟩ := filt_at (HPP.out.mv0 HXr.out) hil
            have hmm : mm ≤ ps.length := by have := cntF_le ps i; have := hm.out; omega
            have HN := Lib.hid (fun x (hx : x = mm + (if filtN ps i = true then 1 else 0)) => (by rw [hx, hm.out, cntF_succ] : x = cntF ps (i + 1)))
            have HFA := Lib.hid hfa
            have HKr := Lib.hid Kr
            generalize filtN ps i = ff at HFA HN
            generalize mk ps i = mi at e1 HFA
            clear hm hfa Kr
            go_wp2_with fail
            refine HFA.out.mono ?_
            rintro e w6 ⟨rfl, K6⟩
            have HK6 := Lib.hid (HKr.out.trans K6)
            clear HFA e0 e1 e2 g0 K6
            cases ff with
            | false =>
              go_wp2
              go_roundw
              case rel => exact ⟨i + 1, mm, by have := HIL.out; omega, by go_num, rfl, Lib.hid (HN.out mm (by simp)), HK6.out⟩
              case measure => simp [intOf]; have := HIL.out; omega
            | true =>
              go_wp2
              go_roundw
              case rel => exact ⟨i + 1, mm + 1, by have := HIL.out; omega, by go_num, by go_num, Lib.hid (HN.out (mm + 1) (by simp)), HK6.out⟩
              case measure => simp [intOf]; have := HIL.out; omega
          · obtain rfl : i = ps.length := by omega
            have hmm : mm = l.length := hm.out.trans HOL.out.len.symm
            subst hmm
            have HKr := Lib.hid Kr
            have HT1 : Hid (Keep [] wr wr) := Lib.hid (Keep.refl _ _)
            clear hm Kr
            go_wp2
            clear g0
            obtain ⟨wo, rfl⟩ : ∃ W : World, W = wr := ⟨_, rfl⟩
            go_loopw [9] (fun iv wr => ∃ i : Nat, i ≤ l.length ∧ iv = .int .i64 i ∧ Keep [] wo wr) (fun iv _ => l.length - (intOf iv).toNat)
            case atStart => exact ⟨0, by omega, rfl, HT1.out⟩
            case round =>
              clear HT1
              obtain ⟨i, hi, rfl, Kq⟩ := hrel
              by_cases hil : i < l.length
              · have hil' : (i : Int) < (l.length : Int) := by omega
                have HIL := Lib.hid hil
                obtain ⟨lb, lo, rfl, hlc⟩ := HCL.out (by omega)
                obtain ⟨x, hx, hxl, hxf⟩ := HOL.out.nat i hil
                have K4q : Keep [] w4 wr := HKr.out.trans Kq
                have K3q := HX.out.trans K4q
                have q0 := Keep.cell (T := []) K4q (hlc i hil) (by simp)
                obtain ⟨a0, c2, e0, e1, e2, hfa⟩ := filt_at (HPP.out.mv0 K3q) hxl
                have hxl' : (x : Int) < (ps.length : Int) := by omega
                have q0' : wr.cell? ⟨lb, lo + i, none⟩ = some (.int .i64 x) := by rw [q0, hx]
                have hlt0 : decide ((x : Int) < 0) = false := by simp
                have hlt1 : decide (ps.length ≤ x) = false := by simp; omega
                rw [hxf] at hfa
                have Bq := HBB.out.keep K3q (by simp)
                have HKP := Lib.hid (fun w' (K' : Keep [] wr w') => (⟨Keep.cell (T := []) K' q0' (by simp), (Bq.keep K' (by simp)).cell 0, (Bq.keep K' (by simp)).cell 1, Keep.cell (T := []) K' e0 (by simp), Keep.cell (T := []) K' e1 (by simp), Keep.cell (T := []) K' e2 (by simp), K'⟩ : w'.cell? ⟨lb, lo + i, none⟩ = some (.int .i64 x) ∧ w'.cell? ⟨w.heap.size, 0, none⟩ = some (.slice (some ⟨bp, op, none⟩) ps.length C) ∧ w'.cell? ⟨w.heap.size, 1, none⟩ = some (.slice K m D) ∧ w'.cell? ⟨bp, op + x * 3, none⟩ = some a0 ∧ w'.cell? ⟨bp, op + x * 3 + 1, none⟩ = some (.int .i64 (mk ps x)) ∧ w'.cell? ⟨bp, op + x * 3 + 2, none⟩ = some c2 ∧ Keep [] wr w'))
                have HFI := Lib.hid (fun w' (K' : Keep [] wr w') => (by
                  obtain ⟨a0', c2', f0, f1, f2, hfa'⟩ := filt_at ((HPP.out.mv0 K3q).mv0 K') hxl
                  have E := HKP.out w' K'
                  have h1 : a0' = a0 := by have := f0.symm.trans E.2.2.2.1; simpa using this
                  have h2 : c2' = c2 := by have := f2.symm.trans E.2.2.2.2.2.1; simpa using this
                  rw [h1, h2, hxf] at hfa'
                  exact hfa' : Calls Tryz.prog 14 #[.agg #[a0, .int .i64 (mk ps x), c2]] w' fun e w'' => e = .returned (.bool true) ∧ Keep [] w' w''))
                have HFR := Lib.hid (fun w' (K' : Keep [] wr w') => from_any [] _ K C m D ps x w' ((HPP.out.mv0 K3q).mv0 K') (by simp))
                have HKQ := Lib.hid (⟨Kq, K4q⟩ : _ ∧ _)
                have HXX := Lib.hid hx
                have Kd := (Keep.refl [] wr).drew
                generalize mk ps x = mx at e1 HKP HFI
                clear hlc q0 hfa Bq K3q Kq K4q hx
                go_wp2
                first
                  | (go_region_held3 (fun w' => w'.cell? ⟨lb, lo + i, none⟩ = some (.int .i64 x) ∧ w'.cell? ⟨w.heap.size, 0, none⟩ = some (.slice (some ⟨bp, op, none⟩) ps.length C) ∧ w'.cell? ⟨w.heap.size, 1, none⟩ = some (.slice K m D) ∧ w'.cell? ⟨bp, op + x * 3, none⟩ = some a0 ∧ w'.cell? ⟨bp, op + x * 3 + 1, none⟩ = some (.int .i64 mx) ∧ w'.cell? ⟨bp, op + x * 3 + 2, none⟩ = some c2 ∧ Keep [] wr w') (exact HKP.out _ (by assumption)) (first
                      | (go_at_call 14; refine (HFI.out _ (by assumption)).mono ?_; rintro e w7 ⟨rfl, K7⟩; have K7' : Keep [] wr w7 := Keep.trans (by assumption) K7; clear K7)))
                  | fail
                have K7x : Keep [] wr w7 := K7'
                have Kd7 := K7x.drew
                obtain ⟨p1, p2, p3, p4, p5, p6, _⟩ := HKP.out _ K7x
                clear q0' e0 e1 e2
                go_wp2
                first
                  | (go_region_held3 (fun w' => w'.cell? ⟨lb, lo + i, none⟩ = some (.int .i64 x) ∧ w'.cell? ⟨w.heap.size, 0, none⟩ = some (.slice (some ⟨bp, op, none⟩) ps.length C) ∧ w'.cell? ⟨w.heap.size, 1, none⟩ = some (.slice K m D) ∧ w'.cell? ⟨bp, op + x * 3, none⟩ = some a0 ∧ w'.cell? ⟨bp, op + x * 3 + 1, none⟩ = some (.int .i64 mx) ∧ w'.cell? ⟨bp, op + x * 3 + 2, none⟩ = some c2 ∧ Keep [] wr w') (exact HKP.out _ (by assumption)) (first
                      | (go_at_call 20; refine (HFR.out _ (by assumption)).mono ?_; rintro e w8 ⟨⟨v, rfl, hv⟩, K8⟩; have K8' : Keep [] wr w8 := Keep.trans (by assumption) K8; clear K8)))
                  | fail
                rw [fromR_fromF hg hxl] at hv
                obtain ⟨rz, Fz, rfl, _, hcz⟩ := hv.at (by rw [fromF_len]; omega)
                have hlr : (fromF ps x).length = ps.length := fromF_len ps x
                rw [hlr]
                have HIN : Hid (∀ y, y < ps.length → w8.cell? ⟨rz, y, none⟩ = some (.bool (inN ps x y))) := Lib.hid (fun y hy => by
                  have h := hcz y (by rw [fromF_len]; exact hy)
                  unfold inN
                  rw [List.getD_eq_getElem?_getD, List.getElem?_eq_getElem (by rw [fromF_len]; exact hy)]
                  exact h)
                have HLK : Hid (∀ k (hk : k < l.length), i ≤ k → ∃ y : Nat, y < ps.length ∧ inN ps x y = false ∧ (i < k → y ≠ x) ∧ ∀ w', Keep [] w8 w' → w'.cell? ⟨lb, lo + k, none⟩ = some (.int .i64 y)) := Lib.hid (fun k hk hik => by
                  obtain ⟨y, hy, hyl, _⟩ := HOL.out.nat k hk
                  refine ⟨y, hyl, ?_, fun hlt e => ?_, fun w' K' => ?_⟩
                  · have h := HOL.out.free i k HIL.out hk hik
                    rw [HXX.out, hy] at h
                    simpa using h
                  · exact HOL.out.dist i k HIL.out hk hlt (by rw [hy, HXX.out, e])
                  · obtain ⟨lb', lo', he, hlc⟩ := HCL.out (by have := HIL.out; omega)
                    simp only [Option.some.injEq, Addr.mk.injEq, and_true] at he
                    obtain ⟨rfl, rfl⟩ := he
                    have h := Keep.cell (T := []) ((HKQ.out.2.trans K8').trans K') (hlc k hk) (by simp)
                    rw [h, hy])
                have HKI := Lib.hid (fun w' (K' : Keep [] w8 w') => (HKP.out w' (K8'.trans K')).1)
                have HK8 := Lib.hid (HKQ.out.1.trans K8')
                clear hcz hv hlr K8' K7' K7x Kd7 Kd p1 p2 p3 p4 p5 p6 HFR HFI
                have hii : (i : Int) < (l.length : Int) := by omega
                go_wp2
                obtain ⟨wq, rfl⟩ : ∃ W : World, W = wr := ⟨_, rfl⟩
                go_loopw [11] (fun kv wr => ∃ k : Nat, i ≤ k ∧ k ≤ l.length ∧ kv = .int .i64 k ∧ Keep [] w8 wr) (fun kv _ => l.length - (intOf kv).toNat)
                case atStart => exact ⟨i, Nat.le_refl _, by omega, rfl, Keep.refl _ _⟩
                case round =>
                  obtain ⟨k, hik, hk, rfl, Kk⟩ := hrel
                  by_cases hkl : k < l.length
                  · have hkl' : (k : Int) < (l.length : Int) := by omega
                    have HKL := Lib.hid hkl
                    obtain ⟨y, hyl, hyn, hyx, hyc⟩ := HLK.out k hkl hik
                    have z0 := hyc wr Kk
                    have z1 := HKI.out wr Kk
                    have z2 := Keep.cell (T := []) Kk (HIN.out y hyl) (by simp)
                    rw [hyn] at z2
                    have hyl' : (y : Int) < (ps.length : Int) := by omega
                    have hd0 : decide ((y : Int) < 0) = false := by simp
                    have hd1 : decide (ps.length ≤ y) = false := by simp; omega
                    have HKk := Lib.hid Kk
                    by_cases hlt : i < k
                    · have hdl : decide (i < k) = true := by simpa using hlt
                      have hyx' := hyx hlt
                      have hbe : ((y : Int) == (x : Int)) = false := by simp; omega
                      have hbe2 : (y == x) = false := by simpa using hyx'
                      clear hyx hyc hyx' Kk hyn
                      go_wp2
                      go_quiet (fail)
                      go_wp2
                      go_roundw
                      case rel => exact ⟨k + 1, by omega, by have := HKL.out; omega, by go_num, HKk.out.drewN _⟩
                      case measure => simp [intOf]; have := HKL.out; omega
                    · obtain rfl : k = i := by omega
                      clear hyx hyc Kk hyn hlt
                      go_wp2
                      go_quiet (fail)
                      go_wp2
                      go_roundw
                      case rel => exact ⟨k + 1, by omega, by have := HKL.out; omega, by go_num, HKk.out.drewN _⟩
                      case measure => simp [intOf]; have := HKL.out; omega
                  · obtain rfl : k = l.length := by omega
                    have HFE := Lib.hid (HK8.out.trans Kk)
                    clear Kk
                    go_wp2
                    go_roundw
                    case rel => exact ⟨i + 1, by have := HIL.out; omega, by go_num, HFE.out⟩
                    case measure => simp [intOf]; have := HIL.out; omega
              · obtain rfl : i = l.length := by omega
                have HKZ := Lib.hid (HKF.out.trans (HX.out.trans (HKr.out.trans Kq)))
                go_wp2
                go_ret
                exact ⟨by simp, HKZ.out⟩
end Go.Proofs.YtkminfdblimiiaaGreatDoor
namespace Go.Proofs.YtkminfdblimiiaaGreatDoor.RowSO
open Go.ChangeShapes Go.WideShapes Go.ChangeAt Go.RowKit Go.Joins Go.Deep Go.Proofs.YtkminfdblimiiaaGreatDoor.RowG

def zeroA : Array Value := #[.agg #[.slice none 0 0, .slice none 0 0]]
set_option maxRecDepth 100000 in
theorem laid_met (os : Os) : laidMet Tryz.prog laid2 ((laidWorld os).forCall (fun _ _ => 0) ⟨#[], zeroA, []⟩).memory :=
  laidMet_of_run' 8 (by kernel_rfl) (by kernel_rfl)
theorem reads (os : Os) {H : Type} (enc : TypeId × Value → H) : ∃ places, DataW.whole enc Tryz.prog ((laidWorld os).forCall (fun _ _ => 0) ⟨#[], zeroA, []⟩).memory Tryz.f4.params.toList Rows.strataOrderSpec.vars false zeroA.toList 8 = some ([.agg [.nil, .nil]], [], places) :=
  ⟨[], by kernel_rfl⟩
set_option maxRecDepth 100000 in
set_option maxHeartbeats 1000000 in
theorem contract (H : Type) (enc : TypeId × Value → H) (W : World) (args : Array Value) (ds gs : List (DataW H)) (before : List MemPlace) (base : Nat)
    (hval : ∀ (j : Nat) t v, Tryz.f4.params[j]? = some t → args[j]? = some v → Value.okWide Tryz.prog W .any base t v)
    (hW : DataW.Whole enc Tryz.prog Tryz.f4.params.toList Rows.strataOrderSpec.vars false W args.toList ds gs before) :
    Calls Tryz.prog 4 args W fun e W' => ∃ v, e = .returned v ∧ Rows.strataOrderSpec.post enc Tryz.prog Tryz.f4 false true false false W args v W' := by
  have hW' := hW
  obtain ⟨p, q, hA0, hV, rfl, hfz, hnd⟩ := hW
  have hA : DataW.TrodAll enc Tryz.prog W 0 (fun _ => true) true Tryz.f4.params.toList args.toList ds p := hA0
  rw [Tryz.params4] at hA hval
  obtain ⟨v0, vs0, d0, ds0, p0, q0, hargs, rfl, rfl, h0, r0⟩ := trodAll_cons hA
  obtain ⟨rfl, rfl, rfl⟩ := trodAll_nil r0
  obtain rfl : args = #[v0] := by cases args; simp_all
  obtain ⟨rfl, rfl⟩ := trodVars_none hV
  have k0 := h0
  have lt0 : ∀ x ∈ p0, x.block < W.heap.size := by obtain ⟨m, hm⟩ := k0; exact DataW.trod_lt m _ _ _ hm
  obtain ⟨A0, ps0, C0, K0, m0, D0, rfl, hp0, hm0⟩ := open_gram rfl (hval 0 _ v0 rfl rfl) h0
  clear hA0
  refine (strataOrder_walk A0 K0 C0 m0 D0 ps0 W hp0 hm0).mono fun e W' ⟨he, kp⟩ => ?_
  have bel := kp.below
  subst he
  exact ⟨_, rfl, _, _, _, [], _, [], hW', trodAll_mk1 (shut_bool Tryz.underlying4 _), (trodAll_cons_mk (Below.trod laidOut (by kernel_rfl) (of_decide_eq_true (by kernel_rfl)) k0 bel lt0) trodAll_mk0), rfl, bel.frame _, fun h => by cases h⟩

set_option maxRecDepth 100000 in
theorem lifted (os : Os) (started : os.Started) (H : Type) (enc : TypeId × Value → H) (F : Stop.Interp) :
    ReturnsInHanded {} Tryz.checked os 4 .any ((OpenSpec.ofChange Rows.strataOrderSpec).preRow enc Tryz.prog Tryz.f4 Rows.strataOrderRow.domain false Rows.strataOrderRow.laid) (((OpenSpec.ofChange Rows.strataOrderSpec).at F).post enc Tryz.prog Tryz.f4 false true false false) := by
  obtain ⟨places, hx⟩ := reads os enc
  refine returnsInHanded_of_row (C := Tryz.checked) (s := OpenSpec.ofChange Rows.strataOrderSpec) own started (by kernel_rfl) Tryz.func4
    (witness_row_at (enc := enc) (C := Tryz.checked) false (laidWorld os) zeroA rfl (by kernel_rfl) (by kernel_rfl) (by kernel_rfl)
      (OpenSpec.preRow_of_cond 8 hx (by kernel_rfl) (fun k hk => by cases hk) (by kernel_rfl) (laid_met os))) ?_
  intro W base args ds gs before hval hW _ _ _ _ _ _
  exact contract H enc W args ds gs before base hval hW

theorem said : Rows.StrataOrderSaid :=
  OpenClaim.holds_of_cond 4 Tryz.f4 rfl rfl rfl rfl rfl rfl rfl ⟨rfl, rfl, rfl, rfl, rfl⟩ rfl rfl rfl rfl rfl (by kernel_rfl) Tryz.func4 (by kernel_rfl)
    (of_decide_eq_true (by kernel_rfl)) (by unfold Func.isWrapper; first | (rw [if_pos (by decide +kernel)]; kernel_rfl) | (rw [if_neg (by decide +kernel)]; exact ⟨rfl, rfl⟩))
    (fun os started H enc _ F => by rw [OpenClaim.pre_eq_preRow]; exact lifted os started H enc F)

theorem plain (f : FuncId) (fn : Func) (hf : Tryz.pinned.checked.prog.funcNamed "exegete/exegetelaw12.StrataOrder" = some f) (hfn : Tryz.pinned.checked.prog.funcs[f]? = some fn) :
    true = Tryz.pinned.checked.prog.looks [] ∧ ∀ (j : Nat) t, fn.params[j]? = some t → Tryz.pinned.checked.prog.wantsStandIn t = false := by
  obtain rfl : f = 4 := Option.some.inj ((show Tryz.prog.funcNamed "exegete/exegetelaw12.StrataOrder" = some 4 by kernel_rfl).symm.trans hf) |>.symm
  obtain rfl : fn = Tryz.f4 := (Option.some.inj (Tryz.func4.symm.trans hfn)).symm
  refine ⟨by kernel_rfl, fun j t ht => ?_⟩
  rw [Tryz.params4] at ht
  have hm : t = 25 := by simpa [or_assoc] using Array.mem_of_getElem? ht
  rcases hm with rfl
  exact (show Tryz.prog.wantsStandIn 25 = false by kernel_rfl)

theorem card : Rows.StrataOrderCardSaid :=
  Claim7.holds_tied_plain_at .later [] _ _ _ _ said (fun _ h => by cases h) (by kernel_rfl) (fun _ h => by cases h) strataOrder_row_tie rfl ⟨rfl, rfl⟩ (by kernel_rfl) rfl plain (by kernel_rfl)
end Go.Proofs.YtkminfdblimiiaaGreatDoor.RowSO
namespace Go.Proofs.YtkminfdblimiiaaGreatDoor
/-- The card of the law. -/
theorem strataOrder_card : Rows.StrataOrderCardSaid := RowSO.card
#print axioms strataOrder_card
end Go.Proofs.YtkminfdblimiiaaGreatDoor
