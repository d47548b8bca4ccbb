/- The law RankOrder, as its row and its card state it: for every input it answers true and the arguments read as before. -/
import Derived.Test.YtbpidoiellcccaaGreatDoorK25
import Derived.Test.YtbpidoiellcccaaGreatDoorK26
import Derived.Deep.RegionHeld3
import Derived.Test.YtbpidoiellcccaaGreatDoorK17
set_option linter.unusedVariables false
set_option linter.unusedSimpArgs false
namespace Go.Proofs.YtbpidoiellcccaaGreatDoor
open Go Go.RowKit Go.MapKept

theorem blL_nil (n : Nat) : bl n [] = List.replicate n false := by
  apply List.ext_getElem (by simp [bl])
  intro i h1 h2
  simp [bl]
theorem blR_len (n : Nat) (L : List Int) : (bl n L).length = n := by simp [bl]
theorem blR_at (n : Nat) (L : List Int) (m : Nat) (h : m < n) : (bl n L)[m]? = some (decide ((m : Int) ∈ L)) := by simp [bl, h]
theorem blR_snoc (n : Nat) (L : List Int) (m : Nat) (h : m < n) : bl n (L ++ [(m : Int)]) = (bl n L).set m true := by
  apply List.ext_getElem (by simp [bl])
  intro i h1 h2
  have hi : i < n := by simpa [bl] using h1
  rw [List.getElem_set]
  simp only [bl, List.getElem_map, List.getElem_range]
  by_cases e : m = i
  · subst e; simp
  · rw [if_neg e]
    have : (i : Int) ≠ m := by omega
    simp [this]
/-- What the law asks of an order. -/
structure RkL (ps : List ProdS) (r : List Int) : Prop where
  nat : ∀ i, i < r.length → ∃ x : Nat, nth r i = x ∧ x < ps.length
  new : ∀ i, i < r.length → nth r i ∉ r.take i
  left : ∀ i, i < r.length → ∀ z ∈ leftsR ps (nth r i), z ∈ r.take i
theorem RkL.nil (ps : List ProdS) : RkL ps [] := ⟨fun i h => by simp at h, fun i h => by simp at h, fun i h => by simp at h⟩
theorem rkL_of {ps : List ProdS} {r : List Int} (h : RnkRel (lfP ps) (allS ps) r) : RkL ps r := by
  obtain ⟨T, h1, h2⟩ := h.way .nil
  rw [List.nil_append] at h1
  have hnat : ∀ i, i < r.length → ∃ x : Nat, nth r i = x ∧ x < ps.length := fun i hi => by
    obtain ⟨m, e, hm, _⟩ := (h1.mem (nth r i)).1 (by simp [nth, hi])
    exact ⟨m, e, by simpa [allS] using hm⟩
  have hsp : ∀ i, (hi : i < r.length) → r = r.take i ++ nth r i :: r.drop (i + 1) := fun i hi => by
    have e : nth r i = r[i] := by simp [nth, hi]
    rw [e, ← List.drop_eq_getElem_cons hi, List.take_append_drop]
  refine ⟨hnat, fun i hi hm => ?_, fun i hi z hz => ?_⟩
  · have hnd := h1.nodup
    rw [hsp i hi, List.nodup_append] at hnd
    exact hnd.2.2 _ hm _ (by simp) rfl
  · obtain ⟨x, e, hx⟩ := hnat i hi
    have hsp2 := hsp i hi
    rw [e] at hz hsp2
    have hzr := leftsR_in z hz
    obtain ⟨k, rfl⟩ : ∃ k : Nat, z = k := ⟨z.toNat, by omega⟩
    exact h1.ahead (fun n k h => by simpa [allS] using (lfP_lt h).2) _ _ x hsp2 k ((lfP_mem hx).2 hz)
/-- What the law asks of order and circle. -/
theorem rank_match {ps : List ProdS} {r : List Int} {b : Bool} {z : Int} (hg : gmay ps = true) (h : OrdIs ps r b) (hc : CirIs ps z) : (b = true ∧ z = -1 ∧ r.length = ps.length ∧ RkL ps r) ∨ (b = false ∧ r = [] ∧ ∃ n : Nat, z = n) := by
  rcases h with ⟨h0, _⟩ | ⟨_, r', h1, h2⟩
  · rw [hg] at h0; cases h0
  · rcases hc with ⟨h0, _⟩ | ⟨_, hc⟩
    · rw [hg] at h0; cases h0
    · have hf := h1.few (N := ps.length) (fun n k h => lfP_lt h)
      rcases h2 with ⟨h2, rfl, rfl⟩ | ⟨h2, rfl, rfl⟩
      · refine .inr ⟨rfl, rfl, ?_⟩
        rcases hc with ⟨rfl, hc⟩ | ⟨n, rfl, _⟩
        · obtain ⟨n, hn⟩ := hf.2.1 h2
          exact absurd hn (hc n)
        · exact ⟨n, rfl⟩
      · refine .inl ⟨rfl, ?_, by omega, rkL_of h1⟩
        rcases hc with ⟨rfl, hc⟩ | ⟨n, rfl, hn, _⟩
        · rfl
        · exact absurd (hf.2.2 ⟨n, hn⟩) h2
set_option maxRecDepth 20000 in
set_option maxHeartbeats 4000000 in
theorem rankOrder_walk (A K : Option Addr) (C m D : Nat) (ps : List ProdS) (w : World) (HP : Prods [] w (.slice A ps.length C) ps) (hmk : m ≤ 9223372036854775807) :
    Calls Tryz.prog 4 #[.agg #[.slice A ps.length C, .slice K m D]] w fun e w' => e = .returned (.bool true) ∧ Keep [] w w' := by
  have hmv : ∀ (x y : Value) (w : World), (Instr.extract (.tuple #[x, y]) 0).run Tryz.prog w = .ok x w := fun _ _ _ => rfl
  have hmv1 : ∀ (x y : Value) (w : World), (Instr.extract (.tuple #[x, y]) 1).run Tryz.prog w = .ok y w := fun _ _ _ => rfl
  have K0 := (Keep.refl [] w).alloc (.cells #[.slice A ps.length C, .slice K m D] 25)
  have HP0 : Prods [] _ (.slice A ps.length C) ps := HP.mv0 K0
  have B0 := Blk.new w #[.slice A ps.length C, .slice K m D] 25
  clear HP
  go_enter Tryz.func4, Tryz.ntmps4
  go_wp2_with fail
  refine (awakeR_any _).mono ?_
  rintro e w1 ⟨rfl, K1⟩
  have B1 := B0.keep K1 (by simp)
  have b1 := B1.cell
  have HP1 : Prods [] w1 (.slice A ps.length C) ps := HP0.mv0 K1
  go_wp2_with fail
  refine (few_any [] A K C m D ps _ HP1 hmk).mono ?_
  rintro e w2 ⟨⟨fw, rfl⟩, K2⟩
  have B2 := B1.keep K2 (by simp)
  have b2 := B2.cell
  have HP2 : Prods [] w2 (.slice A ps.length C) ps := HP1.mv0 K2
  have KF2 := (K0.trans K1).trans K2
  clear HP0 HP1 B0 B1 b1
  cases fw with
  | false =>
    clear HP2
    go_wp2
    go_ret
    exact ⟨rfl, KF2⟩
  | true =>
    have HC3 := Lib.hid (may_any [] (.slice A ps.length C) (.slice K m D) ps _ HP2)
    go_wp2_with fail
    refine HC3.out.mono ?_
    rintro e w3 ⟨rfl, K3⟩
    have B3 := B2.keep K3 (by simp)
    have b3 := B3.cell
    have HP3 : Prods [] w3 (.slice A ps.length C) ps := HP2.mv0 K3
    have KF3 := KF2.trans K3
    clear HP2 B2 b2 HC3
    cases hg : gmay ps with
    | false =>
      clear HP3
      go_wp2
      go_ret
      exact ⟨rfl, KF3⟩
    | true =>
      obtain ⟨hl0, hl1⟩ := gmay_len hg
      have HO := Lib.hid (orderR_rank A K C m D ps _ HP3)
      have HPP := Lib.hid HP3
      have HBB := Lib.hid B3
      have HKF := Lib.hid KF3
      have HG := Lib.hid hg
      clear HP3 B3 KF3 hg
      go_wp2_with fail
      refine HO.out.mono ?_
      rintro e w4 ⟨⟨v, r, b, rfl, NV, hO⟩, K4⟩
      obtain ⟨Ar, Cr, rfl⟩ := NV.slice
      have b4 := (HBB.out.keep K4 (by simp)).cell
      have HCI := Lib.hid (circle_any A K C m D ps _ (HPP.out.mv0 K4))
      have hrl := hO.len
      have H4 := Lib.hid (⟨NV, hO, K4⟩ : _ ∧ _ ∧ _)
      clear HO b3 K4 NV hO
      go_wp2_with fail
      refine HCI.out.mono ?_
      rintro e w5 ⟨⟨z, rfl, hz⟩, K5⟩
      have K45 := H4.out.2.2.trans K5
      have b5 := (HBB.out.keep K45 (by simp)).cell
      have hmt := rank_match HG.out H4.out.2.1 hz
      have hmb := fun w => make_bools w ps.length (by omega)
      have H5 := Lib.hid (⟨H4.out.1.keep K5 (by simp), K45⟩ : _ ∧ _)
      clear HCI b4 K5 hz K45
      have HBS := Lib.hid (⟨Blk.new w5 (boolC (List.replicate ps.length false)) 4, (Keep.refl [] w5).alloc (.cells (boolC (List.replicate ps.length false)) 4)⟩ : _ ∧ _)
      rcases hmt with ⟨rfl, rfl, hlen, hRL⟩ | ⟨rfl, rfl, z', rfl⟩
      · have HR := Lib.hid hlen
        have HRL := Lib.hid hRL
        rw [hlen] at H5 ⊢
        generalize hN : ps.length = N at *
        have HN := Lib.hid hN
        clear hN hlen hRL H4
        go_wp2
        go_loopw [8] (fun iv wr => ∃ (i : Nat), iv = .int .i64 i ∧ i ≤ N ∧ Hid (Blk wr w5.heap.size (boolC (bl N (r.take i))) 4 ∧ Keep [] w5 wr)) (fun iv _ => N - (intOf iv).toNat)
        case atStart => exact ⟨0, rfl, by omega, Lib.hid ⟨by rw [List.take_zero, blL_nil]; exact HBS.out.1, HBS.out.2⟩⟩
        case round =>
          obtain ⟨i, rfl, hi, HI⟩ := hrel
          by_cases hlt : i < N
          · obtain ⟨wo, rfl⟩ : ∃ wo : World, wo = wr := ⟨_, rfl⟩
            have hir : i < r.length := by rw [HR.out]; exact hlt
            obtain ⟨x, hx, hxN⟩ := HRL.out.nat i hir
            rw [HN.out] at hxN
            have hnew := HRL.out.new i hir
            have hleft := HRL.out.left i hir
            rw [hx] at hnew hleft
            obtain ⟨BT, KT⟩ := HI.out
            obtain ⟨g, C', e, _, _, _, _, _, hc⟩ := (H5.out.1.keep KT (by simp)).at (by omega)
            rw [HR.out] at e
            simp only [Value.slice.injEq] at e
            obtain ⟨rfl, -, rfl⟩ := e
            have c0 := hc i hir
            rw [hx] at c0
            have KW := H5.out.2.trans KT
            have d0 := (HBB.out.keep KW (by simp)).cell 0
            have d1 := (HBB.out.keep KW (by simp)).cell 1
            have t0 := BT.cell x
            rw [boolC_at _ _ (by rw [blR_len]; exact hxN)] at t0
            have et : (bl N (r.take i))[x]'(by rw [blR_len]; exact hxN) = false := by
              have h1 := blR_at N (r.take i) x hxN
              rw [decide_eq_false hnew, List.getElem?_eq_getElem (by rw [blR_len]; exact hxN)] at h1
              exact Option.some.inj h1
            rw [et] at t0
            have tf := BT.frozen x
            have hxN2 : (x : Int) < (N : Int) := by omega
            have hx0 : ¬ (x : Int) < 0 := by omega
            have hx1 : decide ((x : Int) < 0) = false := decide_eq_false (by omega)
            have hx2 : decide ((N : Int) ≤ (x : Int)) = false := decide_eq_false (by omega)
            have hiN2 : (i : Int) < (N : Int) := by omega
            have HKP := Lib.hid (fun (W' : World) (K' : Keep [] wo W') => (⟨(HBB.out.keep (KW.trans K') (by simp)).cell 0, (HBB.out.keep (KW.trans K') (by simp)).cell 1, K'.cell c0 (by simp), K'⟩ : W'.cell? ⟨w.heap.size, 0, none⟩ = some (.slice A N C) ∧ W'.cell? ⟨w.heap.size, 1, none⟩ = some (.slice K m D) ∧ W'.cell? ⟨g, i, none⟩ = some (.int .i64 (x : Int)) ∧ Keep [] wo W'))
            have HL := Lib.hid (fun (W' : World) (K' : Keep [] wo W') => (by have h := lefts_any A K C m D x [] ps W' (by rw [HN.out]; exact HPP.out.mv0 (KW.trans K')) (by simp) (by rw [HN.out]; omega); rw [HN.out] at h; exact h.mono fun e w'' h2 => ⟨h2.1, K'.trans h2.2, h2.2⟩ : Calls Tryz.prog 19 #[.agg #[.slice A N C, .slice K m D], .int .i64 x] W' fun e w'' => (∃ v, e = .returned v ∧ IntV w'' W'.heap.size v (leftsR ps x)) ∧ Keep [] wo w'' ∧ Keep [] W' w''))
            have HX := Lib.hid (⟨BT, hnew, hleft, hx, KT, KW⟩ : _ ∧ _ ∧ _ ∧ _ ∧ _ ∧ _)
            have Kd := (Keep.refl [] wo).drew
            clear BT hnew hleft hc et KT KW HI hx
            go_wp2
            go_quiet (fail)
            go_upto_region 14 with fail
            clear d0 d1 c0 t0
            generalize hwq : wo.drewN _ = wq
            have Kq : Keep [] wo wq := by rw [← hwq]; exact (Keep.refl [] wo).drewN _
            have Kqd := Kq.drew
            clear hwq
            first
              | (go_region_held3 (fun w' => w'.cell? ⟨w.heap.size, 0, none⟩ = some (.slice A N C) ∧ w'.cell? ⟨w.heap.size, 1, none⟩ = some (.slice K m D) ∧ w'.cell? ⟨g, i, none⟩ = some (.int .i64 (x : Int)) ∧ Keep [] wo w') (exact HKP.out _ (by assumption)) ((go_at_call 19; refine (HL.out _ (by assumption)).mono ?_; rintro e w6 ⟨⟨v, rfl, HV⟩, K6, K6p⟩)))
              | fail
            obtain ⟨AL, CL, rfl, hll, hcL⟩ := HV.cells
            have hLin := leftsR_in (ps := ps) (n := (x : Int))
            rw [HN.out] at hLin
            obtain ⟨BT, hnew, hleft, hx, KT, KW⟩ := HX.out
            generalize leftsR ps x = L at *
            have hcell : ∀ j, j < L.length → ∃ (b o k : Nat), AL = some ⟨b, o, none⟩ ∧ w6.cell? ⟨b, o + j, none⟩ = some (.int .i64 (k : Int)) ∧ k < N ∧ w6.cell? ⟨w5.heap.size, k, none⟩ = some (.bool true) := fun j hj => by
              obtain ⟨b, o, e, h1⟩ := hcL (by omega)
              have h2 := h1 j hj
              have hm : L[j] ∈ L := List.getElem_mem hj
              have h3 := hLin _ hm
              obtain ⟨k, hk⟩ : ∃ k : Nat, L[j] = k := ⟨L[j].toNat, by omega⟩
              rw [hk] at h2 h3
              have h4 := hleft _ hm
              rw [hk] at h4
              refine ⟨b, o, k, e, h2, by omega, ?_⟩
              rw [(BT.keep K6 (by simp)).cell k, boolC_at _ _ (by rw [blR_len]; omega)]
              have h5 := blR_at N (r.take i) k (by omega)
              rw [decide_eq_true h4, List.getElem?_eq_getElem (by rw [blR_len]; omega)] at h5
              rw [Option.some.inj h5]
            have HCL := Lib.hid hcell
            have H6 := Lib.hid (⟨K6, BT, hnew, hx, KT, KW⟩ : _ ∧ _ ∧ _ ∧ _ ∧ _ ∧ _)
            clear hcell hcL hleft hLin BT hnew hx KT KW K6 K6p HV HX HL Kq Kqd
            generalize hlz : L.length = ll at *
            clear hlz
            go_wp2
            go_loopw [10] (fun jv wr => ∃ (j : Nat), jv = .int .i64 j ∧ j ≤ ll ∧ Hid (Keep [] w6 wr)) (fun jv _ => ll - (intOf jv).toNat)
            case atStart => exact ⟨0, rfl, by omega, Lib.hid (Keep.refl _ _)⟩
            case round =>
              obtain ⟨j, rfl, hj, HJ⟩ := hrel
              by_cases hjl : j < ll
              · obtain ⟨b, o, k, rfl, e1, hkN, e2⟩ := HCL.out j hjl
                have f1 := HJ.out.cell e1 (by simp)
                have f2 := HJ.out.cell e2 (by simp)
                have hjl2 : (j : Int) < (ll : Int) := by omega
                have hk1 : ¬ (k : Int) < 0 := by omega
                have hk2 : decide ((k : Int) < 0) = false := decide_eq_false (by omega)
                have hk3 : decide ((N : Int) ≤ (k : Int)) = false := decide_eq_false (by omega)
                have hk4 : (k : Int) < (N : Int) := by omega
                clear e1 e2
                go_wp2
                go_roundw
                case rel => exact ⟨j + 1, by go_num, by omega, HJ⟩
                case measure => simp [intOf]; omega
              · obtain rfl : j = ll := by omega
                obtain ⟨K6, BT, hnew, hx, KT, KW⟩ := H6.out
                have KA := K6.trans HJ.out
                have c0 := (HKP.out _ KA).2.2.1
                have BA := BT.keep KA (by simp)
                have s0 := BA.cell x
                rw [boolC_at _ _ (by rw [blR_len]; exact hxN)] at s0
                have et : (bl N (r.take i))[x]'(by rw [blR_len]; exact hxN) = false := by
                  have h1 := blR_at N (r.take i) x hxN
                  rw [decide_eq_false hnew, List.getElem?_eq_getElem (by rw [blR_len]; exact hxN)] at h1
                  exact Option.some.inj h1
                rw [et] at s0
                have s1 := BA.frozen x
                have BS := BA.set x (.bool true)
                rw [boolC_set, ← blR_snoc N _ x hxN] at BS
                have etk : r.take (i + 1) = r.take i ++ [(x : Int)] := by
                  have hir : i < r.length := by rw [HR.out]; exact hlt
                  rw [List.take_succ_eq_append_getElem hir, ← hx]
                  simp [nth, hir]
                rw [← etk] at BS
                have hsz5 := KT.size
                have HBT := BT.lt
                have HNX : Hid (Blk (wr.setCell ⟨w5.heap.size, x, none⟩ (.bool true)) w5.heap.size (boolC (bl N (r.take (i + 1)))) 4 ∧ Keep [] w5 (wr.setCell ⟨w5.heap.size, x, none⟩ (.bool true))) := Lib.hid ⟨BS, (KT.trans KA).setCell (.inr (Nat.le_refl _)) _⟩
                clear K6 BT hnew hx KT KW KA BA BS et etk HJ HBT
                go_wp2
                go_roundw
                case rel => exact ⟨i + 1, by go_num, by omega, HNX⟩
                case measure => simp [intOf]; omega
          · obtain rfl : i = N := by omega
            have HKE := Lib.hid (HKF.out.trans (H5.out.2.trans HI.out.2))
            clear hlt
            go_wp2
            go_ret
            exact ⟨rfl, HKE.out⟩
      · have hz1 : (((z' : Nat) : Int) == -1) = false := by simp
        generalize hN : ps.length = N at *
        have hz2 : ((0 : Int) == (N : Int)) = false := by simp; omega
        have HKE := Lib.hid (HKF.out.trans (H5.out.2.trans HBS.out.2))
        rw [List.length_nil]
        clear H4
        go_wp2
        go_loopw [8] (fun iv wr => iv = .int .i64 0 ∧ Hid (Keep [] w wr)) (fun _ _ => 0)
        case atStart => exact ⟨rfl, HKE⟩
        case round =>
          obtain ⟨rfl, HI⟩ := hrel
          go_wp2
          go_ret
          exact ⟨rfl, HI.out⟩
end Go.Proofs.YtbpidoiellcccaaGreatDoor
namespace Go.Proofs.YtbpidoiellcccaaGreatDoor.RowRO
open Go.ChangeShapes Go.WideShapes Go.ChangeAt Go.RowKit Go.Joins Go.Deep Go.Proofs.YtbpidoiellcccaaGreatDoor.RowG

def zeroA : Array Value := #[.agg #[.slice none 0 0, .slice none 0 0]]
set_option maxRecDepth 100000 in
theorem laid_met (os : Os) : laidMet Tryz.prog laid2 ((laidWorld os).forCall (fun _ _ => 0) ⟨#[], zeroA, []⟩).memory :=
  laidMet_of_run' 8 (by kernel_rfl) (by kernel_rfl)
theorem reads (os : Os) {H : Type} (enc : TypeId × Value → H) : ∃ places, DataW.whole enc Tryz.prog ((laidWorld os).forCall (fun _ _ => 0) ⟨#[], zeroA, []⟩).memory Tryz.f4.params.toList Rows.rankOrderSpec.vars false zeroA.toList 8 = some ([.agg [.nil, .nil]], [], places) :=
  ⟨[], by kernel_rfl⟩
set_option maxRecDepth 100000 in
set_option maxHeartbeats 1000000 in
theorem contract (H : Type) (enc : TypeId × Value → H) (W : World) (args : Array Value) (ds gs : List (DataW H)) (before : List MemPlace) (base : Nat)
    (hval : ∀ (j : Nat) t v, Tryz.f4.params[j]? = some t → args[j]? = some v → Value.okWide Tryz.prog W .any base t v)
    (hW : DataW.Whole enc Tryz.prog Tryz.f4.params.toList Rows.rankOrderSpec.vars false W args.toList ds gs before) :
    Calls Tryz.prog 4 args W fun e W' => ∃ v, e = .returned v ∧ Rows.rankOrderSpec.post enc Tryz.prog Tryz.f4 false true false false W args v W' := by
  have hW' := hW
  obtain ⟨p, q, hA0, hV, rfl, hfz, hnd⟩ := hW
  have hA : DataW.TrodAll enc Tryz.prog W 0 (fun _ => true) true Tryz.f4.params.toList args.toList ds p := hA0
  rw [Tryz.params4] at hA hval
  obtain ⟨v0, vs0, d0, ds0, p0, q0, hargs, rfl, rfl, h0, r0⟩ := trodAll_cons hA
  obtain ⟨rfl, rfl, rfl⟩ := trodAll_nil r0
  obtain rfl : args = #[v0] := by cases args; simp_all
  obtain ⟨rfl, rfl⟩ := trodVars_none hV
  have k0 := h0
  have lt0 : ∀ x ∈ p0, x.block < W.heap.size := by obtain ⟨m, hm⟩ := k0; exact DataW.trod_lt m _ _ _ hm
  obtain ⟨A0, ps0, C0, K0, m0, D0, rfl, hp0, hm0⟩ := open_gram rfl (hval 0 _ v0 rfl rfl) h0
  clear hA0
  refine (rankOrder_walk A0 K0 C0 m0 D0 ps0 W hp0 hm0).mono fun e W' ⟨he, kp⟩ => ?_
  have bel := kp.below
  subst he
  exact ⟨_, rfl, _, _, _, [], _, [], hW', trodAll_mk1 (shut_bool Tryz.underlying4 _), (trodAll_cons_mk (Below.trod laidOut (by kernel_rfl) (of_decide_eq_true (by kernel_rfl)) k0 bel lt0) trodAll_mk0), rfl, bel.frame _, fun h => by cases h⟩

set_option maxRecDepth 100000 in
theorem lifted (os : Os) (started : os.Started) (H : Type) (enc : TypeId × Value → H) (F : Stop.Interp) :
    ReturnsInHanded {} Tryz.checked os 4 .any ((OpenSpec.ofChange Rows.rankOrderSpec).preRow enc Tryz.prog Tryz.f4 Rows.rankOrderRow.domain false Rows.rankOrderRow.laid) (((OpenSpec.ofChange Rows.rankOrderSpec).at F).post enc Tryz.prog Tryz.f4 false true false false) := by
  obtain ⟨places, hx⟩ := reads os enc
  refine returnsInHanded_of_row (C := Tryz.checked) (s := OpenSpec.ofChange Rows.rankOrderSpec) own started (by kernel_rfl) Tryz.func4
    (witness_row_at (enc := enc) (C := Tryz.checked) false (laidWorld os) zeroA rfl (by kernel_rfl) (by kernel_rfl) (by kernel_rfl)
      (OpenSpec.preRow_of_cond 8 hx (by kernel_rfl) (fun k hk => by cases hk) (by kernel_rfl) (laid_met os))) ?_
  intro W base args ds gs before hval hW _ _ _ _ _ _
  exact contract H enc W args ds gs before base hval hW

theorem said : Rows.RankOrderSaid :=
  OpenClaim.holds_of_cond 4 Tryz.f4 rfl rfl rfl rfl rfl rfl rfl ⟨rfl, rfl, rfl, rfl, rfl⟩ rfl rfl rfl rfl rfl (by kernel_rfl) Tryz.func4 (by kernel_rfl)
    (of_decide_eq_true (by kernel_rfl)) (by unfold Func.isWrapper; first | (rw [if_pos (by decide +kernel)]; kernel_rfl) | (rw [if_neg (by decide +kernel)]; exact ⟨rfl, rfl⟩))
    (fun os started H enc _ F => by rw [OpenClaim.pre_eq_preRow]; exact lifted os started H enc F)

theorem plain (f : FuncId) (fn : Func) (hf : Tryz.pinned.checked.prog.funcNamed "exegete/exegetelaw10.RankOrder" = some f) (hfn : Tryz.pinned.checked.prog.funcs[f]? = some fn) :
    true = Tryz.pinned.checked.prog.looks [] ∧ ∀ (j : Nat) t, fn.params[j]? = some t → Tryz.pinned.checked.prog.wantsStandIn t = false := by
  obtain rfl : f = 4 := Option.some.inj ((show Tryz.prog.funcNamed "exegete/exegetelaw10.RankOrder" = some 4 by kernel_rfl).symm.trans hf) |>.symm
  obtain rfl : fn = Tryz.f4 := (Option.some.inj (Tryz.func4.symm.trans hfn)).symm
  refine ⟨by kernel_rfl, fun j t ht => ?_⟩
  rw [Tryz.params4] at ht
  have hm : t = 25 := by simpa [or_assoc] using Array.mem_of_getElem? ht
  rcases hm with rfl
  exact (show Tryz.prog.wantsStandIn 25 = false by kernel_rfl)

theorem card : Rows.RankOrderCardSaid :=
  Claim7.holds_tied_plain_at .later [] _ _ _ _ said (fun _ h => by cases h) (by kernel_rfl) (fun _ h => by cases h) rankOrder_row_tie rfl ⟨rfl, rfl⟩ (by kernel_rfl) rfl plain (by kernel_rfl)
end Go.Proofs.YtbpidoiellcccaaGreatDoor.RowRO
namespace Go.Proofs.YtbpidoiellcccaaGreatDoor
/-- The card of the law. -/
theorem rankOrder_card : Rows.RankOrderCardSaid := RowRO.card
#print axioms rankOrder_card
end Go.Proofs.YtbpidoiellcccaaGreatDoor
