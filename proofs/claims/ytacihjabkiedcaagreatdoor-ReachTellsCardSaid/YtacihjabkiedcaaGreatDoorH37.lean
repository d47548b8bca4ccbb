/- The reference's words of layer 11: the walks of some, Makes, From. -/
import Derived.Test.YtacihjabkiedcaaGreatDoorH36
import Derived.Test.YtacihjabkiedcaaGreatDoorH27
import Derived.Test.YtacihjabkiedcaaGreatDoorH18
set_option linter.unusedVariables false
set_option linter.unusedSimpArgs false
namespace Go.Proofs.YtacihjabkiedcaaGreatDoor
open Go Go.RowKit Go.MapKept

set_option maxRecDepth 20000 in
set_option maxHeartbeats 4000000 in
theorem some11_any (S : List Nat) (V : Option Addr) (F : Nat) (bs : List Bool) (s : SymS) (row : Array Value) (w : World) (HB : BsAt w V bs) (hs : s.k = 2 → 0 ≤ s.n ∧ s.n < bs.length) (H : SymRow S w s row) :
    Calls Tryz.prog 42 #[.slice V bs.length F, .agg row] w fun e w' => e = .returned (.bool (!vainB someF bs s)) ∧ Keep [] w w' := by
  obtain ⟨A, C, rfl, hR⟩ := H
  obtain ⟨sk, sr, sn⟩ := s
  simp only at hs hR ⊢
  have hsl : sr.length ≤ 9223372036854775807 := (Rngs.len hR).2.1
  have K0 := (Keep.refl [] w).alloc (.cells #[.int .i64 sk, .slice A sr.length C, .int .i64 sn] 39)
  by_cases h2 : sk = 2
  · subst h2
    obtain ⟨hs0, hs1⟩ := hs rfl
    obtain ⟨n, rfl⟩ : ∃ k : Nat, sn = k := ⟨sn.toNat, by omega⟩
    have hn : n < bs.length := by omega
    obtain ⟨rb, rfl, hc⟩ := (HB.keep K0) (by omega)
    have r0 := hc n hn
    have hres : (!vainB someF bs ⟨2, sr, (n : Int)⟩) = bs[n] := by simp [vainB, hn]
    rw [hres]
    have hn' : (n : Int) < (bs.length : Int) := by omega
    generalize bs[n] = bn at r0 ⊢
    clear hres hs hs0 hs1 hR hc HB
    go_enter Tryz.func42, Tryz.ntmps42
    go_wp2
    go_ret
    exact ⟨rfl, K0⟩
  · by_cases h0 : sk = 0
    · subst h0
      have hres : (!vainB someF bs ⟨0, sr, sn⟩) = decide (0 < (sr.length : Int)) := by
        cases sr with
        | nil => simp [vainB]
        | cons a l => simp [vainB] <;> omega
      rw [hres]
      clear hres hs hR h2 HB
      go_enter Tryz.func42, Tryz.ntmps42
      go_wp2
      go_ret
      exact ⟨by simp, K0⟩
    · have hres : (!vainB someF bs ⟨sk, sr, sn⟩) = someF sr := by simp [vainB, h2, h0]
      rw [hres]
      have h2b : (sk == 2) = false := by simpa using h2
      have h0b : (sk == 0) = false := by simpa using h0
      have K1 := (Keep.refl [] (w.alloc (.cells #[.int .i64 sk, .slice A sr.length C, .int .i64 sn] 39))).alloc (.cells #[.int .i64 55296, .int .i64 57343] 42)
      have hR0 : SlOf RngRow [] _ 2 (.slice A sr.length C) sr := SlOf.move (S' := []) (Rngs.of hR) rngRow_stab (by omega) (K0.trans K1) (by simp) (by simp)
      have HL := Lib.hid (less2_any A (some ⟨w.heap.size + 1, 0, none⟩) sr.length C 1 1 sr [⟨55296, 57343⟩] _ hR0 (one_rng (r := ⟨55296, 57343⟩) (Blk.new' _ #[.int .i64 55296, .int .i64 57343] 42 (b := w.heap.size + 1) (by simp)) (by simp)))
      have HK := Lib.hid (K0.trans K1)
      have hpos := size_pos (twoR_law (fun x y => x && !y) sr [⟨55296, 57343⟩]).1
      have hsf : someF sr = decide (0 < sizeR (twoR (fun x y => x && !y) sr [⟨55296, 57343⟩])) := by
        unfold someF
        rw [Bool.eq_iff_iff, decide_eq_true_eq, decide_eq_true_eq]
        exact hpos.symm
      rw [hsf]
      clear hres hs hR hR0 h2 h0 K0 K1 HB hpos hsf
      generalize twoR (fun x y => x && !y) sr [⟨55296, 57343⟩] = R at HL ⊢
      go_enter Tryz.func42, Tryz.ntmps42
      go_wp2_with fail
      refine HL.out.mono ?_
      rintro e w1 ⟨⟨v, rfl, hv⟩, K1⟩
      obtain ⟨A2, C2, rfl⟩ := hv.slice
      have HS := Lib.hid (size2_any A2 R.length C2 R w1 (hv.read rngRow_stab (by simp) (by simp)))
      have HK1 := Lib.hid (HK.out.trans K1)
      clear HL hv K1 HK
      generalize R.length = rl at HS ⊢
      go_wp2_with fail
      refine HS.out.mono ?_
      rintro e w2 ⟨rfl, K2⟩
      go_wp2
      go_ret
      exact ⟨rfl, HK1.out.trans K2⟩
theorem all_snoc {α : Type} (f : α → Bool) (l : List α) (m : Nat) (hm : m < l.length) : (l.take (m + 1)).all f = ((l.take m).all f && f l[m]) := by
  have e2 : l.take (m + 1) = l.take m ++ [l[m]] := by rw [List.take_add_one, List.getElem?_eq_getElem hm]; rfl
  rw [e2, List.all_append]
  simp
theorem makesB_all (bs : List Bool) (l : List SymS) : makesB someF bs l = l.all (fun s => !vainB someF bs s) := by
  unfold makesB
  induction l with
  | nil => rfl
  | cons s l ih => simp only [List.any_cons, List.all_cons, Bool.not_or, ih]
set_option maxRecDepth 20000 in
set_option maxHeartbeats 8000000 in
theorem makes11_any (S : List Nat) (A K : Option Addr) (C m D : Nat) (ps : List ProdS) (w : World) (HP : Prods S w (.slice A ps.length C) ps) (hS : ∀ b ∈ S, b < w.heap.size) :
    Calls Tryz.prog 19 #[.agg #[.slice A ps.length C, .slice K m D]] w fun e w' => (∃ v, e = .returned v ∧ BoolV w' w.heap.size v (makesR someF ps)) ∧ Keep [] w w' := by
  have K0 := (Keep.refl [] w).alloc (.cells #[.slice A ps.length C, .slice K m D] 25)
  have HP0 := HP.mv0 K0
  have B0 := Blk.new w #[.slice A ps.length C, .slice K m D] 25
  have HC := Lib.hid (may8_any S A K C m D ps _ HP0)
  cases hg : gmay ps with
  | false =>
    have hr : makesR someF ps = [] := by simp [makesR, hg]
    rw [hr]
    go_enter Tryz.func19, Tryz.ntmps19
    go_wp2_with fail
    refine HC.out.mono ?_
    rintro e w1 ⟨rfl, K1⟩
    rw [hg]
    go_wp2
    go_ret
    exact ⟨⟨_, rfl, .inl ⟨rfl, rfl⟩⟩, K0.trans K1⟩
  | true =>
    obtain ⟨hl0, hl1⟩ := gmay_len hg
    have hr : makesR someF ps = iterM someF ps ps.length (List.replicate ps.length false) := by unfold makesR; rw [if_pos hg, ← iterR_eq]; rfl
    obtain ⟨R, hR⟩ : ∃ R, R = makesR someF ps := ⟨_, rfl⟩
    rw [← hR]
    have HRES := Lib.hid (hR.trans hr)
    have HAL := Lib.hid (gmay_alt hg)
    have HNT := Lib.hid (gmay_sym hg)
    have HPP := Lib.hid HP0
    have HSS := Lib.hid hS
    clear hr hR HP HP0 hS
    go_enter Tryz.func19, Tryz.ntmps19
    go_wp2_with fail
    refine HC.out.mono ?_
    rintro e w1 ⟨rfl, K1⟩
    rw [hg]
    have B1 := B0.keep K1 (by simp)
    have b0 := B1.cell 0
    have hmk := make_bools w1 ps.length (by omega)
    have KA := (Keep.refl [] w1).alloc (.cells (boolC (List.replicate ps.length false)) 4)
    have BR0 := Blk.new w1 (boolC (List.replicate ps.length false)) 4
    obtain ⟨W1, hW1⟩ : ∃ W, W = w1.alloc (.cells (boolC (List.replicate ps.length false)) 4) := ⟨_, rfl⟩
    have hszw : w.heap.size < w1.heap.size := B1.lt
    have B1' := B1.keep KA (by simp)
    have HP1 := SlOf.move (S' := w1.heap.size :: S) (HPP.out.mv0 K1) prodRow_stab (by omega) KA (by simp) (fun x hx => by
      rcases List.mem_cons.1 hx with rfl | hx
      · exact .inr (Nat.le_refl _)
      · exact .inl hx)
    have K01 := (K0.trans K1).trans KA
    rw [← hW1] at KA BR0 B1' HP1 K01
    have HW := Lib.hid hW1
    have HB1 := Lib.hid B1'
    have HPX := Lib.hid HP1
    have HK01 := Lib.hid K01
    have HT0 : Hid (Keep [w1.heap.size] W1 W1 ∧ Blk W1 w1.heap.size (boolC (iterM someF ps 0 (List.replicate ps.length false))) 4) := Lib.hid ⟨Keep.refl _ _, BR0⟩
    have HQ0 : Hid ((List.replicate ps.length false).length = ps.length) := Lib.hid (by simp)
    clear KA BR0 B1' HP1 K01 hW1 B1 B0 K0 K1 HC HPP HSS
    go_wp2
    rw [← HW.out]
    clear b0 hmk
    generalize List.replicate ps.length false = q0 at HT0 HRES HQ0
    go_loopw [5] (fun i wr => ∃ k : Nat, k ≤ ps.length ∧ i = .int .i64 k ∧ Keep [w1.heap.size] W1 wr ∧ Blk wr w1.heap.size (boolC (iterM someF ps k q0)) 4) (fun i _ => ps.length - (intOf i).toNat)
    case atStart => exact ⟨0, by omega, rfl, HT0.out⟩
    case round =>
      clear HT0
      obtain ⟨k, hk, rfl, Kr, BRr⟩ := hrel
      have g0 := (HB1.out.keep Kr (by simp; omega)).cell 0
      by_cases hlt : k < ps.length
      · have hlt' : (k : Int) < (ps.length : Int) := by omega
        have HLT := Lib.hid hlt
        have HSU : Hid (iterM someF ps (k + 1) q0 = mrow someF ps (iterM someF ps k q0) ps.length) := Lib.hid (iterM_row _ _ _ _)
        have hql : (iterM someF ps k q0).length = ps.length := by rw [iterM_len, HQ0.out]
        generalize iterM someF ps k q0 = q at BRr HSU hql
        have HT1 : Hid (Keep [w1.heap.size] W1 wr ∧ Blk wr w1.heap.size (boolC (mrow someF ps q 0)) 4) := Lib.hid ⟨Kr, BRr⟩
        have HQL := Lib.hid hql
        clear Kr BRr hql
        go_wp2
        clear g0
        go_loopw [6] (fun i wr => ∃ n : Nat, n ≤ ps.length ∧ i = .int .i64 n ∧ Keep [w1.heap.size] W1 wr ∧ Blk wr w1.heap.size (boolC (mrow someF ps q n)) 4) (fun i _ => ps.length - (intOf i).toNat)
        case atStart => exact ⟨0, by omega, rfl, HT1.out⟩
        case round =>
          clear HT1
          obtain ⟨n, hn, rfl, Kr, BRr⟩ := hrel
          have g0 := (HB1.out.keep Kr (by simp; omega)).cell 0
          by_cases hnl : n < ps.length
          · have hnl' : (n : Int) < (ps.length : Int) := by omega
            have HNL := Lib.hid hnl
            have HSN : Hid (mrow someF ps q (n + 1) = aSteps someF ps[n] n (mrow someF ps q n) ps[n].a.length) := Lib.hid (mrow_succ someF q hnl HQL.out)
            have hql : (mrow someF ps q n).length = ps.length := by rw [mrow_len, HQL.out]
            generalize mrow someF ps q n = q2 at BRr HSN hql
            have HQL2 := Lib.hid hql
            have HT2 : Hid (Keep [w1.heap.size] W1 wr ∧ Blk wr w1.heap.size (boolC (aSteps someF ps[n] n q2 0)) 4) := Lib.hid ⟨Kr, BRr⟩
            have hal8 := (HAL.out _ (List.getElem_mem hnl)).2.1
            clear Kr BRr hql
            go_wp2
            clear g0
            obtain ⟨wo, rfl⟩ : ∃ wo : World, wo = wr := ⟨_, rfl⟩
            go_loopw [7] (fun i wr => ∃ j : Nat, j ≤ ps[n].a.length ∧ i = .int .i64 j ∧ Keep [w1.heap.size] W1 wr ∧ Blk wr w1.heap.size (boolC (aSteps someF ps[n] n q2 j)) 4) (fun i _ => ps[n].a.length - (intOf i).toNat)
            case atStart => exact ⟨0, by omega, rfl, HT2.out⟩
            case round =>
              clear HT2
              obtain ⟨j, hj, rfl, Kr, BRr⟩ := hrel
              have g0 := (HB1.out.keep Kr (by simp; omega)).cell 0
              have HPr : Prods (w1.heap.size :: S) wr (.slice A ps.length C) ps := SlOf.move HPX.out prodRow_stab (by omega) Kr (fun x hx => .inl (by simp at hx ⊢; simp [hx])) (fun x hx => .inl hx)
              obtain ⟨bp, op, A2, C2, N2, F2, rfl, _, e0, _, _, hA, _⟩ := HPr.pick n hnl
              by_cases hjl : j < ps[n].a.length
              · have hjl' : (j : Int) < (ps[n].a.length : Int) := by omega
                have HJL := Lib.hid hjl
                obtain ⟨b2, o2, A3, C3, rfl, _, f0, hS⟩ := Alts.pick hA j hjl
                have HSJ : Hid (aSteps someF ps[n] n q2 (j + 1) = (aSteps someF ps[n] n q2 j).set n ((aSteps someF ps[n] n q2 j).getD n false || makesB someF (aSteps someF ps[n] n q2 j) ps[n].a[j])) := Lib.hid ((aSteps_succ _ _ _ _ _).trans (aStep_at hjl _ _))
                have hql3 : (aSteps someF ps[n] n q2 j).length = ps.length := by rw [aSteps_len, HQL2.out]
                generalize aSteps someF ps[n] n q2 j = q3 at BRr HSJ hql3
                have HNS := Lib.hid (HNT.out _ (List.getElem_mem hnl) _ (List.getElem_mem hjl))
                have hal40 := (HAL.out _ (List.getElem_mem hnl)).2.2 _ (List.getElem_mem hjl)
                generalize ps[n].a[j] = al at f0 hS HSJ HNS hal40
                have hn3 : n < q3.length := by omega
                have HSJ2 : Hid (aSteps someF ps[n] n q2 (j + 1) = q3.set n (q3[n] || al.all (fun s => !vainB someF q3 s))) := Lib.hid (by rw [HSJ.out, makesB_all]; simp [hn3])
                have HSY := Lib.hid hS
                have HBR := Lib.hid BRr
                have HKr := Lib.hid Kr
                have HE0 := Lib.hid e0
                have HF0 := Lib.hid f0
                have HG0 := Lib.hid g0
                have HQ3 := Lib.hid hql3
                have HT3 : Hid (true = (al.take 0).all (fun s => !vainB someF q3 s)) := Lib.hid rfl
                generalize ps[n].a.length = al8 at e0 hjl' HE0 ⊢
                clear HSJ hS hA HPr Kr BRr hql3
                go_wp2
                clear g0 e0 f0
                obtain ⟨wj, rfl⟩ : ∃ wj : World, wj = wr := ⟨_, rfl⟩
                go_loopw [8, 9] (fun av iv wr => ∃ (m : Nat) (b : Bool), m ≤ al.length ∧ iv = .int .i64 m ∧ av = .bool b ∧ Hid (b = (al.take m).all (fun s => !vainB someF q3 s)) ∧ Keep [] wj wr) (fun _ iv _ => al.length - (intOf iv).toNat)
                case atStart => exact ⟨0, true, by omega, rfl, rfl, HT3, Keep.refl _ _⟩
                case round =>
                  clear HT3
                  obtain ⟨m, b, hm, rfl, rfl, hb, Km⟩ := hrel
                  have g0 := Keep.cell (T := []) Km HG0.out (by simp)
                  have e0 := Keep.cell (T := []) Km HE0.out (by simp)
                  have f0 := Keep.cell (T := []) Km HF0.out (by simp)
                  by_cases hml : m < al.length
                  · have hml' : (m : Int) < (al.length : Int) := by omega
                    have HML := Lib.hid hml
                    obtain ⟨b3, o3, A4, C4, rfl, _, s0, s1, s2, hRR⟩ := Syms.pick (HSY.out.mv0 Km) m hml
                    have hn8 := HNS.out _ (List.getElem_mem hml)
                    have hcall := some11_any (w1.heap.size :: S) (some ⟨w1.heap.size, 0, none⟩) ps.length q3 al[m] _ wr ((BsAt.of_blk HBR.out).keep Km) (fun h => by have := hn8 h; have := HQ3.out; omega) ⟨A4, C4, rfl, hRR⟩
                    rw [HQ3.out] at hcall
                    have HCA := Lib.hid hcall
                    have HNX : Hid (∀ x, x = (b && !vainB someF q3 al[m]) → x = (al.take (m + 1)).all (fun s => !vainB someF q3 s)) := Lib.hid (fun x hx => by rw [hx, hb.out]; exact (all_snoc _ al m hml).symm)
                    generalize vainB someF q3 al[m] = vb at HCA HNX
                    generalize al[m] = sy at s0 s1 s2 HCA
                    obtain ⟨sk, sr, sn⟩ := sy
                    simp only at s0 s1 s2 HCA
                    have HKm := Lib.hid Km
                    clear hcall hRR hn8 hb Km
                    go_wp2_with fail
                    refine HCA.out.mono ?_
                    rintro e w5 ⟨rfl, K5⟩
                    have HK5 := Lib.hid (HKm.out.trans K5)
                    clear HCA K5 HKm
                    cases b with
                    | true =>
                      go_wp2
                      go_roundw
                      case rel => exact ⟨m + 1, !vb, by have := HML.out; omega, by go_num, rfl, Lib.hid (HNX.out _ (by simp)), HK5.out⟩
                      case measure => simp [intOf]; have := HML.out; omega
                    | false =>
                      go_wp2
                      go_roundw
                      case rel => exact ⟨m + 1, false, by have := HML.out; omega, by go_num, rfl, Lib.hid (HNX.out _ (by simp)), HK5.out⟩
                      case measure => simp [intOf]; have := HML.out; omega
                  · obtain rfl : m = al.length := by omega
                    have HBE : Hid (b = al.all (fun s => !vainB someF q3 s)) := Lib.hid (by rw [hb.out, List.take_length])
                    have BRr := HBR.out.keep Km (by simp)
                    have Kr := HKr.out.then Km (by simp)
                    have r0 := BRr.cell n
                    rw [boolC_at _ _ hn3] at r0
                    have rf := BRr.frozen n
                    have HFN : Hid (∀ b, Keep [w1.heap.size] W1 (wr.setCell ⟨w1.heap.size, n, none⟩ (.bool b)) ∧ Blk (wr.setCell ⟨w1.heap.size, n, none⟩ (.bool b)) w1.heap.size (boolC (q3.set n b)) 4) := Lib.hid (fun b => ⟨Kr.setCell (p := ⟨w1.heap.size, n, none⟩) (by simp) _, by rw [← boolC_set]; exact BRr.set n _⟩)
                    have hlb := BRr.lt
                    generalize q3[n] = bv at r0 HSJ2
                    rw [← HBE.out] at HSJ2
                    clear hb Km Kr BRr hn3
                    cases bv with
                    | true =>
                      go_wp2
                      go_roundw
                      case rel => exact ⟨j + 1, by have := HJL.out; omega, by go_num, (HFN.out true).1, by rw [HSJ2.out]; exact (HFN.out true).2⟩
                      case measure => simp [intOf]; have := HJL.out; omega
                    | false =>
                      go_wp2
                      go_roundw
                      case rel => exact ⟨j + 1, by have := HJL.out; omega, by go_num, (HFN.out b).1, by rw [HSJ2.out]; exact (HFN.out b).2⟩
                      case measure => simp [intOf]; have := HJL.out; omega
              · obtain rfl : j = ps[n].a.length := by omega
                have HFN : Hid (Keep [w1.heap.size] W1 wr ∧ Blk wr w1.heap.size (boolC (mrow someF ps q (n + 1))) 4) := Lib.hid ⟨Kr, by rw [HSN.out]; exact BRr⟩
                clear Kr BRr hA HPr
                go_wp2
                go_roundw
                case rel => exact ⟨n + 1, by have := HNL.out; omega, by go_num, HFN.out⟩
                case measure => simp [intOf]; have := HNL.out; omega
          · obtain rfl : n = ps.length := by omega
            have HFN : Hid (Keep [w1.heap.size] W1 wr ∧ Blk wr w1.heap.size (boolC (iterM someF ps (k + 1) q0)) 4) := Lib.hid ⟨Kr, by rw [HSU.out]; exact BRr⟩
            clear Kr BRr
            go_wp2
            go_roundw
            case rel => exact ⟨k + 1, by have := HLT.out; omega, by go_num, HFN.out⟩
            case measure => simp [intOf]; have := HLT.out; omega
      · obtain rfl : k = ps.length := by omega
        have hrl : R.length = ps.length := by rw [HRES.out, iterM_len, HQ0.out]
        have HFN : Hid (BoolV wr w.heap.size (.slice (some ⟨w1.heap.size, 0, none⟩) ps.length ps.length) R ∧ Keep [] w wr) := Lib.hid ⟨.inr ⟨fun e => by rw [e] at hrl; simp at hrl; omega, _, by rw [hrl], by rw [HRES.out]; exact BRr, by omega⟩, HK01.out.then Kr (fun x hx => by simp at hx; subst hx; right; omega)⟩
        clear BRr Kr hrl
        go_wp2
        go_ret
        exact ⟨⟨_, rfl, HFN.out.1⟩, HFN.out.2⟩
end Go.Proofs.YtacihjabkiedcaaGreatDoor
namespace Go.Proofs.YtacihjabkiedcaaGreatDoor
open Go Go.RowKit Go.MapKept

theorem markL_snoc (is : List Bool) (l : List SymS) (m : Nat) (hm : m < l.length) : markL is (l.take (m + 1)) = markS (markL is (l.take m)) l[m] := by
  unfold markL
  rw [List.take_add_one, List.getElem?_eq_getElem hm, List.foldl_append]
  rfl
theorem markA_snoc (is : List Bool) (als : List (List SymS)) (j : Nat) (hj : j < als.length) : markA is (als.take (j + 1)) = markL (markA is (als.take j)) als[j] := by
  unfold markA
  rw [List.take_add_one, List.getElem?_eq_getElem hj, List.foldl_append]
  rfl
theorem fstep_at {ps : List ProdS} {i : Nat} (h : i < ps.length) (n : Nat) (is : List Bool) : fstep ps n is i = if i = n ∨ is.getD i false = true then markA is ps[i].a else is := by
  unfold fstep
  rw [List.getElem?_eq_getElem h]
set_option maxRecDepth 20000 in
set_option maxHeartbeats 8000000 in
theorem from11_any (S : List Nat) (A K : Option Addr) (C m D : Nat) (ps : List ProdS) (x : Int) (w : World) (HP : Prods S w (.slice A ps.length C) ps) (hS : ∀ b ∈ S, b < w.heap.size) :
    Calls Tryz.prog 17 #[.agg #[.slice A ps.length C, .slice K m D], .int .i64 x] w fun e w' => (∃ v, e = .returned v ∧ BoolV w' w.heap.size v (fromR ps x)) ∧ Keep [] w w' := by
  have K0 := (Keep.refl [] w).alloc (.cells #[.slice A ps.length C, .slice K m D] 25)
  have HP0 := HP.mv0 K0
  have B0 := Blk.new w #[.slice A ps.length C, .slice K m D] 25
  have HC := Lib.hid (may8_any S A K C m D ps _ HP0)
  have hlen := (SlOf.len HP).2.1
  cases hg : gmay ps with
  | false =>
    have hr : fromR ps x = [] := by simp [fromR, hg]
    rw [hr]
    go_enter Tryz.func17, Tryz.ntmps17
    go_wp2_with fail
    refine HC.out.mono ?_
    rintro e w1 ⟨rfl, K1⟩
    rw [hg]
    have b0 := (B0.keep K1 (by simp)).cell 0
    go_wp2
    go_ret
    exact ⟨⟨_, rfl, .inl ⟨rfl, rfl⟩⟩, K0.trans K1⟩
  | true =>
    obtain ⟨hl0, hl1⟩ := gmay_len hg
    by_cases hx0 : x < 0
    · have hr : fromR ps x = [] := by unfold fromR; rw [if_neg (by omega)]
      rw [hr]
      have hd0 : decide (x < 0) = true := by simpa using hx0
      go_enter Tryz.func17, Tryz.ntmps17
      go_wp2_with fail
      refine HC.out.mono ?_
      rintro e w1 ⟨rfl, K1⟩
      rw [hg]
      have b0 := (B0.keep K1 (by simp)).cell 0
      go_wp2
      go_ret
      exact ⟨⟨_, rfl, .inl ⟨rfl, rfl⟩⟩, K0.trans K1⟩
    · by_cases hx1 : (ps.length : Int) ≤ x
      · have hr : fromR ps x = [] := by unfold fromR; rw [if_neg (by omega)]
        rw [hr]
        have hd0 : decide (x < 0) = false := by simpa using hx0
        have hd1 : decide ((ps.length : Int) ≤ x) = true := by simpa using hx1
        have hx0' : 0 ≤ x := by omega
        clear hx0
        go_enter Tryz.func17, Tryz.ntmps17
        go_wp2_with fail
        refine HC.out.mono ?_
        rintro e w1 ⟨rfl, K1⟩
        rw [hg]
        have b0 := (B0.keep K1 (by simp)).cell 0
        go_wp2
        go_ret
        exact ⟨⟨_, rfl, .inl ⟨rfl, rfl⟩⟩, K0.trans K1⟩
      · obtain ⟨c, rfl⟩ : ∃ c : Nat, x = c := ⟨x.toNat, by omega⟩
        have hcn : c < ps.length := by omega
        have hr : fromR ps (c : Int) = fiter ps c ps.length (List.replicate ps.length false) := by unfold fromR; rw [if_pos ⟨hg, by omega, by omega⟩, fiter_eq hg hcn]
        obtain ⟨R, hR⟩ : ∃ R, R = fromR ps (c : Int) := ⟨_, rfl⟩
        rw [← hR]
        have HRES := Lib.hid (hR.trans hr)
        have HAL := Lib.hid (gmay_alt hg)
        have HNT := Lib.hid (gmay_sym hg)
        have HPP := Lib.hid HP0
        have HSS := Lib.hid hS
        have hd0 : decide ((c : Int) < 0) = false := by simp
        have hd1 : decide (ps.length ≤ c) = false := by simp; omega
        have hd1' : (c : Int) < (ps.length : Int) := by omega
        clear hr hR HP HP0 hS hx0 hx1
        go_enter Tryz.func17, Tryz.ntmps17
        go_wp2_with fail
        refine HC.out.mono ?_
        rintro e w1 ⟨rfl, K1⟩
        rw [hg]
        have B1 := B0.keep K1 (by simp)
        have b0 := B1.cell 0
        have hmk := make_bools w1 ps.length (by omega)
        have KA := (Keep.refl [] w1).alloc (.cells (boolC (List.replicate ps.length false)) 4)
        have BR0 := Blk.new w1 (boolC (List.replicate ps.length false)) 4
        obtain ⟨W1, hW1⟩ : ∃ W, W = w1.alloc (.cells (boolC (List.replicate ps.length false)) 4) := ⟨_, rfl⟩
        have hszw : w.heap.size < w1.heap.size := B1.lt
        have B1' := B1.keep KA (by simp)
        have HP1 := SlOf.move (S' := w1.heap.size :: S) (HPP.out.mv0 K1) prodRow_stab (by omega) KA (by simp) (fun x hx => by
          rcases List.mem_cons.1 hx with rfl | hx
          · exact .inr (Nat.le_refl _)
          · exact .inl hx)
        have K01 := (K0.trans K1).trans KA
        rw [← hW1] at KA BR0 B1' HP1 K01
        have HW := Lib.hid hW1
        have HB1 := Lib.hid B1'
        have HPX := Lib.hid HP1
        have HK01 := Lib.hid K01
        have HT0 : Hid (Keep [w1.heap.size] W1 W1 ∧ Blk W1 w1.heap.size (boolC (fiter ps c 0 (List.replicate ps.length false))) 4) := Lib.hid ⟨Keep.refl _ _, BR0⟩
        have HQ0 : Hid ((List.replicate ps.length false).length = ps.length) := Lib.hid (by simp)
        clear KA BR0 B1' HP1 K01 hW1 B1 B0 K0 K1 HC HPP HSS
        go_wp2
        rw [← HW.out]
        clear b0 hmk
        generalize List.replicate ps.length false = q0 at HT0 HRES HQ0
        go_loopw [7] (fun i wr => ∃ k : Nat, k ≤ ps.length ∧ i = .int .i64 k ∧ Keep [w1.heap.size] W1 wr ∧ Blk wr w1.heap.size (boolC (fiter ps c k q0)) 4) (fun i _ => ps.length - (intOf i).toNat)
        case atStart => exact ⟨0, by omega, rfl, HT0.out⟩
        case round =>
          clear HT0
          obtain ⟨k, hk, rfl, Kr, BRr⟩ := hrel
          have g0 := (HB1.out.keep Kr (by simp; omega)).cell 0
          by_cases hlt : k < ps.length
          · have hlt' : (k : Int) < (ps.length : Int) := by omega
            have HLT := Lib.hid hlt
            have HSU : Hid (fiter ps c (k + 1) q0 = fpass ps c ps.length (fiter ps c k q0)) := Lib.hid rfl
            have hql : (fiter ps c k q0).length = ps.length := by rw [fiter_len, HQ0.out]
            generalize fiter ps c k q0 = q at BRr HSU hql
            have HT1 : Hid (Keep [w1.heap.size] W1 wr ∧ Blk wr w1.heap.size (boolC (fpass ps c 0 q)) 4) := Lib.hid ⟨Kr, BRr⟩
            have HQL := Lib.hid hql
            clear Kr BRr hql
            go_wp2
            clear g0
            go_loopw [8] (fun i wr => ∃ n : Nat, n ≤ ps.length ∧ i = .int .i64 n ∧ Keep [w1.heap.size] W1 wr ∧ Blk wr w1.heap.size (boolC (fpass ps c n q)) 4) (fun i _ => ps.length - (intOf i).toNat)
            case atStart => exact ⟨0, by omega, rfl, HT1.out⟩
            case round =>
              clear HT1
              obtain ⟨n, hn, rfl, Kr, BRr⟩ := hrel
              have g0 := (HB1.out.keep Kr (by simp; omega)).cell 0
              by_cases hnl : n < ps.length
              · have hnl' : (n : Int) < (ps.length : Int) := by omega
                have HNL := Lib.hid hnl
                have HSN : Hid (fpass ps c (n + 1) q = if n = c ∨ (fpass ps c n q).getD n false = true then markA (fpass ps c n q) ps[n].a else fpass ps c n q) := Lib.hid ((fpass_succ _ _ _ _).trans (fstep_at hnl _ _))
                have hql : (fpass ps c n q).length = ps.length := by rw [← (fpass_le ps c q n).1, HQL.out]
                generalize fpass ps c n q = q2 at BRr HSN hql
                have HQL2 := Lib.hid hql
                have HT2 : Hid (Keep [w1.heap.size] W1 wr ∧ Blk wr w1.heap.size (boolC (markA q2 (ps[n].a.take 0))) 4) := Lib.hid ⟨Kr, BRr⟩
                have hal8 := (HAL.out _ (List.getElem_mem hnl)).2.1
                clear Kr BRr hql
                go_wp2
                clear g0
                obtain ⟨wo, rfl⟩ : ∃ wo : World, wo = wr := ⟨_, rfl⟩
                go_loopw [9] (fun i wr => ∃ j : Nat, j ≤ ps[n].a.length ∧ i = .int .i64 j ∧ Hid (¬ (n = c ∨ q2.getD n false = true) → j = 0) ∧ Keep [w1.heap.size] W1 wr ∧ Blk wr w1.heap.size (boolC (markA q2 (ps[n].a.take j))) 4) (fun i _ => ps[n].a.length - (intOf i).toNat)
                case atStart => exact ⟨0, by omega, rfl, Lib.hid (fun _ => rfl), HT2.out⟩
                case round =>
                  clear HT2
                  obtain ⟨j, hj, rfl, hj0, Kr, BRr⟩ := hrel
                  have g0 := (HB1.out.keep Kr (by simp; omega)).cell 0
                  have HPr : Prods (w1.heap.size :: S) wr (.slice A ps.length C) ps := SlOf.move HPX.out prodRow_stab (by omega) Kr (fun x hx => .inl (by simp at hx ⊢; simp [hx])) (fun x hx => .inl hx)
                  obtain ⟨bp, op, A2, C2, N2, F2, rfl, _, e0, _, _, hA, _⟩ := HPr.pick n hnl
                  have hlq : (markA q2 (ps[n].a.take j)).length = ps.length := by rw [← (markA_le _ _).1, HQL2.out]
                  have hn3 : n < (markA q2 (ps[n].a.take j)).length := by omega
                  have hcur : (markA q2 (ps[n].a.take j)).getD n false = (markA q2 (ps[n].a.take j))[n] := by simp [hn3]
                  have r0 : wr.cell? ⟨w1.heap.size, n, none⟩ = some (.bool ((markA q2 (ps[n].a.take j)).getD n false)) := by
                    rw [hcur, BRr.cell n, boolC_at _ _ hn3]
                  by_cases hjl : j < ps[n].a.length
                  · have hjl' : (j : Int) < (ps[n].a.length : Int) := by omega
                    have HJL := Lib.hid hjl
                    by_cases hcc : n = c ∨ q2.getD n false = true
                    · have HCC := Lib.hid hcc
                      have hcu2 : n = c ∨ (markA q2 (ps[n].a.take j)).getD n false = true := by
                        rcases hcc with h | h
                        · exact .inl h
                        · exact .inr ((markA_le _ _).2 _ h)
                      obtain ⟨b2, o2, A3, C3, rfl, _, f0, hS⟩ := Alts.pick hA j hjl
                      have HSJ : Hid (markA q2 (ps[n].a.take (j + 1)) = markL (markA q2 (ps[n].a.take j)) ps[n].a[j]) := Lib.hid (markA_snoc _ _ _ hjl)
                      have HNS := Lib.hid (HNT.out _ (List.getElem_mem hnl) _ (List.getElem_mem hjl))
                      have hal40 := (HAL.out _ (List.getElem_mem hnl)).2.2 _ (List.getElem_mem hjl)
                      have HQ3 := Lib.hid hlq
                      obtain ⟨al, hal, HSJ, hal40, HNS⟩ : ∃ al, ps[n].a[j] = al ∧ Hid (markA q2 (ps[n].a.take (j + 1)) = markL (markA q2 (ps[n].a.take j)) al) ∧ al.length ≤ 40 ∧ Hid (∀ s ∈ al, s.k = 2 → 0 ≤ s.n ∧ s.n < (ps.length : Int)) := ⟨_, rfl, HSJ, hal40, HNS⟩
                      have HALE := Lib.hid hal
                      clear hcur
                      clear hn3
                      generalize markA q2 (ps[n].a.take j) = q3 at BRr HSJ HQ3 hcu2 r0 hlq
                      have HT4 : Hid (Keep [w1.heap.size] W1 wr ∧ Blk wr w1.heap.size (boolC (markL q3 (al.take 0))) 4) := Lib.hid ⟨Kr, BRr⟩
                      clear hS hA HPr Kr BRr hlq hcc hj0 hal f0
                      by_cases hnc : n = c
                      · have hb : ((n : Int) == (c : Int)) = true := by simp [hnc]
                        have hb2 : (n == c) = true := by simp [hnc]
                        clear r0 hcu2 hnc
                        go_wp2
                        clear g0 e0
                        obtain ⟨wj, rfl⟩ : ∃ wj : World, wj = wr := ⟨_, rfl⟩
                        go_loopw [10] (fun iv wr => ∃ m : Nat, m ≤ al.length ∧ iv = .int .i64 m ∧ Keep [w1.heap.size] W1 wr ∧ Blk wr w1.heap.size (boolC (markL q3 (al.take m))) 4) (fun iv _ => al.length - (intOf iv).toNat)
                        case atStart => exact ⟨0, by omega, rfl, HT4.out⟩
                        case round =>
                          clear HT4
                          obtain ⟨m, hm, rfl, Km, BRm⟩ := hrel
                          have g0 := (HB1.out.keep Km (by simp; omega)).cell 0
                          have HPm : Prods (w1.heap.size :: S) wr (.slice (some ⟨bp, op, none⟩) ps.length C) ps := SlOf.move HPX.out prodRow_stab (by omega) Km (fun x hx => .inl (by simp at hx ⊢; simp [hx])) (fun x hx => .inl hx)
                          obtain ⟨bp', op', A2', C2', N2', F2', he, _, e0, _, _, hA', _⟩ := HPm.pick n HNL.out
                          simp only [Option.some.injEq, Addr.mk.injEq, and_true] at he
                          obtain ⟨rfl, rfl⟩ := he
                          obtain ⟨b3, o3, A4, C4, rfl, _, f0x, hSx⟩ := Alts.pick hA' j HJL.out
                          obtain ⟨al2, hax, f0, hS'⟩ : ∃ al2, ps[n].a[j] = al2 ∧ wr.cell? ⟨b3, o3 + j, none⟩ = some (.slice A4 al2.length C4) ∧ Syms (w1.heap.size :: S) wr (.slice A4 al2.length C4) al2 := ⟨_, rfl, f0x, hSx⟩
                          clear f0x hSx
                          obtain rfl : al = al2 := HALE.out.symm.trans hax
                          have hjl2 : (j : Int) < (ps[n].a.length : Int) := by have := HJL.out; omega
                          generalize ps[n].a.length = al9 at e0 hjl2
                          by_cases hml : m < al.length
                          · have hml' : (m : Int) < (al.length : Int) := by omega
                            have HML := Lib.hid hml
                            obtain ⟨b4, o4, A5, C5, rfl, _, s0, _, s2, _⟩ := Syms.pick hS' m hml
                            have hn8 := HNS.out _ (List.getElem_mem hml)
                            have hsn : markL q3 (al.take (m + 1)) = markS (markL q3 (al.take m)) al[m] := markL_snoc _ _ _ hml
                            have hlm : (markL q3 (al.take m)).length = ps.length := by rw [← (markL_le _ _).1, HQ3.out]
                            generalize markL q3 (al.take m) = q4 at BRm hsn hlm
                            have HSN4 := Lib.hid hsn
                            generalize al[m] = sy at s0 s2 hn8 HSN4
                            obtain ⟨sk, sr, sn⟩ := sy
                            simp only at s0 s2 hn8
                            have HPK := Lib.hid (⟨Km, BRm⟩ : _ ∧ _)
                            clear hsn hS' hA' HPm
                            by_cases hk2 : sk = 2
                            · subst hk2
                              obtain ⟨hn80, hn81⟩ := hn8 rfl
                              obtain ⟨y, rfl⟩ : ∃ y : Nat, sn = y := ⟨sn.toNat, by omega⟩
                              have hyl : y < q4.length := by omega
                              have rf := BRm.frozen y
                              have r1 := BRm.cell y
                              rw [boolC_at _ _ hyl] at r1
                              have HFN : Hid (Keep [w1.heap.size] W1 (wr.setCell ⟨w1.heap.size, y, none⟩ (.bool true)) ∧ Blk (wr.setCell ⟨w1.heap.size, y, none⟩ (.bool true)) w1.heap.size (boolC (markL q3 (al.take (m + 1)))) 4) := Lib.hid ⟨Km.setCell (p := ⟨w1.heap.size, y, none⟩) (by simp) _, by
                                rw [HSN4.out]
                                have e : markS q4 ⟨2, sr, (y : Int)⟩ = q4.set y true := by simp [markS]
                                rw [e, ← boolC_set]; exact BRm.set y _⟩
                              have hlb := BRm.lt
                              generalize q4[y] = bv4 at r1
                              clear Km BRm hn8 HSN4 hlm hyl
                              go_wp2
                              go_roundw
                              case rel => exact ⟨m + 1, by have := HML.out; omega, by go_num, HFN.out⟩
                              case measure => simp [intOf]; have := HML.out; omega
                            · have hkb : (sk == 2) = false := by simpa using hk2
                              have HFN : Hid (Blk wr w1.heap.size (boolC (markL q3 (al.take (m + 1)))) 4) := Lib.hid (by
                                rw [HSN4.out]
                                have e : markS q4 ⟨sk, sr, sn⟩ = q4 := by simp [markS, hk2]
                                rw [e]; exact BRm)
                              clear Km BRm hn8 HSN4 hlm hk2
                              go_wp2
                              go_roundw
                              case rel => exact ⟨m + 1, by have := HML.out; omega, by go_num, HPK.out.1, HFN.out⟩
                              case measure => simp [intOf]; have := HML.out; omega
                          · obtain rfl : m = al.length := by omega
                            have HFN : Hid (Keep [w1.heap.size] W1 wr ∧ Blk wr w1.heap.size (boolC (markA q2 (ps[n].a.take (j + 1)))) 4) := Lib.hid ⟨Km, by rw [HSJ.out]; rw [List.take_length] at BRm; exact BRm⟩
                            clear Km BRm hS' hA' HPm
                            go_wp2
                            go_roundw
                            case rel => exact ⟨j + 1, by have := HJL.out; omega, by go_num, Lib.hid (fun h => absurd HCC.out h), HFN.out⟩
                            case measure => simp [intOf]; have := HJL.out; omega
                      · have hb : ((n : Int) == (c : Int)) = false := by simp; omega
                        have hb2 : (n == c) = false := by simp [hnc]
                        have hq : q3.getD n false = true := by rcases hcu2 with h | h; exact absurd h hnc; exact h
                        rw [hq] at r0
                        clear hcu2 hnc hq
                        go_wp2
                        clear g0 e0 r0
                        obtain ⟨wj, rfl⟩ : ∃ wj : World, wj = wr := ⟨_, rfl⟩
                        go_loopw [10] (fun iv wr => ∃ m : Nat, m ≤ al.length ∧ iv = .int .i64 m ∧ Keep [w1.heap.size] W1 wr ∧ Blk wr w1.heap.size (boolC (markL q3 (al.take m))) 4) (fun iv _ => al.length - (intOf iv).toNat)
                        case atStart => exact ⟨0, by omega, rfl, HT4.out⟩
                        case round =>
                          clear HT4
                          obtain ⟨m, hm, rfl, Km, BRm⟩ := hrel
                          have g0 := (HB1.out.keep Km (by simp; omega)).cell 0
                          have HPm : Prods (w1.heap.size :: S) wr (.slice (some ⟨bp, op, none⟩) ps.length C) ps := SlOf.move HPX.out prodRow_stab (by omega) Km (fun x hx => .inl (by simp at hx ⊢; simp [hx])) (fun x hx => .inl hx)
                          obtain ⟨bp', op', A2', C2', N2', F2', he, _, e0, _, _, hA', _⟩ := HPm.pick n HNL.out
                          simp only [Option.some.injEq, Addr.mk.injEq, and_true] at he
                          obtain ⟨rfl, rfl⟩ := he
                          obtain ⟨b3, o3, A4, C4, rfl, _, f0x, hSx⟩ := Alts.pick hA' j HJL.out
                          obtain ⟨al2, hax, f0, hS'⟩ : ∃ al2, ps[n].a[j] = al2 ∧ wr.cell? ⟨b3, o3 + j, none⟩ = some (.slice A4 al2.length C4) ∧ Syms (w1.heap.size :: S) wr (.slice A4 al2.length C4) al2 := ⟨_, rfl, f0x, hSx⟩
                          clear f0x hSx
                          obtain rfl : al = al2 := HALE.out.symm.trans hax
                          have hjl2 : (j : Int) < (ps[n].a.length : Int) := by have := HJL.out; omega
                          generalize ps[n].a.length = al9 at e0 hjl2
                          by_cases hml : m < al.length
                          · have hml' : (m : Int) < (al.length : Int) := by omega
                            have HML := Lib.hid hml
                            obtain ⟨b4, o4, A5, C5, rfl, _, s0, _, s2, _⟩ := Syms.pick hS' m hml
                            have hn8 := HNS.out _ (List.getElem_mem hml)
                            have hsn : markL q3 (al.take (m + 1)) = markS (markL q3 (al.take m)) al[m] := markL_snoc _ _ _ hml
                            have hlm : (markL q3 (al.take m)).length = ps.length := by rw [← (markL_le _ _).1, HQ3.out]
                            generalize markL q3 (al.take m) = q4 at BRm hsn hlm
                            have HSN4 := Lib.hid hsn
                            generalize al[m] = sy at s0 s2 hn8 HSN4
                            obtain ⟨sk, sr, sn⟩ := sy
                            simp only at s0 s2 hn8
                            have HPK := Lib.hid (⟨Km, BRm⟩ : _ ∧ _)
                            clear hsn hS' hA' HPm
                            by_cases hk2 : sk = 2
                            · subst hk2
                              obtain ⟨hn80, hn81⟩ := hn8 rfl
                              obtain ⟨y, rfl⟩ : ∃ y : Nat, sn = y := ⟨sn.toNat, by omega⟩
                              have hyl : y < q4.length := by omega
                              have rf := BRm.frozen y
                              have r1 := BRm.cell y
                              rw [boolC_at _ _ hyl] at r1
                              have HFN : Hid (Keep [w1.heap.size] W1 (wr.setCell ⟨w1.heap.size, y, none⟩ (.bool true)) ∧ Blk (wr.setCell ⟨w1.heap.size, y, none⟩ (.bool true)) w1.heap.size (boolC (markL q3 (al.take (m + 1)))) 4) := Lib.hid ⟨Km.setCell (p := ⟨w1.heap.size, y, none⟩) (by simp) _, by
                                rw [HSN4.out]
                                have e : markS q4 ⟨2, sr, (y : Int)⟩ = q4.set y true := by simp [markS]
                                rw [e, ← boolC_set]; exact BRm.set y _⟩
                              have hlb := BRm.lt
                              generalize q4[y] = bv4 at r1
                              clear Km BRm hn8 HSN4 hlm hyl
                              go_wp2
                              go_roundw
                              case rel => exact ⟨m + 1, by have := HML.out; omega, by go_num, HFN.out⟩
                              case measure => simp [intOf]; have := HML.out; omega
                            · have hkb : (sk == 2) = false := by simpa using hk2
                              have HFN : Hid (Blk wr w1.heap.size (boolC (markL q3 (al.take (m + 1)))) 4) := Lib.hid (by
                                rw [HSN4.out]
                                have e : markS q4 ⟨sk, sr, sn⟩ = q4 := by simp [markS, hk2]
                                rw [e]; exact BRm)
                              clear Km BRm hn8 HSN4 hlm hk2
                              go_wp2
                              go_roundw
                              case rel => exact ⟨m + 1, by have := HML.out; omega, by go_num, HPK.out.1, HFN.out⟩
                              case measure => simp [intOf]; have := HML.out; omega
                          · obtain rfl : m = al.length := by omega
                            have HFN : Hid (Keep [w1.heap.size] W1 wr ∧ Blk wr w1.heap.size (boolC (markA q2 (ps[n].a.take (j + 1)))) 4) := Lib.hid ⟨Km, by rw [HSJ.out]; rw [List.take_length] at BRm; exact BRm⟩
                            clear Km BRm hS' hA' HPm
                            go_wp2
                            go_roundw
                            case rel => exact ⟨j + 1, by have := HJL.out; omega, by go_num, Lib.hid (fun h => absurd HCC.out h), HFN.out⟩
                            case measure => simp [intOf]; have := HJL.out; omega
                    · have hnc : n ≠ c := fun h => hcc (.inl h)
                      have hj0' : j = 0 := hj0.out hcc
                      subst hj0'
                      have hq : (markA q2 (ps[n].a.take 0)).getD n false = false := by
                        cases hv : (markA q2 (ps[n].a.take 0)).getD n false with
                        | false => rfl
                        | true => exact absurd (.inr hv) hcc
                      rw [hq] at r0
                      have hb : ((n : Int) == (c : Int)) = false := by simp; omega
                      have hb2 : (n == c) = false := by simp [hnc]
                      have HFN : Hid (Keep [w1.heap.size] W1 wr ∧ Blk wr w1.heap.size (boolC (fpass ps c (n + 1) q)) 4) := Lib.hid ⟨Kr, by rw [HSN.out, if_neg hcc]; exact BRr⟩
                      generalize ps[n].a.length = al8 at e0 hjl' ⊢
                      clear hA HPr Kr BRr hlq hcur hj0 hcc hq hnc hn3
                      go_wp2
                      go_roundw
                      case rel => exact ⟨n + 1, by have := HNL.out; omega, by go_num, HFN.out⟩
                      case measure => simp [intOf]; have := HNL.out; omega
                  · obtain rfl : j = ps[n].a.length := by omega
                    have HFN : Hid (Keep [w1.heap.size] W1 wr ∧ Blk wr w1.heap.size (boolC (fpass ps c (n + 1) q)) 4) := Lib.hid ⟨Kr, by
                      rw [HSN.out]
                      split
                      · rw [List.take_length] at BRr; exact BRr
                      · rename_i h
                        have h0 := hj0.out h
                        rw [h0] at BRr
                        exact BRr⟩
                    clear Kr BRr hA HPr hcur r0 hlq hn3 hj0
                    go_wp2
                    go_roundw
                    case rel => exact ⟨n + 1, by have := HNL.out; omega, by go_num, HFN.out⟩
                    case measure => simp [intOf]; have := HNL.out; omega
              · obtain rfl : n = ps.length := by omega
                have HFN : Hid (Keep [w1.heap.size] W1 wr ∧ Blk wr w1.heap.size (boolC (fiter ps c (k + 1) q0)) 4) := Lib.hid ⟨Kr, by rw [HSU.out]; exact BRr⟩
                clear Kr BRr
                go_wp2
                go_roundw
                case rel => exact ⟨k + 1, by have := HLT.out; omega, by go_num, HFN.out⟩
                case measure => simp [intOf]; have := HLT.out; omega
          · obtain rfl : k = ps.length := by omega
            have hrl : R.length = ps.length := by rw [HRES.out, fiter_len, HQ0.out]
            have HFN : Hid (BoolV wr w.heap.size (.slice (some ⟨w1.heap.size, 0, none⟩) ps.length ps.length) R ∧ Keep [] w wr) := Lib.hid ⟨.inr ⟨fun e => by rw [e] at hrl; simp at hrl; omega, _, by rw [hrl], by rw [HRES.out]; exact BRr, by omega⟩, HK01.out.then Kr (fun x hx => by simp at hx; subst hx; right; omega)⟩
            clear BRr Kr hrl
            go_wp2
            go_ret
            exact ⟨⟨_, rfl, HFN.out.1⟩, HFN.out.2⟩
theorem lostR_none {ps : List ProdS} (h : fromR ps 0 = []) : lostR ps = -1 := by simp [lostR, h]
theorem lost_hit {ps : List ProdS} {k : Nat} (h1 : 1 ≤ k) (hk : k < (fromR ps 0).length) (hx : (fromR ps 0)[k] = false) (hn : ∀ j (h : j < (fromR ps 0).length), 1 ≤ j → j < k → (fromR ps 0)[j] = true) : lostR ps = k := by
  unfold lostR
  rw [if_neg (by omega)]
  refine idxB_hit _ _ k (by simpa using hk) (by rw [List.getElem_set_ne (by omega)]; exact hx) (fun j hj => ?_)
  by_cases e : j = 0
  · subst e; simp
  · rw [List.getElem_set_ne (by omega), hn j (by omega) (by omega) hj]
    simp
theorem lost_miss {ps : List ProdS} (hn : ∀ j (h : j < (fromR ps 0).length), 1 ≤ j → (fromR ps 0)[j] = true) : lostR ps = -1 := by
  unfold lostR
  split
  · rfl
  · refine idxB_miss _ _ (fun j hj => ?_)
    by_cases e : j = 0
    · subst e; simp
    · rw [List.getElem_set_ne (by omega), hn j (by simpa using hj) (by omega)]
      simp
set_option maxRecDepth 20000 in
set_option maxHeartbeats 4000000 in
theorem lost11_any (S : List Nat) (A K : Option Addr) (C m D : Nat) (ps : List ProdS) (w : World) (HP : Prods S w (.slice A ps.length C) ps) (hS : ∀ b ∈ S, b < w.heap.size) :
    Calls Tryz.prog 21 #[.agg #[.slice A ps.length C, .slice K m D]] w fun e w' => e = .returned (.int .i64 (lostR ps)) ∧ Keep [] w w' := by
  have K0 := (Keep.refl [] w).alloc (.cells #[.slice A ps.length C, .slice K m D] 25)
  have HP0 := HP.mv0 K0
  have hSS : ∀ b ∈ S, b < (w.alloc (.cells #[.slice A ps.length C, .slice K m D] 25)).heap.size := fun b hb => by have := hS b hb; simp; omega
  have HC := Lib.hid (from11_any S A K C m D ps 0 _ HP0 hSS)
  have hlr : (fromR ps 0).length ≤ 60 := fromR_len ps 0
  obtain ⟨r, hr⟩ : ∃ r, r = lostR ps := ⟨_, rfl⟩
  rw [← hr]
  have HRES := Lib.hid hr
  clear hr HP HP0 hS hSS
  go_enter Tryz.func21, Tryz.ntmps21
  go_wp2_with fail
  refine HC.out.mono ?_
  rintro e w1 ⟨⟨v, rfl, hv⟩, K1⟩
  obtain ⟨V, F, rfl, hF, hc⟩ := hv.cells
  have HCC := Lib.hid hc
  have HK := Lib.hid (K0.trans K1)
  have HST : Hid (∀ j (h : j < (fromR ps 0).length), 1 ≤ j → j < 1 → (fromR ps 0)[j] = true) := Lib.hid (fun j h h1 h2 => by omega)
  clear HC hv hc K0 K1
  go_wp2
  go_loop [4] (fun i => ∃ k : Nat, 1 ≤ k ∧ (k ≤ (fromR ps 0).length ∨ k = 1) ∧ i = .int .i64 k ∧ Hid (∀ j (h : j < (fromR ps 0).length), 1 ≤ j → j < k → (fromR ps 0)[j] = true)) (fun i => (fromR ps 0).length - (intOf i).toNat)
  case atStart => exact ⟨1, by omega, .inr rfl, rfl, HST⟩
  case round =>
    clear HST
    obtain ⟨k, hk0, hk, rfl, hn⟩ := hrel
    by_cases hlt : k < (fromR ps 0).length
    · have hlt' : (k : Int) < ((fromR ps 0).length : Int) := by omega
      have HLT := Lib.hid hlt
      obtain ⟨b, rfl, hcl⟩ := HCC.out (by omega)
      have q0 := hcl k hlt
      generalize hv : (fromR ps 0)[k] = bv at q0
      cases bv with
      | false =>
        have HF : Hid (r = k) := Lib.hid (by rw [HRES.out]; exact lost_hit (by omega) hlt (by assumption) (fun j hj h1 h2 => hn.out j hj h1 h2))
        clear hn hv hcl
        go_wp2
        go_ret
        exact ⟨by rw [HF.out]; rfl, HK.out⟩
      | true =>
        have HN : Hid (∀ j (h : j < (fromR ps 0).length), 1 ≤ j → j < k + 1 → (fromR ps 0)[j] = true) := Lib.hid (fun j hj h1 h2 => by
          by_cases e : j = k
          · subst e; exact hv
          · exact hn.out j hj h1 (by omega))
        clear hn hv hcl
        go_wp2
        go_round
        case rel => exact ⟨k + 1, by omega, .inl (by have := HLT.out; omega), by go_num, HN⟩
        case measure => simp [intOf]; have := HLT.out; omega
    · have hge : ((fromR ps 0).length : Int) ≤ (k : Int) := by omega
      have hd : decide (k < (fromR ps 0).length) = false := by simp; omega
      have HF : Hid (r = -1) := Lib.hid (by
        rw [HRES.out]
        have hn' : Hid (∀ j (h : j < (fromR ps 0).length), 1 ≤ j → j < (fromR ps 0).length → (fromR ps 0)[j] = true) := Lib.hid (fun j hj h1 h2 => hn.out j hj h1 (by omega))
        clear hn
        have hn := hn'
        exact lost_miss (fun j hj h1 => hn.out j hj h1 hj))
      clear hn hlt
      go_wp2
      go_ret
      exact ⟨by rw [HF.out]; rfl, HK.out⟩
set_option maxRecDepth 20000 in
set_option maxHeartbeats 4000000 in
theorem vain11_any (S : List Nat) (A K : Option Addr) (C m D : Nat) (ps : List ProdS) (w : World) (HP : Prods S w (.slice A ps.length C) ps) (hS : ∀ b ∈ S, b < w.heap.size) :
    Calls Tryz.prog 23 #[.agg #[.slice A ps.length C, .slice K m D]] w fun e w' => e = .returned (.int .i64 (vainR someF ps)) ∧ Keep [] w w' := by
  have K0 := (Keep.refl [] w).alloc (.cells #[.slice A ps.length C, .slice K m D] 25)
  have HP0 := HP.mv0 K0
  have hSS : ∀ b ∈ S, b < (w.alloc (.cells #[.slice A ps.length C, .slice K m D] 25)).heap.size := fun b hb => by have := hS b hb; simp; omega
  have HC := Lib.hid (makes11_any S A K C m D ps _ HP0 hSS)
  have hlr : (makesR someF ps).length ≤ 60 := makesR_len someF ps
  obtain ⟨r, hr⟩ : ∃ r, r = vainR someF ps := ⟨_, rfl⟩
  rw [← hr]
  have HRES := Lib.hid hr
  clear hr HP HP0 hS hSS
  go_enter Tryz.func23, Tryz.ntmps23
  go_wp2_with fail
  refine HC.out.mono ?_
  rintro e w1 ⟨⟨v, rfl, hv⟩, K1⟩
  obtain ⟨V, F, rfl, hF, hc⟩ := hv.cells
  have HCC := Lib.hid hc
  have HK := Lib.hid (K0.trans K1)
  have HST : Hid (∀ j (h : j < (makesR someF ps).length), 0 ≤ j → j < 0 → (makesR someF ps)[j] = true) := Lib.hid (fun j h h1 h2 => by omega)
  clear HC hv hc K0 K1
  go_wp2
  go_loop [4] (fun i => ∃ k : Nat, 0 ≤ k ∧ (k ≤ (makesR someF ps).length ∨ k = 0) ∧ i = .int .i64 k ∧ Hid (∀ j (h : j < (makesR someF ps).length), 0 ≤ j → j < k → (makesR someF ps)[j] = true)) (fun i => (makesR someF ps).length - (intOf i).toNat)
  case atStart => exact ⟨0, by omega, .inr rfl, rfl, HST⟩
  case round =>
    clear HST
    obtain ⟨k, hk0, hk, rfl, hn⟩ := hrel
    by_cases hlt : k < (makesR someF ps).length
    · have hlt' : (k : Int) < ((makesR someF ps).length : Int) := by omega
      have HLT := Lib.hid hlt
      obtain ⟨b, rfl, hcl⟩ := HCC.out (by omega)
      have q0 := hcl k hlt
      generalize hv : (makesR someF ps)[k] = bv at q0
      cases bv with
      | false =>
        have HF : Hid (r = k) := Lib.hid (by rw [HRES.out]; exact idxB_hit _ _ k hlt (by assumption) (fun j hj => by rw [hn.out j (by omega) (by omega) hj]; simp))
        clear hn hv hcl
        go_wp2
        go_ret
        exact ⟨by rw [HF.out]; rfl, HK.out⟩
      | true =>
        have HN : Hid (∀ j (h : j < (makesR someF ps).length), 0 ≤ j → j < k + 1 → (makesR someF ps)[j] = true) := Lib.hid (fun j hj h1 h2 => by
          by_cases e : j = k
          · subst e; exact hv
          · exact hn.out j hj h1 (by omega))
        clear hn hv hcl
        go_wp2
        go_round
        case rel => exact ⟨k + 1, by omega, .inl (by have := HLT.out; omega), by go_num, HN⟩
        case measure => simp [intOf]; have := HLT.out; omega
    · have hge : ((makesR someF ps).length : Int) ≤ (k : Int) := by omega
      have hd : decide (k < (makesR someF ps).length) = false := by simp; omega
      have HF : Hid (r = -1) := Lib.hid (by
        rw [HRES.out]
        have hn' : Hid (∀ j (h : j < (makesR someF ps).length), 0 ≤ j → j < (makesR someF ps).length → (makesR someF ps)[j] = true) := Lib.hid (fun j hj h1 h2 => hn.out j hj h1 (by omega))
        clear hn
        have hn := hn'
        exact idxB_miss _ _ (fun j hj => by rw [hn.out j hj (by omega) hj]; simp))
      clear hn hlt
      go_wp2
      go_ret
      exact ⟨by rw [HF.out]; rfl, HK.out⟩
end Go.Proofs.YtacihjabkiedcaaGreatDoor
