/- The reference's words of layer 12: the walk of Order. -/
import Derived.Test.YtkminfdblimiiaaGreatDoorJ22
set_option linter.unusedVariables false
set_option linter.unusedSimpArgs false
namespace Go.Proofs.YtkminfdblimiiaaGreatDoor
open Go Go.RowKit Go.MapKept

def sliceLen (v : Value) : Nat := match v with
  | .slice _ n _ => n
  | _ => 0
set_option maxRecDepth 20000 in
set_option maxHeartbeats 8000000 in
theorem orderR12_any (A K : Option Addr) (C m D : Nat) (ps : List ProdS) (w : World) (HP : Prods [] w (.slice A ps.length C) ps) :
    Calls Tryz.prog 11 #[.agg #[.slice A ps.length C, .slice K m D]] w fun e w' => OrdPost ps e w' ∧ Keep [] w w' := by
  have K0 := (Keep.refl [] w).alloc (.cells #[.slice A ps.length C, .slice K m D] 25)
  have B0 := Blk.new w #[.slice A ps.length C, .slice K m D] 25
  have HC := Lib.hid (may8_any [] A K C m D ps _ (HP.mv0 K0))
  have HPP := Lib.hid HP
  obtain ⟨ii, hii, hi0, hi1, hi2⟩ := info_parts info_int
  clear HP
  go_enter Tryz.func11, Tryz.ntmps11
  go_wp2_with fail
  refine HC.out.mono ?_
  rintro e w1 ⟨rfl, K1⟩
  have B1 := B0.keep K1 (by simp)
  have b1 := B1.cell
  have HB1 := Lib.hid B1
  have K01 := K0.trans K1
  have hw1 := B1.lt
  clear HC B0 K0 B1
  cases hg : gmay ps with
  | false =>
    go_wp2
    go_ret2
    exact ⟨ordPost_mk none (fun h => by rw [hg] at h; cases h) (fun _ => rfl) _ rfl (intC_nil _), K01⟩
  | true =>
    obtain ⟨hl0, hl1⟩ := gmay_len hg
    have hmk := make_bools w1 ps.length (by omega)
    have HMK := Lib.hid (fun k (hk : k < ps.length) => (⟨(mk_at hk).symm, mk_in hg hk⟩ : ps[k].marks = mk ps k ∧ 0 ≤ mk ps k ∧ mk ps k ≤ 63))
    have KA := (Keep.refl [] w1).alloc (.cells (boolC (List.replicate ps.length false)) 4)
    have BR0 := Blk.new w1 (boolC (List.replicate ps.length false)) 4
    obtain ⟨W1, hW1⟩ : ∃ W, W = w1.alloc (.cells (boolC (List.replicate ps.length false)) 4) := ⟨_, rfl⟩
    have hszW : W1.heap.size = w1.heap.size + 1 := by rw [hW1]; simp
    rw [← hW1] at KA BR0
    have HW := Lib.hid hW1
    have HK := Lib.hid (K01.trans KA)
    have HBR := Lib.hid BR0
    have HB := Lib.hid (HB1.out.keep KA (by simp))
    have HQ0 : Hid (leftS ps (List.replicate ps.length false) = filtN ps ∧ (List.replicate ps.length false).length = ps.length) := Lib.hid ⟨leftS_zero ps, by simp⟩
    have HSW := Lib.hid hszW
    clear KA BR0 hW1 K01 K1 HB1
    go_wp2
    rw [← HW.out]
    clear b1 hmk HW
    generalize List.replicate ps.length false = q0 at HBR HQ0
    have HP1 : Hid (∀ w' (K' : Keep [w1.heap.size] W1 w'), Prods [] w' (.slice A ps.length C) ps) := Lib.hid (fun w' K' => HPP.out.mv0 (HK.out.then K' (fun x hx => by simp at hx; subst hx; right; omega)))
    have HG : Hid (∀ w' (K' : Keep [w1.heap.size] W1 w'), ∀ j, w'.cell? ⟨w.heap.size, j, none⟩ = (#[.slice A ps.length C, .slice K m D] : Array Value)[j]?) := Lib.hid (fun w' K' => (HB.out.keep K' (by simp; omega)).cell)
    go_loopw [7, 8] (fun mv iv wr => ∃ i : Nat, i ≤ ps.length ∧ iv = .int .i64 i ∧ mv = .int .i64 (cntB i (filtN ps)) ∧ Keep [] W1 wr) (fun _ iv _ => ps.length - (intOf iv).toNat)
    case atStart => exact ⟨0, by omega, rfl, rfl, Keep.refl _ _⟩
    case round =>
      obtain ⟨i, hi, rfl, rfl, Kr⟩ := hrel
      have Kt : Keep [w1.heap.size] W1 wr := Keep.mono Kr (by simp)
      have g0 := HG.out wr Kt
      have hcl := cntB_le i (filtN ps)
      by_cases hlt : i < ps.length
      · have hlt' : (i : Int) < (ps.length : Int) := by omega
        have HLT := Lib.hid hlt
        obtain ⟨bp, op, A2, C2, N2, F2, rfl, _, e0, e1, e2, _, _⟩ := (HP1.out wr Kt).pick i hlt
        obtain ⟨hm, hm0, hm1⟩ := HMK.out i hlt
        have HF := Lib.hid (fun u => filtR_any (.slice A2 ps[i].a.length C2) ps[i].marks N2 ps[i].nt.length F2 u (by omega) (by omega))
        have hfb : (hasM ps[i].marks 3 || decide (0 < ps[i].nt.length)) = filtN ps i := by rw [filtN_at hlt]; rfl
        rw [hfb] at HF
        have HCS := Lib.hid (cntB_succ i (filtN ps))
        generalize cntB i (filtN ps) = cn at HCS hcl ⊢
        generalize filtN ps i = fk at HF HCS
        generalize ps[i] = p at e0 e1 e2 HF
        obtain ⟨pa, pm, pn⟩ := p
        simp only at e0 e1 e2 HF
        clear hm hm0 hm1 hfb Kt
        go_wp2_with fail
        refine (HF.out _).mono ?_
        rintro e w2 ⟨rfl, K2⟩
        have K12 := Kr.trans K2
        clear g0 e0 e1 e2 HF Kr K2
        cases fk with
        | false =>
          go_wp2
          go_roundw
          case rel => exact ⟨i + 1, by have := HLT.out; omega, by go_num, by rw [HCS.out]; simp, K12⟩
          case measure => simp [intOf]; have := HLT.out; omega
        | true =>
          go_wp2
          go_roundw
          case rel => exact ⟨i + 1, by have := HLT.out; omega, by go_num, by rw [HCS.out]; simp, K12⟩
          case measure => simp [intOf]; have := HLT.out; omega
      · obtain rfl : i = ps.length := by omega
        obtain ⟨many, hmany⟩ : ∃ many, many = cntB ps.length (filtN ps) := ⟨_, rfl⟩
        rw [← hmany] at hcl ⊢
        have HST : Hid (q0.length = ps.length ∧ Blk wr w1.heap.size (boolC q0) 4 ∧ OwnL IntRow [w1.heap.size] wr W1.heap.size 3 1 (.slice none 0 0) [] ∧ 0 + cntB ps.length (leftS ps q0) = many ∧ (∀ r, OrdRel ps (leftS ps q0) [] r → OrdRel ps (filtN ps) [] r) ∧ Keep [w1.heap.size] W1 wr) := Lib.hid ⟨HQ0.out.2, HBR.out.keep Kr (by simp), OwnL.nil _ _ _ _ _, by rw [HQ0.out.1, hmany]; omega, by rw [HQ0.out.1]; exact fun r h => h, Kt⟩
        clear Kr Kt HQ0 HBR hmany
        go_wp2
        clear g0
        obtain ⟨w4, rfl⟩ : ∃ W : World, W = wr := ⟨_, rfl⟩
        have hps : (ps.length : Int) ≤ 60 := by omega
        go_loopw [5] (fun ov wr => ∃ (th : List Bool) (out : List Int), th.length = ps.length ∧ Blk wr w1.heap.size (boolC th) 4 ∧ OwnL IntRow [w1.heap.size] wr W1.heap.size 3 1 ov out ∧ out.length + cntB ps.length (leftS ps th) = many ∧ Hid (∀ r, OrdRel ps (leftS ps th) out r → OrdRel ps (filtN ps) [] r) ∧ Keep [w1.heap.size] W1 wr) (fun ov _ => many - sliceLen ov)
        case atStart => exact ⟨_, _, HST.out.1, HST.out.2.1, HST.out.2.2.1, by simpa using HST.out.2.2.2.1, Lib.hid HST.out.2.2.2.2.1, HST.out.2.2.2.2.2⟩
        case round =>
          clear HST
          obtain ⟨th, out, hth, BT, hout, hcnt, hord, Kr⟩ := hrel
          obtain ⟨Ao, Co, rfl⟩ := hout.slice
          have g0 := HG.out wr Kr
          have HOUT := Lib.hid hout
          have HBT := Lib.hid BT
          have HTH := Lib.hid hth
          have HCNT := Lib.hid hcnt
          have HKr := Lib.hid Kr
          by_cases hz : out.length < many
          · have hz' : (out.length : Int) < (many : Int) := by omega
            have HZ := Lib.hid hz
            obtain ⟨S, hS⟩ : ∃ S, S = leftS ps th := ⟨_, rfl⟩
            have HS := Lib.hid hS
            have HSL : Hid (∀ n, S n = true → n < ps.length) := Lib.hid (fun n hn => by rw [hS] at hn; exact leftS_lt hn)
            have HN0 : Hid (NextIs ps S ps.length (-1)) := Lib.hid (nextIs_end HSL.out)
            have hou : out.length ≤ 60 := by omega
            generalize hol : out.length = ol at hz hz' hou ⊢
            have HOL := Lib.hid hol
            clear hS hout BT hcnt Kr hol hth
            go_wp2
            clear g0
            obtain ⟨wo, rfl⟩ : ∃ W : World, W = wr := ⟨_, rfl⟩
            have HTC : Hid (∀ w' (K' : Keep [] wo w') k (hk : k < ps.length), w'.cell? ⟨w1.heap.size, k, none⟩ = some (.bool (th.getD k false))) := Lib.hid (fun w' K' k hk => by
              have hk' : k < th.length := by have := HTH.out; omega
              rw [(HBT.out.keep K' (by simp)).cell k, boolC_at _ _ hk']
              simp [hk'])
            go_loopw [10, 11] (fun nv iv wr => ∃ (j : Nat) (z x : Int), j ≤ ps.length ∧ iv = .int .i64 x ∧ x = (j : Int) - 1 ∧ nv = .int .i64 z ∧ Hid (NextIs ps S j z) ∧ Keep [] wo wr) (fun _ iv _ => (intOf iv + 1).toNat)
            case atStart => exact ⟨ps.length, -1, (ps.length : Int) - 1, by omega, by go_num, rfl, rfl, HN0, Keep.refl _ _⟩
            case round =>
              clear HN0
              obtain ⟨j, z, x, hj, rfl, hx, rfl, hnx, K2⟩ := hrel
              have K12 : Keep [w1.heap.size] W1 wr := HKr.out.then K2 (by simp)
              have g0 := HG.out wr K12
              by_cases hj0 : j = 0
              · subst hj0
                obtain rfl : x = -1 := by omega
                clear hx hj
                rcases nextIs_zero hnx.out with ⟨rfl, hno⟩ | ⟨n, rfl, hfr, hle⟩
                · have HR : Hid (OrdRel ps (filtN ps) [] none) := Lib.hid (by
                    obtain ⟨n, hn1, hn2⟩ := cntB_ex (k := ps.length) (f := leftS ps th) (by have := HCNT.out; have := HZ.out; have := HOL.out; omega)
                    exact hord.out _ (OrdRel.stuck hn2 (by rw [← HS.out]; exact hno)))
                  have HKF := Lib.hid (HK.out.then K12 (fun x hx => by simp at hx; subst hx; right; omega))
                  clear hno K2 K12 hnx
                  go_wp2
                  go_ret2
                  exact ⟨ordPost_mk none (fun _ => HR.out) (fun _ => rfl) _ rfl (intC_nil _), HKF.out⟩
                · have hnl : n < ps.length := HSL.out n hfr.1
                  have hnl' : (n : Int) < (ps.length : Int) := by omega
                  have BTr := HBT.out.keep K2 (by simp)
                  have ct := HTC.out wr K2 n hnl
                  have ctf := BTr.frozen n
                  have htl := BTr.lt
                  have HFR := Lib.hid (⟨hfr, hle⟩ : _ ∧ _)
                  have HBTr := Lib.hid BTr
                  have HK2 := Lib.hid K2
                  have HNL := Lib.hid hnl
                  clear BTr hfr hle K2 hnx K12
                  go_wp2_with (at_builtin; refine Hid.out ?_)
                  refine Lib.hid ?_
                  clear g0 ct ctf
                  obtain ⟨w8, hw8⟩ : ∃ W, W = wr.setCell ⟨w1.heap.size, n, none⟩ (.bool true) := ⟨_, rfl⟩
                  have hsz8 : w8.heap.size = wr.heap.size := by rw [hw8]; simp
                  rw [← hw8, ← hsz8]
                  clear hsz8
                  have KS : Keep [w1.heap.size] wr w8 := by rw [hw8]; exact (Keep.refl _ _).setCell (p := ⟨w1.heap.size, n, none⟩) (.inl (by simp)) _
                  have K18 : Keep [w1.heap.size] W1 w8 := (HKr.out.then HK2.out (by simp)).then KS (fun x hx => .inl hx)
                  have KO8 : Keep [w1.heap.size] wo w8 := (Keep.mono HK2.out (by simp)).then KS (fun x hx => .inl hx)
                  have B8 : Blk w8 w1.heap.size (boolC (th.set n true)) 4 := by rw [hw8, ← boolC_set]; exact HBTr.out.set n _
                  have hwz := HSW.out
                  have hbs := HOUT.out.base
                  have hout8 : OwnL IntRow [w1.heap.size] w8 W1.heap.size 3 1 (.slice Ao ol Co) out := by
                    rw [← HOL.out]
                    exact HOUT.out.move intRow_stab KO8 (fun t ht => .inl ⟨ht, fun h => by have := (hbs _ h).1; simp at ht; omega⟩) (fun x hx => .inl hx)
                  have hw18 := K18.size
                  have HO8 := Lib.hid (⟨hout8, B8, K18⟩ : _ ∧ _ ∧ _)
                  have hol9 : out.length = ol := HOL.out
                  have hnb : w1.heap.size ∉ ownB (.slice Ao ol Co) := fun h => by have := (HO8.out.1.base _ h).1; omega
                  clear KS K18 KO8 hout8 B8 hbs hw8 HBTr
                  have KB := (Keep.refl [] w8).alloc (.cells #[.int .i64 n] 3)
                  refine wpList_append_data intRow_stab intRow_one rfl _ _ 32 rfl Tryz.underlying32 hii hi0 hi1 hi2 rfl (by omega) (S := [w1.heap.size]) (base := W1.heap.size) (v := .slice Ao ol Co) (A := some ⟨w8.heap.size, 0, none⟩) (m := 1) (C := 1) (xs := out) (ys := [(n : Int)]) rfl rfl
                    (HO8.out.1.move intRow_stab KB (by simp) (fun x hx => .inl hx)) (one_int (Blk.new' _ _ 3 rfl) (fun hx => by rcases List.mem_append.1 hx with hx | hx; have := (HO8.out.1.base _ hx).2; omega; simp at hx; omega)) (by simp; omega) (by simp; omega) (by simp; omega) ?_
                  intro A9 C9 w9 O9 K9 n9
                  have B9 := (HO8.out.2.1.keep KB (by simp)).keep K9 hnb
                  have K19 : Keep [w1.heap.size] W1 w9 := (HO8.out.2.2.then KB (by simp)).then K9 (fun x hx => .inr (HO8.out.1.base x hx).1)
                  have hSn : leftS ps th n = true := by rw [← HS.out]; exact HFR.out.1.1
                  have hdel := cntB_del ps.length HNL.out hSn
                  have hset := leftS_set HTH.out HNL.out
                  have HCN : Hid ((out ++ [(n : Int)]).length + cntB ps.length (leftS ps (th.set n true)) = many) := Lib.hid (by
                    rw [hset]
                    have := HCNT.out
                    simp
                    omega)
                  have HORD : Hid (∀ r, OrdRel ps (leftS ps (th.set n true)) (out ++ [(n : Int)]) r → OrdRel ps (filtN ps) [] r) := Lib.hid (fun r hr => by
                    rw [hset] at hr
                    refine hord.out r (OrdRel.step (n := n) ?_ ?_ hr)
                    · rw [← HS.out]; exact HFR.out.1
                    · rw [← HS.out]; exact HFR.out.2)
                  have HO9 := Lib.hid (⟨B9, O9, K19⟩ : _ ∧ _ ∧ _)
                  have HL9 : Hid (out.length + [(n : Int)].length = ol + 1) := Lib.hid (by rw [hol9]; rfl)
                  have HT9 : Hid ((th.set n true).length = ps.length) := Lib.hid (by rw [List.length_set]; exact HTH.out)
                  clear O9 K9 n9 KB B9 K19 hSn hdel hset HO8 HFR
                  generalize out.length + [(n : Int)].length = len9 at HO9 HL9 ⊢
                  go_wp2
                  go_roundw
                  case rel => exact ⟨th.set n true, out ++ [(n : Int)], HT9.out, HO9.out.1, HO9.out.2.1, HCN.out, HORD, HO9.out.2.2⟩
                  case measure => simp [sliceLen]; have := HL9.out; have := HZ.out; omega
              · obtain ⟨i, rfl⟩ : ∃ i, j = i + 1 := ⟨j - 1, by omega⟩
                obtain rfl : x = (i : Int) := by omega
                have hlt : i < ps.length := by omega
                have hlt' : (i : Int) < (ps.length : Int) := by omega
                have HLT := Lib.hid hlt
                obtain ⟨bp, op, A2, C2, N2, F2, rfl, _, e0, e1, e2, _, _⟩ := (HP1.out wr K12).pick i hlt
                obtain ⟨hm, hm0, hm1⟩ := HMK.out i hlt
                have HF := Lib.hid (fun u => filtR_any (.slice A2 ps[i].a.length C2) ps[i].marks N2 ps[i].nt.length F2 u (by omega) (by omega))
                have hfb : (hasM ps[i].marks 3 || decide (0 < ps[i].nt.length)) = filtN ps i := by rw [filtN_at hlt]; rfl
                rw [hfb] at HF
                have HFR := Lib.hid (fun u (K' : Keep [w1.heap.size] W1 u) => from11_any [] (some ⟨bp, op, none⟩) K C m D ps i u (HP1.out u K') (by simp))
                have HSI : Hid (S i = (filtN ps i && !th.getD i false)) := Lib.hid (by rw [HS.out]; rfl)
                generalize filtN ps i = fk at HF HSI
                generalize ps[i] = p at e0 e1 e2 HF
                obtain ⟨pa, pm, pn⟩ := p
                simp only at e0 e1 e2 HF
                clear hm hm0 hm1 hfb hj0 hx hj
                go_wp2_with fail
                refine (HF.out _).mono ?_
                rintro e w5 ⟨rfl, K5⟩
                have K25 := K2.trans K5
                have K15 : Keep [w1.heap.size] W1 w5 := K12.then K5 (by simp)
                have g5 := HG.out w5 K15
                clear g0 e0 e1 e2 HF K2 K5 K12
                go_wp2_with fail
                refine (HFR.out _ K15).mono ?_
                rintro e w6 ⟨⟨v, rfl, hv⟩, K6⟩
                rw [fromR_fromF hg HLT.out] at hv
                obtain ⟨rb, F, rfl, _, hcl⟩ := hv.at (by rw [fromF_len]; omega)
                have HCL : Hid (∀ w' (K' : Keep [] w6 w') k (hk : k < ps.length), w'.cell? ⟨rb, k, none⟩ = some (.bool (inN ps i k))) := Lib.hid (fun w' K' k hk => by
                  have h := Keep.cell (T := []) K' (hcl k (by rw [fromF_len]; exact hk)) (by simp)
                  unfold inN
                  rw [List.getD_eq_getElem?_getD, List.getElem?_eq_getElem (by rw [fromF_len]; exact hk)]
                  exact h)
                have hlr : (fromF ps (i : Nat)).length = ps.length := fromF_len ps i
                rw [hlr]
                have K26 := K25.trans K6
                have HK26 := Lib.hid K26
                have g6 := HG.out w6 (K15.then K6 (by simp))
                have c6 := HTC.out w6 K26 i HLT.out
                generalize th.getD i false = tk at c6 HSI
                clear hv hcl hlr K6 g5 HFR K15 K25 K26
                cases fk <;> cases tk
                all_goals
                  have HB0 : Hid (S i = freeB ps S i 0) := Lib.hid (freeB_zero ps S i).symm
                  go_wp2
                  clear g6 c6
                  go_loopw [14, 15] (fun av kv wr => ∃ k : Nat, k ≤ ps.length ∧ kv = .int .i64 k ∧ av = .bool (freeB ps S i k) ∧ Keep [] w6 wr) (fun _ kv _ => ps.length - (intOf kv).toNat)
                  case atStart => exact ⟨0, by omega, rfl, by rw [← HB0.out, HSI.out]; rfl, Keep.refl _ _⟩
                  case round =>
                    clear HB0
                    obtain ⟨k, hk, rfl, rfl, K6⟩ := hrel
                    have K2k := HK26.out.trans K6
                    have K1k : Keep [w1.heap.size] W1 wr := HKr.out.then K2k (by simp)
                    have g0 := HG.out wr K1k
                    by_cases hkl : k < ps.length
                    · have hkl' : (k : Int) < (ps.length : Int) := by omega
                      have HKL := Lib.hid hkl
                      obtain ⟨b', o', A2', C2', N2', F2', he, _, e0, e1, e2, _, _⟩ := (HP1.out wr K1k).pick k hkl
                      simp only [Option.some.injEq, Addr.mk.injEq, and_true] at he
                      obtain ⟨rfl, rfl⟩ := he
                      obtain ⟨hm, hm0, hm1⟩ := HMK.out k hkl
                      have HF := Lib.hid (fun u => filtR_any (.slice A2' ps[k].a.length C2') ps[k].marks N2' ps[k].nt.length F2' u (by omega) (by omega))
                      have hfb : (hasM ps[k].marks 3 || decide (0 < ps[k].nt.length)) = filtN ps k := by rw [filtN_at hkl]; rfl
                      rw [hfb] at HF
                      have HST : Hid (freeB ps S i (k + 1) = (freeB ps S i k && !(inN ps i k && (filtN ps k && !th.getD k false)))) := Lib.hid (by rw [freeB_succ, HS.out]; rfl)
                      have ci := HCL.out wr K6 k hkl
                      have ct := HTC.out wr K2k k hkl
                      generalize freeB ps S i k = b0 at HST ⊢
                      generalize inN ps i k = bk at HST ci
                      generalize filtN ps k = fk at HST HF
                      generalize th.getD k false = tk at HST ct
                      generalize ps[k] = p at e0 e1 e2 HF
                      obtain ⟨pa, pm, pn⟩ := p
                      simp only at e0 e1 e2 HF
                      clear hm hm0 hm1 hfb
                      go_wp2_with fail
                      refine (HF.out _).mono ?_
                      rintro e w7 ⟨rfl, K7⟩
                      have K67 := K6.trans K7
                      have g7 := HG.out w7 (K1k.then K7 (by simp))
                      have ci7 := Keep.cell (T := []) K7 ci (by simp)
                      have ct7 := Keep.cell (T := []) K7 ct (by simp)
                      clear g0 e0 e1 e2 ci ct HF K6 K7 K2k K1k
                      cases bk <;> cases fk <;> cases tk
                      all_goals
                        go_wp2
                        go_roundw
                        case rel => exact ⟨k + 1, by have := HKL.out; omega, by go_num, by rw [HST.out]; simp, K67⟩
                        case measure => simp [intOf]; have := HKL.out; omega
                    · obtain rfl : k = ps.length := by omega
                      have HFL := Lib.hid (freeB_law HSL.out i)
                      generalize freeB ps S i ps.length = b0 at HFL ⊢
                      clear K6 K1k
                      cases b0 with
                      | false =>
                        have HN := Lib.hid (nextIs_skip hnx.out (fun h => by have := HFL.out.2 h; cases this))
                        clear HFL
                        go_wp2
                        go_roundw
                        case rel => exact ⟨i, z, (i : Int) - 1, by have := HLT.out; omega, by go_num, rfl, rfl, HN, K2k⟩
                        case measure => simp [intOf]
                      | true =>
                        have HN := Lib.hid (nextIs_take (HFL.out.1 rfl))
                        clear HFL
                        go_wp2
                        go_roundw
                        case rel => exact ⟨i, (i : Int), (i : Int) - 1, by have := HLT.out; omega, by go_num, rfl, rfl, HN, K2k⟩
                        case measure => simp [intOf]
          · have hS := cntB_none (show cntB ps.length (leftS ps th) = 0 by omega)
            have HR := Lib.hid (hord.out _ (OrdRel.done (fun n => by
              cases h : leftS ps th n with
              | false => rfl
              | true => rw [hS n (leftS_lt h)] at h; cases h)))
            have HI := Lib.hid (IntC.own hout (by omega))
            have HKF := Lib.hid (HK.out.then Kr (fun x hx => by simp at hx; subst hx; right; omega))
            have hd : (many : Int) ≤ (out.length : Int) := by omega
            clear hS BT hout
            go_wp2
            go_ret2
            exact ⟨ordPost_mk (some out) (fun _ => HR.out) (fun h => by rw [hg] at h; cases h) _ rfl HI.out, HKF.out⟩
end Go.Proofs.YtkminfdblimiiaaGreatDoor
