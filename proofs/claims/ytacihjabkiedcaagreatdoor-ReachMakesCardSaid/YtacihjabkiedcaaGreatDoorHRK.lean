/- The law ReachMakes, as its row and its card state it: for every input it answers true and the arguments read as before. -/
import Derived.Test.YtacihjabkiedcaaGreatDoorH38
import Derived.Test.YtacihjabkiedcaaGreatDoorHNM
import Derived.Test.YtacihjabkiedcaaGreatDoorH18
import Derived.Deep.RegionHeld3
import Derived.Deep.DeepCutAuto
import Derived.Test.YtacihjabkiedcaaGreatDoorH19
set_option linter.unusedVariables false
set_option linter.unusedSimpArgs false
namespace Go.Proofs.YtacihjabkiedcaaGreatDoor
open Go Go.RowKit Go.MapKept

set_option maxRecDepth 20000 in
set_option maxHeartbeats 8000000 in
theorem reachMakes_walk (A K : Option Addr) (C m D : Nat) (ps : List ProdS) (w : World) (HP : Prods [] w (.slice A ps.length C) ps) (hmk : m ≤ 9223372036854775807) :
    Calls Tryz.prog 6 #[.agg #[.slice A ps.length C, .slice K m D]] w fun e w' => e = .returned (.bool true) ∧ Keep [] w w' := by
  have K0 := (Keep.refl [] w).alloc (.cells #[.slice A ps.length C, .slice K m D] 25)
  have HP0 : Prods [] _ (.slice A ps.length C) ps := HP.mv0 K0
  have B0 := Blk.new w #[.slice A ps.length C, .slice K m D] 25
  clear HP
  go_enter Tryz.func6, Tryz.ntmps6
  go_wp2_with fail
  refine (awake11_any _).mono ?_
  rintro e w1 ⟨rfl, K1⟩
  have B1 := B0.keep K1 (by simp)
  have b1 := B1.cell
  have HP1 : Prods [] w1 (.slice A ps.length C) ps := HP0.mv0 K1
  go_wp2_with fail
  refine (few2_any [] A K C m D ps _ HP1 hmk).mono ?_
  rintro e w2 ⟨⟨fw, rfl, hfw⟩, K2⟩
  have HFW := Lib.hid hfw
  clear hfw
  have B2 := B1.keep K2 (by simp)
  have b2 := B2.cell
  have HP2 : Prods [] w2 (.slice A ps.length C) ps := HP1.mv0 K2
  have KF2 := (K0.trans K1).trans K2
  clear HP0 HP1 B0 B1 b1
  cases fw with
  | false =>
    go_wp2
    go_ret
    exact ⟨rfl, KF2⟩
  | true =>
    have hc3 := may_any [] (.slice A ps.length C) (.slice K m D) ps _ HP2
    have HC3 := Lib.hid hc3
    clear hc3
    go_wp2_with fail
    refine HC3.out.mono ?_
    rintro e w3 ⟨rfl, K3⟩
    have B3 := B2.keep K3 (by simp)
    have b3 := B3.cell
    have HP3 : Prods [] w3 (.slice A ps.length C) ps := HP2.mv0 K3
    have KF3 := KF2.trans K3
    clear HP2 B2 b2 HC3
    cases hg : gmay ps with
    | false =>
      go_wp2
      go_ret
      exact ⟨rfl, KF3⟩
    | true =>
      obtain ⟨hl0, hl1⟩ := gmay_len hg
      have hsp : SmallG ps := HFW.out (by simp) hg
      have HSB := Lib.hid (somesOK_small (small_big hsp))
      have HGAL := Lib.hid (gmay_alt hg)
      have HPL := Lib.hid (makes_plain hg)
      have HCM := Lib.hid (makesR_any someF [] A K C m D ps w3 HP3 (by simp) (somesOK_small hsp))
      have HBK := Lib.hid B3
      clear hsp HFW
      go_wp2_with fail
      refine HCM.out.mono ?_
      rintro e w4 ⟨⟨v4, rfl, hv4⟩, K4⟩
      have b4 := (HBK.out.keep K4 (by simp)).cell
      have HV4 := Lib.hid hv4
      have HCA := Lib.hid (all_nulls [] A K C m D ps w4 (HP3.mv0 K4) (by simp))
      clear HCM hv4 b3
      go_wp2_with fail
      refine HCA.out.mono ?_
      rintro e w5 ⟨⟨v5, rfl, hv5⟩, K5⟩
      have B5 := HBK.out.keep (K4.trans K5) (by simp)
      have b5 := B5.cell
      have HV5 := Lib.hid hv5
      have HV4' := Lib.hid (bool_later HV4.out K5)
      have HP5 : Prods [] w5 (.slice A ps.length C) ps := HP3.mv0 (K4.trans K5)
      have KF5 := KF3.trans (K4.trans K5)
      clear HCA hv5 HV4 b4 HP3 B3
      obtain ⟨bp, op, _, _, _, _, rfl, -, p0, -, -, -, -⟩ := HP5.pick 0 hl0
      have hbl : bp < w5.heap.size := World.block_lt_of_cell? w5 _ p0
      clear p0
      obtain ⟨ip, hip, hip0, hip1, hip2⟩ := info_parts info_prod2
      obtain ⟨is, his, his0, his1, his2⟩ := info_parts info_sym
      obtain ⟨ia, hia, hia0, hia1, hia2⟩ := info_parts info_alt2
      have hlt5 := B5.lt
      have HB5 := Lib.hid B5
      have HP5' := Lib.hid HP5
      have HKF := Lib.hid KF5
      have HPX := Lib.hid (Prods.mv (S' := [w5.heap.size]) HP5 ((Keep.refl [] w5).alloc (.cells #[.slice (some ⟨bp, op, none⟩) ps.length C, .slice K m D] 25)) (by simp))
      clear HP5 B5 KF5 K4 K5 KF3 KF2 HBK
      go_wp2_with (at_builtin; refine Hid.out ?_)
      refine Lib.hid ?_
      refine wpList_append_new prodRow_stab prodRow_one rfl _ _ 22 rfl Tryz.underlying22 hip hip0 hip1 hip2 rfl (by omega) [w5.heap.size] w5.heap.size (some ⟨bp, op, none⟩) ps.length C rfl rfl HPX.out (by omega) (by omega) (by simp) ?_
      intro AX CX wX hOX hKX hnX
      obtain ⟨g, rfl, hg1, hg2⟩ := hOX.form (by omega)
      have hgg : g = w5.heap.size + 1 := by simpa [ownB, Value.ownBlock] using hnX g (by simp [ownB, Value.ownBlock])
      have K5X : Keep [] w5 wX := ((Keep.refl [] w5).alloc _).trans hKX
      have B3X := HB5.out.keep K5X (by simp)
      have B9X := (Blk.new w5 #[.slice (some ⟨bp, op, none⟩) ps.length C, .slice K m D] 25).keep hKX (by simp)
      have b9 := B9X.cell
      have f9 := B9X.frozen
      have HB3X := Lib.hid B3X
      have HB9X := Lib.hid B9X
      have HOX := Lib.hid hOX
      have HKX := Lib.hid K5X
      have hgx : w5.heap.size + 1 < wX.heap.size := by omega
      have HGG := Lib.hid hgg
      clear B3X B9X hOX hKX hnX hgg hg1 hg2 K5X b5
      go_wp2
      obtain ⟨W7, hW7⟩ : ∃ W, W = wX.setCell ⟨w5.heap.size, 0, none⟩ (.slice (some ⟨g, 0, none⟩) ps.length CX) := ⟨_, rfl⟩
      rw [← hW7]
      clear b9 f9
      have KS7 : Keep [w5.heap.size] wX W7 := by rw [hW7]; exact (Keep.refl _ _).setCell (.inl (by simp)) _
      have B9 : Blk W7 w5.heap.size #[.slice (some ⟨g, 0, none⟩) ps.length CX, .slice K m D] 25 := by rw [hW7]; simpa using HB9X.out.set 0 (.slice (some ⟨g, 0, none⟩) ps.length CX)
      have B3' := HB3X.out.keep KS7 (by simp; omega)
      have OX7 := HOX.out.move prodRow_stab (S' := [w5.heap.size]) KS7 (fun x hx => .inl ⟨hx, by have := HGG.out; simp at hx; simp [ownB, Value.ownBlock]; omega⟩) (fun x hx => .inl hx)
      have K7 : Keep [] w5 W7 := HKX.out.then KS7 (by simp)
      have HB9 := Lib.hid B9
      have HB3 := Lib.hid B3'
      have HK7 := Lib.hid K7
      have HL7 := Lib.hid (by have := HGG.out; have := KS7.size; omega : g < W7.heap.size ∧ w5.heap.size < W7.heap.size ∧ w5.heap.size < g ∧ w.heap.size < w5.heap.size)
      have hst : Hid (OwnL ProdRow [w5.heap.size] W7 w5.heap.size 37 3 (.slice (some ⟨g, 0, none⟩) ps.length CX) (mixF bigP ps 0)) := Lib.hid (by rw [mixF_zero]; exact OX7)
      clear KS7 B9 B3' OX7 K7 hW7 HB3X HB9X HOX HKX HGG HPX hgx
      go_loopw [8] (fun iv wr => ∃ i : Nat, i ≤ ps.length ∧ iv = .int .i64 i ∧ Keep [g] W7 wr ∧ OwnL ProdRow [w5.heap.size] wr w5.heap.size 37 3 (.slice (some ⟨g, 0, none⟩) ps.length CX) (mixF bigP ps i)) (fun iv _ => ps.length - (intOf iv).toNat)
      case atStart => exact ⟨0, by omega, rfl, Keep.refl _ _, hst.out⟩
      case round =>
        clear hst
        obtain ⟨i, hi, rfl, Kr, OXr⟩ := hrel
        have hL7 := HL7.out
        have c9 := (HB9.out.keep Kr (by simp; omega)).cell
        have g0 := (HB3.out.keep Kr (by simp; omega)).cell
        by_cases hil : i < ps.length
        · have hil' : (i : Int) < (ps.length : Int) := by omega
          have HIL := Lib.hid hil
          have hml := mixF_len bigP ps i
          obtain ⟨cur, hcur⟩ := OXr.blk (by omega)
          have hrd : Prods [] wr (.slice (some ⟨g, 0, none⟩) ps.length CX) (mixF bigP ps i) := by
            have h := OXr
            rw [← hml] at h ⊢
            exact h.read prodRow_stab (by simp) (by simp)
          obtain ⟨bg, og, A3, C3, N3, F3, he, -, gc, -, -, -, -⟩ := hrd.pick i (by omega)
          simp only [Option.some.injEq, Addr.mk.injEq, and_true] at he
          obtain ⟨rfl, rfl⟩ := he
          rw [Nat.zero_add] at gc
          have gf := OXr.frozen (by omega) (i * 3)
          have hisz : i * 3 < cur.size := by
            have h := hcur.cell (i * 3)
            rw [gc] at h
            exact (Array.getElem?_eq_some_iff.1 h.symm).1
          generalize (mixF bigP ps i)[i].a.length = gl at gc
          have HOX := Lib.hid OXr
          have HKr := Lib.hid Kr
          have HST : Hid (StA wr g w5.heap.size i cur (((ps[i].a.take 0)).map (List.map bigS)) (wr.setCell ⟨g, i * 3, none⟩ (.slice none 0 0))) := Lib.hid (StA.first hcur)
          have HCU := Lib.hid hcur
          have hgw : g < wr.heap.size ∧ w5.heap.size < wr.heap.size := by have := Kr.size; omega
          have hal8 := (HGAL.out _ (List.getElem_mem hil)).2.1
          clear hrd hcur OXr Kr hml
          go_wp2
          clear c9 g0 gc gf
          obtain ⟨Wi, rfl⟩ : ∃ W : World, W = wr := ⟨_, rfl⟩
          go_loopw [9] (fun kv wr => ∃ k : Nat, k ≤ ps[i].a.length ∧ kv = .int .i64 k ∧ StA Wi g w5.heap.size i cur ((ps[i].a.take k).map (List.map bigS)) wr) (fun kv _ => ps[i].a.length - (intOf kv).toNat)
          case atStart => exact ⟨0, by omega, rfl, HST.out⟩
          case round =>
            clear HST
            obtain ⟨k, hk, rfl, hSt⟩ := hrel
            have HST := Lib.hid hSt
            obtain ⟨v9, Ks, Bs, Os⟩ := hSt
            have Kw7 : Keep [g] W7 wr := HKr.out.then Ks (by simp)
            have K5r : Keep [] w5 wr := HK7.out.then Kw7 (fun x hx => by simp at hx; subst hx; right; omega)
            have c9 := (HB9.out.keep Kw7 (by simp; omega)).cell
            have g0 := (HB3.out.keep Kw7 (by simp; omega)).cell
            have hSn : ∀ b ∈ ownB v9 ++ [g, w5.heap.size], w5.heap.size ≤ b := fun b hb => by
              rcases List.mem_append.1 hb with hb | hb
              · have := (Os.base b hb).1; omega
              · simp at hb; omega
            have HPr : Prods (ownB v9 ++ [g, w5.heap.size]) wr (.slice (some ⟨bp, op, none⟩) ps.length C) ps := SlOf.move HP5'.out prodRow_stab (by omega) K5r (by simp) (fun b hb => .inr (hSn b hb))
            obtain ⟨bp', op', A2, C2, N2, F2, he, -, e0, -, -, hA, -⟩ := HPr.pick i HIL.out
            simp only [Option.some.injEq, Addr.mk.injEq, and_true] at he
            obtain ⟨rfl, rfl⟩ := he
            by_cases hkl : k < ps[i].a.length
            · have hkl' : (k : Int) < (ps[i].a.length : Int) := by omega
              have HKL := Lib.hid hkl
              obtain ⟨b2, o2, A4, C4, rfl, -, f0x, hSx⟩ := Alts.pick hA k hkl
              obtain ⟨al, f0, hS, hal40, HNX⟩ : ∃ al, wr.cell? ⟨b2, o2 + k, none⟩ = some (.slice A4 al.length C4) ∧ Syms (ownB v9 ++ [g, w5.heap.size]) wr (.slice A4 al.length C4) al ∧ al.length ≤ 40 ∧ Hid ((ps[i].a.take (k + 1)).map (List.map bigS) = (ps[i].a.take k).map (List.map bigS) ++ [al.map bigS]) :=
                ⟨_, f0x, hSx, (HGAL.out _ (List.getElem_mem HIL.out)).2.2 _ (List.getElem_mem hkl), Lib.hid (by rw [List.take_add_one, List.getElem?_eq_getElem hkl, List.map_append]; rfl)⟩
              have HOS := Lib.hid (⟨Ks, Bs, Os⟩ : _ ∧ _ ∧ _)
              have HKW := Lib.hid (⟨Kw7, K5r⟩ : _ ∧ _)
              have HSS := Lib.hid hS
              have hbr : ∀ b ∈ ownB v9 ++ [g, w5.heap.size], b < wr.heap.size := fun b hb => by
                rcases List.mem_append.1 hb with hb | hb
                · exact (Os.base b hb).2
                · have := Ks.size; simp at hb; omega
              have HBR := Lib.hid hbr
              have hlen9 : ((ps[i].a.take k).map (List.map bigS)).length ≤ 8 := by simp; omega
              generalize (ps[i].a.take k).map (List.map bigS) = as0 at HST HOS HNX hlen9
              generalize ps[i].a.length = al8 at e0 hkl' ⊢
              clear f0x hSx hS hbr HPr hA hSn Ks Bs Os Kw7 K5r
              go_wp2_with (at_builtin; refine Hid.out ?_)
              refine Lib.hid ?_
              refine wpList_append_new symRow_stab symRow_one rfl _ _ 40 rfl Tryz.underlying40 his his0 his1 his2 rfl (by omega) (ownB v9 ++ [g, w5.heap.size]) wr.heap.size A4 al.length C4 rfl rfl HSS.out (by omega) (by omega) (by simp) ?_
              intro Aa Ca wa hOa hKa hna
              have HT3 : Hid (OwnL SymRow (ownB v9 ++ [g, w5.heap.size]) wa wr.heap.size 39 3 (.slice Aa al.length Ca) (mixF bigS al 0) ∧ Keep [] wr wa) := Lib.hid ⟨by rw [mixF_zero]; exact hOa, hKa⟩
              clear hOa hKa hna c9 g0 e0 f0 HSS
              go_wp2
              obtain ⟨wk, rfl⟩ : ∃ W : World, W = wr := ⟨_, rfl⟩
              go_loopw [11] (fun jv wr => ∃ j : Nat, j ≤ al.length ∧ jv = .int .i64 j ∧ Keep [] wk wr ∧ OwnL SymRow (ownB v9 ++ [g, w5.heap.size]) wr wk.heap.size 39 3 (.slice Aa al.length Ca) (mixF bigS al j)) (fun jv _ => al.length - (intOf jv).toNat)
              case atStart => exact ⟨0, by omega, rfl, HT3.out.2, HT3.out.1⟩
              case round =>
                clear HT3
                obtain ⟨j, hj, rfl, Kj, Oj⟩ := hrel
                by_cases hjl : j < al.length
                · have hjl' : (j : Int) < (al.length : Int) := by omega
                  have HJL := Lib.hid hjl
                  obtain ⟨ga, rfl, ga1, ga2⟩ := Oj.form (by rw [mixF_len]; omega)
                  obtain ⟨sk, A5, r5, C5, s0, s1, ff, hsame, hbig⟩ := mix_row Oj hjl
                  by_cases hk2 : sk = 2
                  · subst hk2
                    have HFN : Hid (OwnL SymRow (ownB v9 ++ [g, w5.heap.size]) wr wk.heap.size 39 3 (.slice (some ⟨ga, 0, none⟩) al.length Ca) (mixF bigS al (j + 1)) ∧ Keep [] wk wr) := Lib.hid ⟨by rw [hsame rfl]; exact Oj, Kj⟩
                    clear s1 ff Oj Kj hsame hbig
                    go_wp2
                    go_roundw
                    case rel => exact ⟨j + 1, by have := HJL.out; omega, by go_num, HFN.out.2, HFN.out.1⟩
                    case measure => simp [intOf]; have := HJL.out; omega
                  · have hkb : (sk != 2) = true := by simpa using hk2
                    have HFN : Hid (OwnL SymRow (ownB v9 ++ [g, w5.heap.size]) ((wr.setCell ⟨ga, j * 3 + 1, none⟩ (.slice (some ⟨wr.heap.size, 0, none⟩) 1 1)).alloc (.cells #[.int .i64 0, .int .i64 255] 42)) wk.heap.size 39 3 (.slice (some ⟨ga, 0, none⟩) al.length Ca) (mixF bigS al (j + 1)) ∧ Keep [] wk ((wr.setCell ⟨ga, j * 3 + 1, none⟩ (.slice (some ⟨wr.heap.size, 0, none⟩) 1 1)).alloc (.cells #[.int .i64 0, .int .i64 255] 42))) := Lib.hid
                      ⟨hbig hk2 _ (fun b hb => by have := HBR.out _ hb; have := Kj.size; omega), (Kj.setCell (p := ⟨ga, j * 3 + 1, none⟩) (.inr ga1) _).alloc _⟩
                    clear Oj Kj hk2 hsame hbig
                    go_wp2
                    go_roundw
                    case rel => exact ⟨j + 1, by have := HJL.out; omega, by go_num, HFN.out.2, HFN.out.1⟩
                    case measure => simp [intOf]; have := HJL.out; omega
                · obtain rfl : j = al.length := by omega
                  rw [mixF_all] at Oj
                  obtain ⟨Ks, Bs, Os⟩ := HOS.out
                  have K7j : Keep [g] W7 wr := HKW.out.1.then Kj (by simp)
                  have hg9 : g ∉ ownB v9 := fun h => by have := (Os.base g h).1; omega
                  have hx9 : w5.heap.size ∉ ownB v9 := fun h => by have := (Os.base _ h).1; omega
                  have Bj := Bs.keep Kj (by simp)
                  have HKP : Hid (∀ w', Keep (ownB v9) wr w' → w'.cell? ⟨w5.heap.size, 0, none⟩ = some (.slice (some ⟨g, 0, none⟩) ps.length CX)) := Lib.hid (fun w' K' => ((HB9.out.keep K7j (by simp; omega)).keep K' hx9).cell 0)
                  have HGC : Hid (∀ w', Keep (ownB v9) wr w' → w'.cell? ⟨g, i * 3, none⟩ = some v9 ∧ w'.frozen? ⟨g, i * 3, none⟩ = false ∧ Blk w' g (cur.setIfInBounds (i * 3) v9) 37) := Lib.hid (fun w' K' => by
                    have B := Bj.keep K' hg9
                    refine ⟨?_, B.frozen _, B⟩
                    rw [B.cell, Array.getElem?_setIfInBounds_self]
                    simp [hisz])
                  have HOJ := Lib.hid (⟨Oj, Kj, Os.move altRow_stab Kj (by simp) (fun x hx => .inl hx), Ks.then Kj (by simp)⟩ : _ ∧ _ ∧ _ ∧ _)
                  have Kd : Keep (ownB v9) wr wr.drew := (Keep.refl _ wr).drew
                  have hgW : g < Wi.heap.size := by omega
                  have hWw : Wi.heap.size ≤ wr.heap.size ∧ wk.heap.size ≤ wr.heap.size := ⟨K7j.size |> fun _ => (Ks.then Kj (by simp) : Keep [g] Wi wr).size, Kj.size⟩
                  have hszb := HBR.out
                  clear Oj Ks Bs Os K7j Bj hszb
                  obtain ⟨wq, rfl⟩ : ∃ W : World, W = wr := ⟨_, rfl⟩
                  have cx := HKP.out _ (Keep.refl _ _)
                  have cxd := HKP.out _ Kd
                  have cx2 := HKP.out _ ((Keep.refl (ownB v9) wq).alloc (.cells #[.slice Aa al.length Ca] 40))
                  have cx3 := HKP.out _ ((Keep.refl (ownB v9) wq).alloc (.cells #[.slice Aa al.length Ca] 40)).drew
                  have eg := (HGC.out wq (Keep.refl _ _)).1
                  have eg1 := (HGC.out _ Kd).1
                  have eg2 := (HGC.out _ ((Keep.refl (ownB v9) wq).alloc (.cells #[.slice Aa al.length Ca] 40))).1
                  have eg3 := (HGC.out _ ((Keep.refl (ownB v9) wq).alloc (.cells #[.slice Aa al.length Ca] 40)).drew).1
                  have HBK := Lib.hid (⟨fun x hx => HBR.out x hx, fun hx => by have := HBR.out _ hx; omega⟩ : (∀ x ∈ ownB v9 ++ [g, w5.heap.size], x < wk.heap.size) ∧ wq.heap.size ∉ ownB v9 ++ [g, w5.heap.size])
                  go_wp2
                  first
                    | (go_region_law
                      (first
                        | (refine step_append_data altRow_stab altRow_one rfl _ _ 34 rfl Tryz.underlying34 hia hia0 hia1 hia2 rfl (by omega) (S := [g, w5.heap.size]) (base := Wi.heap.size) (v := v9) (A := some ⟨wq.heap.size, 0, none⟩) (m := 1) (C := 1) (xs := as0) (ys := [al.map bigS]) rfl rfl (HOJ.out.2.2.1.move altRow_stab (S' := [g, w5.heap.size]) (T := []) (by first | exact ((Keep.refl [] wq).alloc _).drew | exact ((Keep.refl [] wq).drew).alloc _ | exact (Keep.refl [] wq).alloc _ : Keep [] wq _) (by simp) (fun x hx => .inl hx)) (alt_src HOJ.out.1 (by simp) (by first | exact ((Keep.refl [] wq).alloc _).drew | exact ((Keep.refl [] wq).drew).alloc _ | exact (Keep.refl [] wq).alloc _ : Keep [] wq _) HBK.out.1 (by first | exact (Blk.new wq _ 40).drew | exact Blk.new' _ _ 40 (by simp)) HBK.out.2) (by simp; omega) (by simp; omega) (by simp; omega) ?_; intro A9 C9 w9 O9' K9' n9; have O9 := Lib.hid O9'; have Kq9 : Keep (ownB v9) wq w9 := (Keep.mono (S := []) (S' := ownB v9) (by first | exact ((Keep.refl [] wq).alloc _).drew | exact ((Keep.refl [] wq).drew).alloc _ | exact (Keep.refl [] wq).alloc _ : Keep [] wq _) (by simp)).then K9' (fun x hx => .inl hx); clear O9' K9' n9; have cx9 := HKP.out _ Kq9; obtain ⟨eg9, ef9, Bg9⟩ := HGC.out _ Kq9; have HCX : Hid (∀ u, (w9.setCell ⟨g, i * 3, none⟩ u).cell? ⟨w5.heap.size, 0, none⟩ = some (.slice (some ⟨g, 0, none⟩) ps.length CX)) := Lib.hid (fun u => Keep.cell (T := [g]) ((Keep.refl [g] w9).setCell (p := ⟨g, i * 3, none⟩) (.inl (by simp)) u) cx9 (by simp; omega)))))
                    | fail
                  all_goals
                    have HFN : Hid (StA Wi g w5.heap.size i cur (as0 ++ [al.map bigS]) (w9.setCell ⟨g, i * 3, none⟩ (.slice A9 (as0.length + [al.map bigS].length) C9))) := Lib.hid (StA.store (HOJ.out.2.2.2.then Kq9 (fun x hx => .inr (HOJ.out.2.2.1.base x hx).1)) Bg9 hgW O9.out)
                    generalize as0.length + [al.map bigS].length = len9 at HFN ⊢
                    clear Bg9 O9 HCX
                    go_wp2
                    go_roundw
                    case rel => exact ⟨k + 1, by have := HKL.out; omega, by go_num, by rw [HNX.out]; exact HFN.out⟩
                    case measure => simp [intOf]; have := HKL.out; omega
            · obtain rfl : k = ps[i].a.length := by omega
              have HFN : Hid (OwnL ProdRow [w5.heap.size] wr w5.heap.size 37 3 (.slice (some ⟨g, 0, none⟩) ps.length CX) (mixF bigP ps (i + 1)) ∧ Keep [g] W7 wr) := Lib.hid ⟨by
                have h := StA.mix HOX.out HIL.out HCU.out hgw HST.out
                exact h, Kw7⟩
              clear HST Ks Bs Os Kw7 K5r hSn HPr hA
              go_wp2
              go_roundw
              case rel => exact ⟨i + 1, by have := HIL.out; omega, by go_num, HFN.out.2, HFN.out.1⟩
              case measure => simp [intOf]; have := HIL.out; omega
        · obtain rfl : i = ps.length := by omega
          have hbl' := bigG_len ps
          have HPB : Hid (Prods [] wr (.slice (some ⟨g, 0, none⟩) ps.length CX) (bigG ps)) := Lib.hid (by
            have h := OXr
            rw [mixF_all] at h
            have e : ps.map bigP = bigG ps := rfl
            rw [e, ← hbl'] at h
            rw [← hbl']
            exact h.read prodRow_stab (by simp) (by simp))
          have K5r : Keep [] w5 wr := HK7.out.then Kr (fun x hx => by simp at hx; subst hx; right; omega)
          have HV4r := Lib.hid (bool_later HV4'.out K5r)
          have HV5r := Lib.hid (bool_later HV5.out K5r)
          have hcm := makesR_any someF [] (some ⟨g, 0, none⟩) K CX m D (bigG ps) wr (by rw [hbl']; exact HPB.out) (by simp) HSB.out
          rw [hbl'] at hcm
          have HCM := Lib.hid hcm
          have HKR := Lib.hid (HKF.out.trans K5r)
          have HB3r := Lib.hid (HB3.out.keep Kr (by simp; omega))
          clear OXr Kr K5r hcm HPB
          go_wp2_with fail
          refine HCM.out.mono ?_
          rintro e w6 ⟨⟨v6, rfl, hv6⟩, K6⟩
          have h4 := bool_later HV4r.out K6
          have h5 := bool_later HV5r.out K6
          obtain ⟨V4, D4, rfl, hc4, hr4⟩ := h4.cells
          obtain ⟨V5, D5, rfl, hc5, hr5⟩ := h5.cells
          obtain ⟨V6, D6, rfl, hc6, hr6⟩ := hv6.cells
          obtain ⟨⟨hl4, hl5, hl6⟩, hpl⟩ := HPL.out
          obtain ⟨r4, rfl, hs4⟩ := hr4 (by omega)
          obtain ⟨r5, rfl, hs5⟩ := hr5 (by omega)
          obtain ⟨r6, rfl, hs6⟩ := hr6 (by omega)
          have HCE : Hid (∀ q, q < ps.length → ∃ b4 b5 b6, w6.cell? ⟨r4, q, none⟩ = some (.bool b4) ∧ w6.cell? ⟨r5, q, none⟩ = some (.bool b5) ∧ w6.cell? ⟨r6, q, none⟩ = some (.bool b6) ∧ (b5 = true → b4 = true) ∧ (b4 = true → b6 = true)) := Lib.hid (fun q hq => ⟨_, _, _, hs4 q (by omega), hs5 q (by omega), hs6 q (by omega), hpl q (by omega) (by omega) (by omega)⟩)
          have g6 := (HB3r.out.keep K6 (by simp)).cell
          have HKZ := Lib.hid (HKR.out.trans K6)
          rw [hl4, hl5, hl6]
          clear hr4 hr5 hr6 hs4 hs5 hs6 hc4 hc5 hc6 hl4 hl5 hl6 hpl h4 h5 hv6 K6 HCM c9 g0 HV4r HV5r HB3r HKR
          go_wp2
          clear g6
          go_loop [13] (fun qv => ∃ q : Nat, q ≤ ps.length ∧ qv = .int .i64 q) (fun qv => ps.length - (intOf qv).toNat)
          case atStart => exact ⟨0, by omega, rfl⟩
          case round =>
            obtain ⟨q, hq, rfl⟩ := hrel
            by_cases hql : q < ps.length
            · have hql' : (q : Int) < (ps.length : Int) := by omega
              have HQL := Lib.hid hql
              obtain ⟨b4, b5, b6, q4, q5, q6, i1, i2⟩ := HCE.out q hql
              cases b4 <;> cases b5 <;> cases b6
              all_goals
                first
                  | (exfalso; simp at i1 i2; done)
                  | (clear i1 i2
                     go_wp2
                     go_round
                     case rel => exact ⟨q + 1, by have := HQL.out; omega, by go_num⟩
                     case measure => simp [intOf]; have := HQL.out; omega)
            · obtain rfl : q = ps.length := by omega
              go_wp2
              go_ret
              exact ⟨rfl, HKZ.out⟩
end Go.Proofs.YtacihjabkiedcaaGreatDoor
namespace Go.Proofs.YtacihjabkiedcaaGreatDoor.RowRK
open Go.ChangeShapes Go.WideShapes Go.ChangeAt Go.RowKit Go.Joins Go.Deep Go.Proofs.YtacihjabkiedcaaGreatDoor.RowG

def zeroA : Array Value := #[.agg #[.slice none 0 0, .slice none 0 0]]
set_option maxRecDepth 100000 in
theorem laid_met (os : Os) : laidMet Tryz.prog laid2 ((laidWorld os).forCall (fun _ _ => 0) ⟨#[], zeroA, []⟩).memory :=
  laidMet_of_run' 8 (by kernel_rfl) (by kernel_rfl)
theorem reads (os : Os) {H : Type} (enc : TypeId × Value → H) : ∃ places, DataW.whole enc Tryz.prog ((laidWorld os).forCall (fun _ _ => 0) ⟨#[], zeroA, []⟩).memory Tryz.f6.params.toList Rows.reachMakesSpec.vars false zeroA.toList 8 = some ([.agg [.nil, .nil]], [], places) :=
  ⟨[], by kernel_rfl⟩
set_option maxRecDepth 100000 in
set_option maxHeartbeats 1000000 in
theorem contract (H : Type) (enc : TypeId × Value → H) (W : World) (args : Array Value) (ds gs : List (DataW H)) (before : List MemPlace) (base : Nat)
    (hval : ∀ (j : Nat) t v, Tryz.f6.params[j]? = some t → args[j]? = some v → Value.okWide Tryz.prog W .any base t v)
    (hW : DataW.Whole enc Tryz.prog Tryz.f6.params.toList Rows.reachMakesSpec.vars false W args.toList ds gs before) :
    Calls Tryz.prog 6 args W fun e W' => ∃ v, e = .returned v ∧ Rows.reachMakesSpec.post enc Tryz.prog Tryz.f6 false true false false W args v W' := by
  have hW' := hW
  obtain ⟨p, q, hA0, hV, rfl, hfz, hnd⟩ := hW
  have hA : DataW.TrodAll enc Tryz.prog W 0 (fun _ => true) true Tryz.f6.params.toList args.toList ds p := hA0
  rw [Tryz.params6] at hA hval
  obtain ⟨v0, vs0, d0, ds0, p0, q0, hargs, rfl, rfl, h0, r0⟩ := trodAll_cons hA
  obtain ⟨rfl, rfl, rfl⟩ := trodAll_nil r0
  obtain rfl : args = #[v0] := by cases args; simp_all
  obtain ⟨rfl, rfl⟩ := trodVars_none hV
  have k0 := h0
  have lt0 : ∀ x ∈ p0, x.block < W.heap.size := by obtain ⟨m, hm⟩ := k0; exact DataW.trod_lt m _ _ _ hm
  obtain ⟨A0, ps0, C0, K0, m0, D0, rfl, hp0, hm0⟩ := open_gram rfl (hval 0 _ v0 rfl rfl) h0
  clear hA0
  refine (reachMakes_walk A0 K0 C0 m0 D0 ps0 W hp0 hm0).mono fun e W' ⟨he, kp⟩ => ?_
  have bel := kp.below
  subst he
  exact ⟨_, rfl, _, _, _, [], _, [], hW', trodAll_mk1 (shut_bool Tryz.underlying4 _), (trodAll_cons_mk (Below.trod laidOut (by kernel_rfl) (of_decide_eq_true (by kernel_rfl)) k0 bel lt0) trodAll_mk0), rfl, bel.frame _, fun h => by cases h⟩

set_option maxRecDepth 100000 in
theorem lifted (os : Os) (started : os.Started) (H : Type) (enc : TypeId × Value → H) (F : Stop.Interp) :
    ReturnsInHanded {} Tryz.checked os 6 .any ((OpenSpec.ofChange Rows.reachMakesSpec).preRow enc Tryz.prog Tryz.f6 Rows.reachMakesRow.domain false Rows.reachMakesRow.laid) (((OpenSpec.ofChange Rows.reachMakesSpec).at F).post enc Tryz.prog Tryz.f6 false true false false) := by
  obtain ⟨places, hx⟩ := reads os enc
  refine returnsInHanded_of_row (C := Tryz.checked) (s := OpenSpec.ofChange Rows.reachMakesSpec) own started (by kernel_rfl) Tryz.func6
    (witness_row_at (enc := enc) (C := Tryz.checked) false (laidWorld os) zeroA rfl (by kernel_rfl) (by kernel_rfl) (by kernel_rfl)
      (OpenSpec.preRow_of_cond 8 hx (by kernel_rfl) (fun k hk => by cases hk) (by kernel_rfl) (laid_met os))) ?_
  intro W base args ds gs before hval hW _ _ _ _ _ _
  exact contract H enc W args ds gs before base hval hW

theorem said : Rows.ReachMakesSaid :=
  OpenClaim.holds_of_cond 6 Tryz.f6 rfl rfl rfl rfl rfl rfl rfl ⟨rfl, rfl, rfl, rfl, rfl⟩ rfl rfl rfl rfl rfl (by kernel_rfl) Tryz.func6 (by kernel_rfl)
    (of_decide_eq_true (by kernel_rfl)) (by unfold Func.isWrapper; first | (rw [if_pos (by decide +kernel)]; kernel_rfl) | (rw [if_neg (by decide +kernel)]; exact ⟨rfl, rfl⟩))
    (fun os started H enc _ F => by rw [OpenClaim.pre_eq_preRow]; exact lifted os started H enc F)

theorem plain (f : FuncId) (fn : Func) (hf : Tryz.pinned.checked.prog.funcNamed "exegete/exegetelaw11.ReachMakes" = some f) (hfn : Tryz.pinned.checked.prog.funcs[f]? = some fn) :
    true = Tryz.pinned.checked.prog.looks [] ∧ ∀ (j : Nat) t, fn.params[j]? = some t → Tryz.pinned.checked.prog.wantsStandIn t = false := by
  obtain rfl : f = 6 := Option.some.inj ((show Tryz.prog.funcNamed "exegete/exegetelaw11.ReachMakes" = some 6 by kernel_rfl).symm.trans hf) |>.symm
  obtain rfl : fn = Tryz.f6 := (Option.some.inj (Tryz.func6.symm.trans hfn)).symm
  refine ⟨by kernel_rfl, fun j t ht => ?_⟩
  rw [Tryz.params6] at ht
  have hm : t = 25 := by simpa [or_assoc] using Array.mem_of_getElem? ht
  rcases hm with rfl
  exact (show Tryz.prog.wantsStandIn 25 = false by kernel_rfl)

theorem card : Rows.ReachMakesCardSaid :=
  Claim7.holds_tied_plain_at .later [] _ _ _ _ said (fun _ h => by cases h) (by kernel_rfl) (fun _ h => by cases h) reachMakes_row_tie rfl ⟨rfl, rfl⟩ (by kernel_rfl) rfl plain (by kernel_rfl)
end Go.Proofs.YtacihjabkiedcaaGreatDoor.RowRK
namespace Go.Proofs.YtacihjabkiedcaaGreatDoor
/-- The card of the law. -/
theorem reachMakes_card : Rows.ReachMakesCardSaid := RowRK.card
#print axioms reachMakes_card
end Go.Proofs.YtacihjabkiedcaaGreatDoor
