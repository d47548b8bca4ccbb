/- The law RankLess, as its row and its card state it: for every input it answers true and the arguments read as before. -/
import Derived.Test.YtbpidoiellcccaaGreatDoorK35
import Derived.Test.YtbpidoiellcccaaGreatDoorK36
import Derived.Test.YtbpidoiellcccaaGreatDoorK34
import Derived.Test.YtbpidoiellcccaaGreatDoorK25
import Derived.Test.YtbpidoiellcccaaGreatDoorK26
import Derived.Deep.RegionHeld3
import Derived.Deep.RegionLaw
import Derived.Deep.DeepCutAuto
import Derived.Deep.CutBlock
import Derived.Test.YtbpidoiellcccaaGreatDoorK17
set_option linter.unusedVariables false
set_option linter.unusedSimpArgs false
namespace Go.Proofs.YtbpidoiellcccaaGreatDoor
open Go Go.RowKit Go.MapKept

theorem StA.mixB {Wi wr : World} {g x i base C : Nat} {cur : Array Value} {ps : List ProdS} (OX : OwnL ProdRow [x] Wi base 41 3 (.slice (some ⟨g, 0, none⟩) ps.length C) (mixF bytP ps i)) (hi : i < ps.length) (B : Blk Wi g cur 41) (hgx : g < Wi.heap.size ∧ x < Wi.heap.size)
    (h : StA Wi g x i cur ((ps[i].a.take ps[i].a.length).map bytA) wr) : OwnL ProdRow [x] wr base 41 3 (.slice (some ⟨g, 0, none⟩) ps.length C) (mixF bytP ps (i + 1)) := by
  have hml := mixF_len bytP ps i
  have hmg := mixF_get bytP ps i hi (by omega)
  rw [List.take_length] at h
  have h := StA.own hml OX (by omega) B hgx h
  rw [← mixF_set bytP ps i hi]
  have e : bytP ps[i] = ⟨ps[i].a.map bytA, (mixF bytP ps i)[i].marks, (mixF bytP ps i)[i].nt⟩ := by rw [hmg]; rfl
  rw [e]
  exact h
set_option maxRecDepth 20000 in
set_option maxHeartbeats 4000000 in
theorem rankLess_walk (A K : Option Addr) (C m D : Nat) (ps : List ProdS) (i kk : Int) (w : World) (HP : Prods [] w (.slice A ps.length C) ps) (hmk : m ≤ 9223372036854775807) :
    Calls Tryz.prog 7 #[.agg #[.slice A ps.length C, .slice K m D], .int .i64 i, .int .i64 kk] w fun e w' => e = .returned (.bool true) ∧ Keep [] w w' := by
  have hmv : ∀ (x y : Value) (w : World), (Instr.extract (.tuple #[x, y]) 0).run Tryz.prog w = .ok x w := fun _ _ _ => rfl
  have hmv1 : ∀ (x y : Value) (w : World), (Instr.extract (.tuple #[x, y]) 1).run Tryz.prog w = .ok y w := fun _ _ _ => rfl
  have K0 := (Keep.refl [] w).alloc (.cells #[.slice A ps.length C, .slice K m D] 25)
  have HP0 : Prods [] _ (.slice A ps.length C) ps := HP.mv0 K0
  have B0 := Blk.new w #[.slice A ps.length C, .slice K m D] 25
  clear HP
  go_enter Tryz.func7, Tryz.ntmps7
  go_wp2_with fail
  refine (awakeR_any _).mono ?_
  rintro e w1 ⟨rfl, K1⟩
  have B1 := B0.keep K1 (by simp)
  have b1 := B1.cell
  have HP1 : Prods [] w1 (.slice A ps.length C) ps := HP0.mv0 K1
  go_wp2_with fail
  refine (few_any [] A K C m D ps _ HP1 hmk).mono ?_
  rintro e w2 ⟨⟨fw, rfl⟩, K2⟩
  have B2 := B1.keep K2 (by simp)
  have b2 := B2.cell
  have HP2 : Prods [] w2 (.slice A ps.length C) ps := HP1.mv0 K2
  have KF2 := (K0.trans K1).trans K2
  clear HP0 HP1 B0 B1 b1
  cases fw with
  | false =>
    go_wp2
    go_ret
    exact ⟨rfl, KF2⟩
  | true =>
    have hc3 := may_any [] (.slice A ps.length C) (.slice K m D) ps _ HP2
    have HC3 := Lib.hid hc3
    clear hc3
    go_wp2_with fail
    refine HC3.out.mono ?_
    rintro e w3 ⟨rfl, K3⟩
    have B3 := B2.keep K3 (by simp)
    have b3 := B3.cell
    have HP3 : Prods [] w3 (.slice A ps.length C) ps := HP2.mv0 K3
    have KF3 := KF2.trans K3
    clear HP2 B2 b2 HC3
    cases hg : gmay ps with
    | false =>
      go_wp2
      go_ret
      exact ⟨rfl, KF3⟩
    | true =>
      by_cases hi0 : i < 0
      · clear HP3
        go_wp2
        go_ret
        exact ⟨rfl, KF3⟩
      · by_cases hi1 : (ps.length : Int) ≤ i
        · have hi0' : 0 ≤ i := by omega
          clear HP3 hi0
          go_wp2
          go_ret
          exact ⟨rfl, KF3⟩
        · obtain ⟨n, rfl⟩ : ∃ n : Nat, i = n := ⟨i.toNat, by omega⟩
          have hn : n < ps.length := by omega
          have hn' : (n : Int) < (ps.length : Int) := by omega
          have hd0 : decide ((n : Int) < 0) = false := by simp
          have hd1 : decide (ps.length ≤ n) = false := by simp; omega
          clear hi0 hi1
          obtain ⟨bp, op, A2, C2, N2, F2, rfl, _, p0, _, _, hAl, _⟩ := HP3.pick n hn
          have HAl := Lib.hid hAl
          clear hAl
          by_cases hk0 : kk < 0
          · clear HP3
            go_wp2
            go_ret
            exact ⟨rfl, KF3⟩
          · by_cases hk1 : (ps[n].a.length : Int) ≤ kk
            · have hk0' : 0 ≤ kk := by omega
              clear HP3 hk0
              go_wp2
              go_ret
              exact ⟨rfl, KF3⟩
            · obtain ⟨kd, rfl⟩ : ∃ kd : Nat, kk = kd := ⟨kk.toNat, by omega⟩
              have hkd : kd < ps[n].a.length := by omega
              have hkd' : (kd : Int) < (ps[n].a.length : Int) := by omega
              have he0 : decide ((kd : Int) < 0) = false := by simp
              have he1 : decide (ps[n].a.length ≤ kd) = false := by simp; omega
              clear hk0 hk1
              obtain ⟨hl0, hl1⟩ := gmay_len hg
              have HGAL := Lib.hid (gmay_alt hg)
              obtain ⟨ip, hip, hip0, hip1, hip2⟩ := info_parts info_prod2
              obtain ⟨is, his, his0, his1, his2⟩ := info_parts info_sym
              obtain ⟨ia, hia, hia0, hia1, hia2⟩ := info_parts info_alt2
              have hbl : bp < w3.heap.size := World.block_lt_of_cell? w3 _ p0
              have hlt5 := B3.lt
              have HB5 := Lib.hid B3
              have HP5' := Lib.hid HP3
              have HKF := Lib.hid KF3
              have HG := Lib.hid hg
              have HPX := Lib.hid (Prods.mv (S' := [w3.heap.size]) HP3 ((Keep.refl [] w3).alloc (.cells #[.slice (some ⟨bp, op, none⟩) ps.length C, .slice K m D] 25)) (by simp))
              have HP0' := Lib.hid p0
              clear HP3 B3 KF3 KF2 hg K2 K3 K1 K0
              go_wp2_with (at_builtin; refine Hid.out ?_)
              refine Lib.hid ?_
              refine wpList_append_new prodRow_stab prodRow_one rfl _ _ 22 rfl Tryz.underlying22 hip hip0 hip1 hip2 rfl (by omega) [w3.heap.size] w3.heap.size (some ⟨bp, op, none⟩) ps.length C rfl rfl HPX.out (by omega) (by omega) (by simp) ?_
              intro AX CX wX hOX hKX hnX
              obtain ⟨g, rfl, hg1, hg2⟩ := hOX.form (by omega)
              have hgg : g = w3.heap.size + 1 := by simpa [ownB, Value.ownBlock] using hnX g (by simp [ownB, Value.ownBlock])
              have K5X : Keep [] w3 wX := ((Keep.refl [] w3).alloc _).trans hKX
              have B3X := HB5.out.keep K5X (by simp)
              have B9X := (Blk.new w3 #[.slice (some ⟨bp, op, none⟩) ps.length C, .slice K m D] 25).keep hKX (by simp)
              have b9 := B9X.cell
              have f9 := B9X.frozen
              have HB3X := Lib.hid B3X
              have HB9X := Lib.hid B9X
              have HOX := Lib.hid hOX
              have HKX := Lib.hid K5X
              have hgx : w3.heap.size + 1 < wX.heap.size := by omega
              have HGG := Lib.hid hgg
              clear B3X B9X hOX hKX hnX hgg hg1 hg2 K5X b3 p0
              go_wp2
              obtain ⟨W7, hW7⟩ : ∃ W, W = wX.setCell ⟨w3.heap.size, 0, none⟩ (.slice (some ⟨g, 0, none⟩) ps.length CX) := ⟨_, rfl⟩
              rw [← hW7]
              clear b9 f9
              have KS7 : Keep [w3.heap.size] wX W7 := by rw [hW7]; exact (Keep.refl _ _).setCell (.inl (by simp)) _
              have B9 : Blk W7 w3.heap.size #[.slice (some ⟨g, 0, none⟩) ps.length CX, .slice K m D] 25 := by rw [hW7]; simpa using HB9X.out.set 0 (.slice (some ⟨g, 0, none⟩) ps.length CX)
              have B3' := HB3X.out.keep KS7 (by simp; omega)
              have OX7 := HOX.out.move prodRow_stab (S' := [w3.heap.size]) KS7 (fun x hx => .inl ⟨hx, by have := HGG.out; simp at hx; simp [ownB, Value.ownBlock]; omega⟩) (fun x hx => .inl hx)
              have K7 : Keep [] w3 W7 := HKX.out.then KS7 (by simp)
              have HB9 := Lib.hid B9
              have HB3 := Lib.hid B3'
              have HK7 := Lib.hid K7
              have HL7 := Lib.hid (by have := HGG.out; have := KS7.size; omega : g < W7.heap.size ∧ w3.heap.size < W7.heap.size ∧ w3.heap.size < g ∧ w.heap.size < w3.heap.size)
              have hst : Hid (OwnL ProdRow [w3.heap.size] W7 w3.heap.size 41 3 (.slice (some ⟨g, 0, none⟩) ps.length CX) (mixF bytP ps 0)) := Lib.hid (by rw [mixF_zero]; exact OX7)
              clear KS7 B9 B3' OX7 K7 hW7 HB3X HB9X HOX HKX HGG HPX hgx
              go_loopw [10] (fun iv wr => ∃ i : Nat, i ≤ ps.length ∧ iv = .int .i64 i ∧ Keep [g] W7 wr ∧ OwnL ProdRow [w3.heap.size] wr w3.heap.size 41 3 (.slice (some ⟨g, 0, none⟩) ps.length CX) (mixF bytP ps i)) (fun iv _ => ps.length - (intOf iv).toNat)
              case atStart => exact ⟨0, by omega, rfl, Keep.refl _ _, hst.out⟩
              case round =>
                clear hst
                obtain ⟨i, hi, rfl, Kr, OXr⟩ := hrel
                have hL7 := HL7.out
                have c9 := (HB9.out.keep Kr (by simp; omega)).cell
                have g0 := (HB3.out.keep Kr (by simp; omega)).cell
                by_cases hil : i < ps.length
                · have hil' : (i : Int) < (ps.length : Int) := by omega
                  have HIL := Lib.hid hil
                  have hml := mixF_len bytP ps i
                  obtain ⟨cur, hcur⟩ := OXr.blk (by omega)
                  have hrd : Prods [] wr (.slice (some ⟨g, 0, none⟩) ps.length CX) (mixF bytP ps i) := by
                    have h := OXr
                    rw [← hml] at h ⊢
                    exact h.read prodRow_stab (by simp) (by simp)
                  obtain ⟨bg, og, A3, C3, N3, F3, he, -, gc, -, -, -, -⟩ := hrd.pick i (by omega)
                  simp only [Option.some.injEq, Addr.mk.injEq, and_true] at he
                  obtain ⟨rfl, rfl⟩ := he
                  rw [Nat.zero_add] at gc
                  have gf := OXr.frozen (by omega) (i * 3)
                  have hisz : i * 3 < cur.size := by
                    have h := hcur.cell (i * 3)
                    rw [gc] at h
                    exact (Array.getElem?_eq_some_iff.1 h.symm).1
                  generalize (mixF bytP ps i)[i].a.length = gl at gc
                  have HOX := Lib.hid OXr
                  have HKr := Lib.hid Kr
                  have HST : Hid (StA wr g w3.heap.size i cur ((ps[i].a.take 0).map bytA) (wr.setCell ⟨g, i * 3, none⟩ (.slice none 0 0))) := Lib.hid (StA.first hcur)
                  have HCU := Lib.hid hcur
                  have hgw : g < wr.heap.size ∧ w3.heap.size < wr.heap.size := by have := Kr.size; omega
                  have hal8 := (HGAL.out _ (List.getElem_mem hil)).2.1
                  clear hrd hcur OXr Kr hml
                  go_wp2
                  clear c9 g0 gc gf
                  obtain ⟨Wi, rfl⟩ : ∃ W : World, W = wr := ⟨_, rfl⟩
                  go_loopw [11] (fun kv wr => ∃ k : Nat, k ≤ ps[i].a.length ∧ kv = .int .i64 k ∧ StA Wi g w3.heap.size i cur ((ps[i].a.take k).map bytA) wr) (fun kv _ => ps[i].a.length - (intOf kv).toNat)
                  case atStart => exact ⟨0, by omega, rfl, HST.out⟩
                  case round =>
                    clear HST
                    obtain ⟨k, hk, rfl, hSt⟩ := hrel
                    have HST := Lib.hid hSt
                    obtain ⟨v9, Ks, Bs, Os⟩ := hSt
                    have Kw7 : Keep [g] W7 wr := HKr.out.then Ks (by simp)
                    have K5r : Keep [] w3 wr := HK7.out.then Kw7 (fun x hx => by simp at hx; subst hx; right; omega)
                    have c9 := (HB9.out.keep Kw7 (by simp; omega)).cell
                    have g0 := (HB3.out.keep Kw7 (by simp; omega)).cell
                    have hSn : ∀ b ∈ ownB v9 ++ [g, w3.heap.size], w3.heap.size ≤ b := fun b hb => by
                      rcases List.mem_append.1 hb with hb | hb
                      · have := (Os.base b hb).1; omega
                      · simp at hb; omega
                    have HPr : Prods (ownB v9 ++ [g, w3.heap.size]) wr (.slice (some ⟨bp, op, none⟩) ps.length C) ps := SlOf.move HP5'.out prodRow_stab (by omega) K5r (by simp) (fun b hb => .inr (hSn b hb))
                    obtain ⟨bp', op', A4', C4', N4', F4', he, -, e0, -, -, hA, -⟩ := HPr.pick i HIL.out
                    simp only [Option.some.injEq, Addr.mk.injEq, and_true] at he
                    obtain ⟨rfl, rfl⟩ := he
                    by_cases hkl : k < ps[i].a.length
                    · have hkl' : (k : Int) < (ps[i].a.length : Int) := by omega
                      have HKL := Lib.hid hkl
                      obtain ⟨b2, o2, A4, C4, rfl, hb2S, f0x, hSx⟩ := Alts.pick hA k hkl
                      obtain ⟨al, f0, hS, hal40, HNX⟩ : ∃ al, wr.cell? ⟨b2, o2 + k, none⟩ = some (.slice A4 al.length C4) ∧ Syms (ownB v9 ++ [g, w3.heap.size]) wr (.slice A4 al.length C4) al ∧ al.length ≤ 40 ∧ Hid ((ps[i].a.take (k + 1)).map bytA = (ps[i].a.take k).map bytA ++ [bytA al]) :=
                        ⟨_, f0x, hSx, (HGAL.out _ (List.getElem_mem HIL.out)).2.2 _ (List.getElem_mem hkl), Lib.hid (by rw [List.take_add_one, List.getElem?_eq_getElem hkl, List.map_append]; rfl)⟩
                      have hbr : ∀ b ∈ ownB v9 ++ [g, w3.heap.size], b < wr.heap.size := fun b hb => by
                        rcases List.mem_append.1 hb with hb | hb
                        · exact (Os.base b hb).2
                        · have := Ks.size; simp at hb; omega
                      have hlen9 : ((ps[i].a.take k).map bytA).length ≤ 8 := by simp; omega
                      have Bj := Bs
                      have hb29 : b2 ∉ ownB v9 := fun h => hb2S (List.mem_append.2 (.inl h))
                      have hbp9 : bp ∉ ownB v9 := fun h => by have := (Os.base bp h).1; omega
                      clear hb2S
                      have hg9 : g ∉ ownB v9 := fun h => by have := (Os.base g h).1; omega
                      have hx9 : w3.heap.size ∉ ownB v9 := fun h => by have := (Os.base _ h).1; omega
                      have eg : wr.cell? ⟨g, i * 3, none⟩ = some v9 := by
                        rw [Bs.cell, Array.getElem?_setIfInBounds_self]
                        simp [hisz]
                      have eF : ∀ (o : Obj), (wr.alloc o).cell? ⟨g, i * 3, none⟩ = some v9 := fun o => Keep.cell ((Keep.refl [] wr).alloc o) eg (by simp)
                      have y0 := c9 0
                      have yF : ∀ (o : Obj), (wr.alloc o).cell? ⟨w3.heap.size, 0, none⟩ = some (.slice (some ⟨g, 0, none⟩) ps.length CX) := fun o => Keep.cell ((Keep.refl [] wr).alloc o) y0 (by simp)
                      have gx0 := g0 0
                      have gF : ∀ (o : Obj), (wr.alloc o).cell? ⟨w.heap.size, 0, none⟩ = some (.slice (some ⟨bp, op, none⟩) ps.length C) := fun o => Keep.cell ((Keep.refl [] wr).alloc o) gx0 (by simp)
                      have e0F : ∀ (o : Obj), (wr.alloc o).cell? ⟨bp, op + i * 3, none⟩ = some (.slice (some ⟨b2, o2, none⟩) ps[i].a.length C4') := fun o => Keep.cell ((Keep.refl [] wr).alloc o) e0 (by simp)
                      have f0F : ∀ (o : Obj), (wr.alloc o).cell? ⟨b2, o2 + k, none⟩ = some (.slice A4 al.length C4) := fun o => Keep.cell ((Keep.refl [] wr).alloc o) f0 (by simp)
                      have KA : ∀ o : Obj, Keep [] wr (wr.alloc o) := fun o => (Keep.refl [] wr).alloc o
                      have hWi : Wi.heap.size ≤ wr.heap.size := Ks.size
                      have hgW : g < Wi.heap.size := by omega
                      have HOS := Lib.hid (⟨Ks, Bs, Os, hbr, hS, HB9.out.keep Kw7 (by simp; omega)⟩ : _ ∧ _ ∧ _ ∧ _ ∧ _ ∧ _)
                      generalize (ps[i].a.take k).map bytA = as0 at HST HOS HNX hlen9
                      generalize ps[i].a.length = al8 at e0 hkl' e0F ⊢
                      clear f0x hSx hS hbr HPr hA hSn Ks Bs Os Kw7 K5r c9 g0 Bj HST
                      go_upto_block 3 with fail
                      go_cut [] from 89 to 113 (fun wx => StA Wi g w3.heap.size i cur (as0 ++ [bytA al]) wx)
                      case first =>
                        clear eF yF gF e0F f0F KA y0 eg
                        go_upto_region 14 with fail
                        have hGb9 : w.heap.size < Wi.heap.size := by omega
                        have hY9 : w3.heap.size < Wi.heap.size := by omega
                        refine less_region gx0 e0 f0 HOS.out.2.2.2.2.2 HOS.out.2.1 hisz HOS.out.1 HOS.out.2.2.1 HOS.out.2.2.2.2.1 hal40 hlen9 hgW hY9 hGb9 hbp9 hb29 HIL.out (by omega) (fun _ _ _ _ _ h => h) ?_
                        intro w' hSt t89 t90 t91 t92 t93 t94 t95 t96 t97 t98 t99 t100 t101 t102 t103 t104 t105 t106 t107 t108 t109 t110 t111 t112 t113
                        go_wp2_with fail
                        go_meet
                        exact hSt
                      case rest =>
                        have HFN := Lib.hid hcut
                        clear hcut eg eF y0 yF gx0 gF e0 e0F f0 f0F hb29 hbp9
                        go_wp2
                        go_roundw
                        case rel => exact ⟨k + 1, by have := HKL.out; omega, by go_num, by rw [HNX.out]; exact HFN.out⟩
                        case measure => simp [intOf]; have := HKL.out; omega
                    · obtain rfl : k = ps[i].a.length := by omega
                      have HFN : Hid (OwnL ProdRow [w3.heap.size] wr w3.heap.size 41 3 (.slice (some ⟨g, 0, none⟩) ps.length CX) (mixF bytP ps (i + 1)) ∧ Keep [g] W7 wr) := Lib.hid ⟨StA.mixB HOX.out HIL.out HCU.out hgw HST.out, Kw7⟩
                      clear HST Ks Bs Os Kw7 K5r hSn HPr hA
                      go_wp2
                      go_roundw
                      case rel => exact ⟨i + 1, by have := HIL.out; omega, by go_num, HFN.out.2, HFN.out.1⟩
                      case measure => simp [intOf]; have := HIL.out; omega
                · obtain rfl : i = ps.length := by omega
                  have hql : (ps.map bytP).length = ps.length := by simp
                  have HPB : Hid (Prods [] wr (.slice (some ⟨g, 0, none⟩) ps.length CX) (ps.map bytP)) := Lib.hid (by
                    have h := OXr
                    rw [mixF_all] at h
                    rw [← hql] at h
                    rw [← hql]
                    exact h.read prodRow_stab (by simp) (by simp))
                  have K5r : Keep [] w3 wr := HK7.out.then Kr (fun x hx => by simp at hx; subst hx; right; omega)
                  have HO : Hid (Calls Tryz.prog 11 #[.agg #[.slice (some ⟨g, 0, none⟩) ps.length CX, .slice K m D]] wr fun e w' => (∃ v r b, e = .returned (.tuple #[v, .bool b]) ∧ NumV w' wr.heap.size v r ∧ OrdIs (ps.map bytP) r b) ∧ Keep [] wr w') := Lib.hid (by
                    have h := orderR_rank (some ⟨g, 0, none⟩) K CX m D (ps.map bytP) wr (by rw [hql]; exact HPB.out)
                    rwa [hql] at h)
                  have HKR := Lib.hid (⟨Kr, K5r⟩ : _ ∧ _)
                  have HQL := Lib.hid hql
                  clear hql OXr Kr K5r
                  go_wp2_with fail
                  refine HO.out.mono ?_
                  rintro e w4 ⟨⟨v, r, b, rfl, NV, hO⟩, K4⟩
                  obtain ⟨Ar, Cr, rfl⟩ := NV.slice
                  have hrl := hO.len
                  obtain ⟨hbe, hpl⟩ := byt_plain hO
                  have HM := Lib.hid (may_any [] (.slice (some ⟨g, 0, none⟩) ps.length CX) (.slice K m D) (ps.map bytP) w4 (HPB.out.mv0 K4))
                  subst hbe
                  generalize gmay (ps.map bytP) = gq at HM ⊢
                  have HN4 := Lib.hid (⟨NV, hpl, K4⟩ : _ ∧ _ ∧ _)
                  clear NV hpl hO c9 g0 HO HPB
                  go_wp2
                  go_loopw [14] (fun jv wx => ∃ j : Nat, j ≤ r.length ∧ jv = .int .i64 j ∧ wx = w4) (fun jv _ => r.length - (intOf jv).toNat)
                  case atStart => exact ⟨0, by omega, rfl, rfl⟩
                  case round =>
                    obtain ⟨j, hj, rfl, hwx⟩ := hrel
                    subst hwx
                    by_cases hjr : j < r.length
                    · obtain ⟨gr, Cr2, e, _, _, _, _, _, hc⟩ := HN4.out.1.at (by omega)
                      simp only [Value.slice.injEq] at e
                      obtain ⟨rfl, -, rfl⟩ := e
                      have c0 := hc j hjr
                      rw [HN4.out.2.1 j hjr] at c0
                      have hjr' : (j : Int) < (r.length : Int) := by omega
                      have HJ := Lib.hid hjr
                      clear hc
                      go_wp2
                      go_roundw
                      case rel => exact ⟨j + 1, by have := HJ.out; omega, by go_num, by first | rfl | trivial⟩
                      case measure => simp [intOf]; have := HJ.out; omega
                    · obtain rfl : j = r.length := by omega
                      have hL7 := HL7.out
                      have K4 := HN4.out.2.2
                      have c9 := (HB9.out.keep (HKR.out.1.trans (K4.mono (by simp))) (by simp; omega)).cell
                      have HK4 := Lib.hid (HKR.out.2.trans K4)
                      clear K4
                      go_wp2_with fail
                      refine HM.out.mono ?_
                      rintro e w5 ⟨rfl, K5⟩
                      have K35 : Keep [] w3 w5 := HK4.out.trans K5
                      have B5 := HB5.out.keep K35 (by simp)
                      have b5 := B5.cell
                      have p5 := K35.cell HP0'.out (by simp)
                      have hlt55 := B5.lt
                      have HB55 := Lib.hid B5
                      have HK5 := Lib.hid K35
                      have hB9 := HB9.out
                      by_cases hone : ps[n].a.length = 1
                      · have hl1' : (ps[n].a.length : Int) = 1 := by omega
                        clear K5 HM c9 B5 K35
                        go_wp2
                        go_ret
                        exact ⟨rfl, HKF.out.trans HK5.out⟩
                      · have hl1' : ¬ (ps[n].a.length : Int) = 1 := by omega
                        have HPX2 := Lib.hid (Prods.mv (S' := [w5.heap.size]) (HP5'.out.mv0 K35) ((Keep.refl [] w5).alloc (.cells #[.slice (some ⟨bp, op, none⟩) ps.length C, .slice K m D] 25)) (by simp))
                        clear K5 HM c9 B5 K35
                        go_wp2_with (at_builtin; refine Hid.out ?_)
                        refine Lib.hid ?_
                        refine wpList_append_new prodRow_stab prodRow_one rfl _ _ 22 rfl Tryz.underlying22 hip hip0 hip1 hip2 rfl (by omega) [w5.heap.size] w5.heap.size (some ⟨bp, op, none⟩) ps.length C rfl rfl HPX2.out (by omega) (by omega) (by simp) ?_
                        intro AY CY wY hOY hKY hnY
                        obtain ⟨g2, rfl, hg3, hg4⟩ := hOY.form (by omega)
                        have hgg2 : g2 = w5.heap.size + 1 := by simpa [ownB, Value.ownBlock] using hnY g2 (by simp [ownB, Value.ownBlock])
                        have K5Y : Keep [] w5 wY := ((Keep.refl [] w5).alloc _).trans hKY
                        have BXY := (Blk.new w5 #[.slice (some ⟨bp, op, none⟩) ps.length C, .slice K m D] 25).keep hKY (by simp)
                        have bx9 := BXY.cell
                        have fx9 := BXY.frozen
                        have HBXY := Lib.hid BXY
                        have HOY := Lib.hid hOY
                        have HKY := Lib.hid K5Y
                        have HGG2 := Lib.hid (by have := K5Y.size; have := BXY.lt; omega : g2 = w5.heap.size + 1 ∧ g2 < wY.heap.size ∧ w5.heap.size < wY.heap.size)
                        clear BXY hOY hKY hnY hgg2 hg3 hg4 K5Y b5 p5
                        go_upto_region 27 with fail
                        obtain ⟨W8, hW8⟩ : ∃ W, W = wY.setCell ⟨w5.heap.size, 0, none⟩ (.slice (some ⟨g2, 0, none⟩) ps.length CY) := ⟨_, rfl⟩
                        rw [← hW8]
                        have hG2 := HGG2.out
                        have KS8 : Keep [w5.heap.size] wY W8 := by rw [hW8]; exact (Keep.refl _ _).setCell (.inl (by simp)) _
                        have BX8 : Blk W8 w5.heap.size #[.slice (some ⟨g2, 0, none⟩) ps.length CY, .slice K m D] 25 := by rw [hW8]; simpa using HBXY.out.set 0 (.slice (some ⟨g2, 0, none⟩) ps.length CY)
                        have OX8 := HOY.out.move prodRow_stab (S' := [w5.heap.size]) KS8 (fun x hx => .inl ⟨hx, by simp at hx; simp [ownB, Value.ownBlock]; omega⟩) (fun x hx => .inl hx)
                        have K58 : Keep [] w5 W8 := HKY.out.then KS8 (by simp)
                        have K38 : Keep [] w3 W8 := HK5.out.trans K58
                        have BG8 := HB55.out.keep K58 (by simp)
                        obtain ⟨b2, o2, A6, C6, rfl, -, -, -⟩ := Alts.pick HAl.out kd hkd
                        have hA8 : Alts [g2, w5.heap.size] W8 (.slice (some ⟨b2, o2, none⟩) ps[n].a.length C2) ps[n].a := SlOf.move HAl.out altRow_stab (by omega) K38 (by simp) (fun x hx => .inr (by have := HK5.out.size; simp at hx; omega))
                        have e8 := K38.cell HP0'.out (by simp)
                        have hC2 : ps[n].a.length ≤ C2 := (SlOf.len HAl.out).2.2
                        have hrd8 : Prods [] W8 (.slice (some ⟨g2, 0, none⟩) ps.length CY) ps := OX8.read prodRow_stab (by simp) (by simp)
                        obtain ⟨bg8, og8, A3, C3, N3, F3, he, -, gc8, -, -, -, -⟩ := hrd8.pick n hn
                        simp only [Option.some.injEq, Addr.mk.injEq, and_true] at he
                        obtain ⟨rfl, rfl⟩ := he
                        rw [Nat.zero_add] at gc8
                        have hgX8 : g2 < W8.heap.size ∧ w5.heap.size < W8.heap.size := by have := KS8.size; omega
                        have H8 := (HGAL.out _ (List.getElem_mem hn)).2.1
                        have HX8 := Lib.hid (⟨BX8, K38, BG8⟩ : _ ∧ _ ∧ _)
                        have x8 := BX8.cell 0
                        have g8 := BG8.cell 0
                        refine less_cut x8 g8 e8 gc8 rfl hA8 OX8 hn hkd H8 hl1 hgX8 hC2 (fun _ _ _ _ _ h => h) ?_
                        clear x8 g8 e8 gc8 hA8 OX8 hrd8 BX8 BG8 K58 K38 KS8 hW8 bx9 fx9
                        intro w6 hAI t148 t149 t150 t151 t152 t153 t154 t155 t156 t157 t158 t159 t160 t161 t162 t163 t164 t165 t166 t167 t168 t169 t170 t171
                        obtain ⟨KA8, p8, hp8, OXA⟩ := hAI
                        rw [List.getElem?_eq_getElem hn] at hp8
                        obtain rfl := Option.some.inj hp8
                        rw [← lessP_eq ps n kd hn] at OXA
                        have hll := lessP_len ps n kd hn
                        have HPL : Hid (Prods [] w6 (.slice (some ⟨g2, 0, none⟩) ps.length CY) (lessP ps n kd)) := Lib.hid (by
                          rw [← hll] at OXA
                          rw [← hll]
                          exact OXA.read prodRow_stab (by simp) (by simp))
                        have K36 : Keep [] w3 w6 := HX8.out.2.1.then KA8 (fun x hx => by have := HK5.out.size; simp at hx; subst hx; right; omega)
                        have bG := (HX8.out.2.2.keep KA8 (by simp; omega)).cell
                        have BX6 := HX8.out.1.keep KA8 (by simp; omega)
                        have HBX6 := Lib.hid BX6
                        have HO1 := Lib.hid (orderR_rank (some ⟨bp, op, none⟩) K C m D ps w6 (HP5'.out.mv0 K36))
                        have HK36 := Lib.hid K36
                        have HLL := Lib.hid hll
                        clear hll OXA KA8 BX6 K36 hG2
                        go_wp2_with fail
                        refine HO1.out.mono ?_
                        rintro e wA ⟨⟨v1, r1, b1, rfl, NV1, hO1⟩, KA⟩
                        obtain ⟨A1, C1, rfl⟩ := NV1.slice
                        have bX := (HBX6.out.keep KA (by simp)).cell
                        have HO2 : Hid (Calls Tryz.prog 11 #[.agg #[.slice (some ⟨g2, 0, none⟩) ps.length CY, .slice K m D]] wA fun e w' => (∃ v r b, e = .returned (.tuple #[v, .bool b]) ∧ NumV w' wA.heap.size v r ∧ OrdIs (lessP ps n kd) r b) ∧ Keep [] wA w') := Lib.hid (by
                          have h := orderR_rank (some ⟨g2, 0, none⟩) K CY m D (lessP ps n kd) wA (by rw [HLL.out]; exact HPL.out.mv0 KA)
                          rwa [HLL.out] at h)
                        have HKA := Lib.hid (HK36.out.trans KA)
                        have HO1' := Lib.hid hO1
                        clear NV1 hO1 KA HO1 bG
                        go_wp2_with fail
                        refine HO2.out.mono ?_
                        rintro e wB ⟨⟨v2, r2, b3, rfl, NV2, hO2⟩, KB⟩
                        obtain ⟨A5, C5, rfl⟩ := NV2.slice
                        have hless := less_order hn hkd hone HG.out HO1'.out hO2
                        have HKB := Lib.hid (HKF.out.trans (HKA.out.trans KB))
                        clear NV2 hO2 KB HO2 bX
                        cases b1 <;> cases b3
                        case true.false => simp at hless
                        all_goals
                          clear hless
                          go_wp2
                          go_ret
                          exact ⟨rfl, HKB.out⟩
end Go.Proofs.YtbpidoiellcccaaGreatDoor
namespace Go.Proofs.YtbpidoiellcccaaGreatDoor.RowRB
open Go.ChangeShapes Go.WideShapes Go.ChangeAt Go.RowKit Go.Joins Go.Deep Go.Proofs.YtbpidoiellcccaaGreatDoor.RowG

def zeroA : Array Value := #[.agg #[.slice none 0 0, .slice none 0 0], .int .i64 0, .int .i64 0]
set_option maxRecDepth 100000 in
theorem laid_met (os : Os) : laidMet Tryz.prog laid2 ((laidWorld os).forCall (fun _ _ => 0) ⟨#[], zeroA, []⟩).memory :=
  laidMet_of_run' 8 (by kernel_rfl) (by kernel_rfl)
theorem reads (os : Os) {H : Type} (enc : TypeId × Value → H) : ∃ places, DataW.whole enc Tryz.prog ((laidWorld os).forCall (fun _ _ => 0) ⟨#[], zeroA, []⟩).memory Tryz.f7.params.toList Rows.rankLessSpec.vars false zeroA.toList 8 = some ([.agg [.nil, .nil], .lit (.int .i64 0), .lit (.int .i64 0)], [], places) :=
  ⟨[], by kernel_rfl⟩
set_option maxRecDepth 100000 in
set_option maxHeartbeats 1000000 in
theorem contract (H : Type) (enc : TypeId × Value → H) (W : World) (args : Array Value) (ds gs : List (DataW H)) (before : List MemPlace) (base : Nat)
    (hval : ∀ (j : Nat) t v, Tryz.f7.params[j]? = some t → args[j]? = some v → Value.okWide Tryz.prog W .any base t v)
    (hW : DataW.Whole enc Tryz.prog Tryz.f7.params.toList Rows.rankLessSpec.vars false W args.toList ds gs before) :
    Calls Tryz.prog 7 args W fun e W' => ∃ v, e = .returned v ∧ Rows.rankLessSpec.post enc Tryz.prog Tryz.f7 false true false false W args v W' := by
  have hW' := hW
  obtain ⟨p, q, hA0, hV, rfl, hfz, hnd⟩ := hW
  have hA : DataW.TrodAll enc Tryz.prog W 0 (fun _ => true) true Tryz.f7.params.toList args.toList ds p := hA0
  rw [Tryz.params7] at hA hval
  obtain ⟨v0, vs0, d0, ds0, p0, q0, hargs, rfl, rfl, h0, r0⟩ := trodAll_cons hA
  obtain ⟨v1, vs1, d1, ds1, p1, q1, rfl, rfl, rfl, h1, r1⟩ := trodAll_cons r0
  obtain ⟨v2, vs2, d2, ds2, p2, q2, rfl, rfl, rfl, h2, r2⟩ := trodAll_cons r1
  obtain ⟨rfl, rfl, rfl⟩ := trodAll_nil r2
  obtain rfl : args = #[v0, v1, v2] := by cases args; simp_all
  obtain ⟨rfl, rfl⟩ := trodVars_none hV
  have k0 := h0
  have lt0 : ∀ x ∈ p0, x.block < W.heap.size := by obtain ⟨m, hm⟩ := k0; exact DataW.trod_lt m _ _ _ hm
  obtain ⟨A0, ps0, C0, K0, m0, D0, rfl, hp0, hm0⟩ := open_gram rfl (hval 0 _ v0 rfl rfl) h0
  obtain ⟨a1, rfl, rfl, rfl, w1⟩ := open_int Tryz.underlying3 (hval 1 _ v1 rfl rfl) h1
  obtain ⟨a2, rfl, rfl, rfl, w2⟩ := open_int Tryz.underlying3 (hval 2 _ v2 rfl rfl) h2
  clear hA0
  refine (rankLess_walk A0 K0 C0 m0 D0 ps0 a1 a2 W hp0 hm0).mono fun e W' ⟨he, kp⟩ => ?_
  have bel := kp.below
  subst he
  exact ⟨_, rfl, _, _, _, [], _, [], hW', trodAll_mk1 (shut_bool Tryz.underlying4 _), (trodAll_cons_mk (Below.trod laidOut (by kernel_rfl) (of_decide_eq_true (by kernel_rfl)) k0 bel lt0) (trodAll_cons_mk (shut_int Tryz.underlying3 w1) (trodAll_cons_mk (shut_int Tryz.underlying3 w2) trodAll_mk0))), rfl, bel.frame _, fun h => by cases h⟩

set_option maxRecDepth 100000 in
theorem lifted (os : Os) (started : os.Started) (H : Type) (enc : TypeId × Value → H) (F : Stop.Interp) :
    ReturnsInHanded {} Tryz.checked os 7 .any ((OpenSpec.ofChange Rows.rankLessSpec).preRow enc Tryz.prog Tryz.f7 Rows.rankLessRow.domain false Rows.rankLessRow.laid) (((OpenSpec.ofChange Rows.rankLessSpec).at F).post enc Tryz.prog Tryz.f7 false true false false) := by
  obtain ⟨places, hx⟩ := reads os enc
  refine returnsInHanded_of_row (C := Tryz.checked) (s := OpenSpec.ofChange Rows.rankLessSpec) own started (by kernel_rfl) Tryz.func7
    (witness_row_at (enc := enc) (C := Tryz.checked) false (laidWorld os) zeroA rfl (by kernel_rfl) (by kernel_rfl) (by kernel_rfl)
      (OpenSpec.preRow_of_cond 8 hx (by kernel_rfl) (fun k hk => by cases hk) (by kernel_rfl) (laid_met os))) ?_
  intro W base args ds gs before hval hW _ _ _ _ _ _
  exact contract H enc W args ds gs before base hval hW

theorem said : Rows.RankLessSaid :=
  OpenClaim.holds_of_cond 7 Tryz.f7 rfl rfl rfl rfl rfl rfl rfl ⟨rfl, rfl, rfl, rfl, rfl⟩ rfl rfl rfl rfl rfl (by kernel_rfl) Tryz.func7 (by kernel_rfl)
    (of_decide_eq_true (by kernel_rfl)) (by unfold Func.isWrapper; first | (rw [if_pos (by decide +kernel)]; kernel_rfl) | (rw [if_neg (by decide +kernel)]; exact ⟨rfl, rfl⟩))
    (fun os started H enc _ F => by rw [OpenClaim.pre_eq_preRow]; exact lifted os started H enc F)

theorem plain (f : FuncId) (fn : Func) (hf : Tryz.pinned.checked.prog.funcNamed "exegete/exegetelaw10.RankLess" = some f) (hfn : Tryz.pinned.checked.prog.funcs[f]? = some fn) :
    true = Tryz.pinned.checked.prog.looks [] ∧ ∀ (j : Nat) t, fn.params[j]? = some t → Tryz.pinned.checked.prog.wantsStandIn t = false := by
  obtain rfl : f = 7 := Option.some.inj ((show Tryz.prog.funcNamed "exegete/exegetelaw10.RankLess" = some 7 by kernel_rfl).symm.trans hf) |>.symm
  obtain rfl : fn = Tryz.f7 := (Option.some.inj (Tryz.func7.symm.trans hfn)).symm
  refine ⟨by kernel_rfl, fun j t ht => ?_⟩
  rw [Tryz.params7] at ht
  have hm : t = 25 ∨ t = 3 ∨ t = 3 := by simpa [or_assoc] using Array.mem_of_getElem? ht
  rcases hm with rfl | rfl | rfl
  · exact (show Tryz.prog.wantsStandIn 25 = false by kernel_rfl)
  · exact (show Tryz.prog.wantsStandIn 3 = false by kernel_rfl)
  · exact (show Tryz.prog.wantsStandIn 3 = false by kernel_rfl)

theorem card : Rows.RankLessCardSaid :=
  Claim7.holds_tied_plain_at .later [] _ _ _ _ said (fun _ h => by cases h) (by kernel_rfl) (fun _ h => by cases h) rankLess_row_tie rfl ⟨rfl, rfl⟩ (by kernel_rfl) rfl plain (by kernel_rfl)
end Go.Proofs.YtbpidoiellcccaaGreatDoor.RowRB
namespace Go.Proofs.YtbpidoiellcccaaGreatDoor
/-- The card of the law. -/
theorem rankLess_card : Rows.RankLessCardSaid := RowRB.card
#print axioms rankLess_card
end Go.Proofs.YtbpidoiellcccaaGreatDoor
