/- The reference's words of layer 11: the walk of From. -/
import Derived.Test.YtkminfdblimiiaaGreatDoorJ21
import Derived.Test.YtkminfdblimiiaaGreatDoorJ16
import Derived.Test.YtkminfdblimiiaaGreatDoorJ17
import Derived.Test.YtkminfdblimiiaaGreatDoorJ18
set_option linter.unusedVariables false
set_option linter.unusedSimpArgs false
namespace Go.Proofs.YtkminfdblimiiaaGreatDoor
open Go Go.RowKit Go.MapKept

theorem markL_snoc (is : List Bool) (l : List SymS) (m : Nat) (hm : m < l.length) : markL is (l.take (m + 1)) = markS (markL is (l.take m)) l[m] := by
  unfold markL
  rw [List.take_add_one, List.getElem?_eq_getElem hm, List.foldl_append]
  rfl
theorem markA_snoc (is : List Bool) (als : List (List SymS)) (j : Nat) (hj : j < als.length) : markA is (als.take (j + 1)) = markL (markA is (als.take j)) als[j] := by
  unfold markA
  rw [List.take_add_one, List.getElem?_eq_getElem hj, List.foldl_append]
  rfl
theorem fstep_at {ps : List ProdS} {i : Nat} (h : i < ps.length) (n : Nat) (is : List Bool) : fstep ps n is i = if i = n ∨ is.getD i false = true then markA is ps[i].a else is := by
  unfold fstep
  rw [List.getElem?_eq_getElem h]
set_option maxRecDepth 20000 in
set_option maxHeartbeats 8000000 in
theorem from11_any (S : List Nat) (A K : Option Addr) (C m D : Nat) (ps : List ProdS) (x : Int) (w : World) (HP : Prods S w (.slice A ps.length C) ps) (hS : ∀ b ∈ S, b < w.heap.size) :
    Calls Tryz.prog 24 #[.agg #[.slice A ps.length C, .slice K m D], .int .i64 x] w fun e w' => (∃ v, e = .returned v ∧ BoolV w' w.heap.size v (fromR ps x)) ∧ Keep [] w w' := by
  have K0 := (Keep.refl [] w).alloc (.cells #[.slice A ps.length C, .slice K m D] 25)
  have HP0 := HP.mv0 K0
  have B0 := Blk.new w #[.slice A ps.length C, .slice K m D] 25
  have HC := Lib.hid (may8_any S A K C m D ps _ HP0)
  have hlen := (SlOf.len HP).2.1
  cases hg : gmay ps with
  | false =>
    have hr : fromR ps x = [] := by simp [fromR, hg]
    rw [hr]
    go_enter Tryz.func24, Tryz.ntmps24
    go_wp2_with fail
    refine HC.out.mono ?_
    rintro e w1 ⟨rfl, K1⟩
    rw [hg]
    have b0 := (B0.keep K1 (by simp)).cell 0
    go_wp2
    go_ret
    exact ⟨⟨_, rfl, .inl ⟨rfl, rfl⟩⟩, K0.trans K1⟩
  | true =>
    obtain ⟨hl0, hl1⟩ := gmay_len hg
    by_cases hx0 : x < 0
    · have hr : fromR ps x = [] := by unfold fromR; rw [if_neg (by omega)]
      rw [hr]
      have hd0 : decide (x < 0) = true := by simpa using hx0
      go_enter Tryz.func24, Tryz.ntmps24
      go_wp2_with fail
      refine HC.out.mono ?_
      rintro e w1 ⟨rfl, K1⟩
      rw [hg]
      have b0 := (B0.keep K1 (by simp)).cell 0
      go_wp2
      go_ret
      exact ⟨⟨_, rfl, .inl ⟨rfl, rfl⟩⟩, K0.trans K1⟩
    · by_cases hx1 : (ps.length : Int) ≤ x
      · have hr : fromR ps x = [] := by unfold fromR; rw [if_neg (by omega)]
        rw [hr]
        have hd0 : decide (x < 0) = false := by simpa using hx0
        have hd1 : decide ((ps.length : Int) ≤ x) = true := by simpa using hx1
        have hx0' : 0 ≤ x := by omega
        clear hx0
        go_enter Tryz.func24, Tryz.ntmps24
        go_wp2_with fail
        refine HC.out.mono ?_
        rintro e w1 ⟨rfl, K1⟩
        rw [hg]
        have b0 := (B0.keep K1 (by simp)).cell 0
        go_wp2
        go_ret
        exact ⟨⟨_, rfl, .inl ⟨rfl, rfl⟩⟩, K0.trans K1⟩
      · obtain ⟨c, rfl⟩ : ∃ c : Nat, x = c := ⟨x.toNat, by omega⟩
        have hcn : c < ps.length := by omega
        have hr : fromR ps (c : Int) = fiter ps c ps.length (List.replicate ps.length false) := by unfold fromR; rw [if_pos ⟨hg, by omega, by omega⟩, fiter_eq hg hcn]
        obtain ⟨R, hR⟩ : ∃ R, R = fromR ps (c : Int) := ⟨_, rfl⟩
        rw [← hR]
        have HRES := Lib.hid (hR.trans hr)
        have HAL := Lib.hid (gmay_alt hg)
        have HNT := Lib.hid (gmay_sym hg)
        have HPP := Lib.hid HP0
        have HSS := Lib.hid hS
        have hd0 : decide ((c : Int) < 0) = false := by simp
        have hd1 : decide (ps.length ≤ c) = false := by simp; omega
        have hd1' : (c : Int) < (ps.length : Int) := by omega
        clear hr hR HP HP0 hS hx0 hx1
        go_enter Tryz.func24, Tryz.ntmps24
        go_wp2_with fail
        refine HC.out.mono ?_
        rintro e w1 ⟨rfl, K1⟩
        rw [hg]
        have B1 := B0.keep K1 (by simp)
        have b0 := B1.cell 0
        have hmk := make_bools w1 ps.length (by omega)
        have KA := (Keep.refl [] w1).alloc (.cells (boolC (List.replicate ps.length false)) 4)
        have BR0 := Blk.new w1 (boolC (List.replicate ps.length false)) 4
        obtain ⟨W1, hW1⟩ : ∃ W, W = w1.alloc (.cells (boolC (List.replicate ps.length false)) 4) := ⟨_, rfl⟩
        have hszw : w.heap.size < w1.heap.size := B1.lt
        have B1' := B1.keep KA (by simp)
        have HP1 := SlOf.move (S' := w1.heap.size :: S) (HPP.out.mv0 K1) prodRow_stab (by omega) KA (by simp) (fun x hx => by
          rcases List.mem_cons.1 hx with rfl | hx
          · exact .inr (Nat.le_refl _)
          · exact .inl hx)
        have K01 := (K0.trans K1).trans KA
        rw [← hW1] at KA BR0 B1' HP1 K01
        have HW := Lib.hid hW1
        have HB1 := Lib.hid B1'
        have HPX := Lib.hid HP1
        have HK01 := Lib.hid K01
        have HT0 : Hid (Keep [w1.heap.size] W1 W1 ∧ Blk W1 w1.heap.size (boolC (fiter ps c 0 (List.replicate ps.length false))) 4) := Lib.hid ⟨Keep.refl _ _, BR0⟩
        have HQ0 : Hid ((List.replicate ps.length false).length = ps.length) := Lib.hid (by simp)
        clear KA BR0 B1' HP1 K01 hW1 B1 B0 K0 K1 HC HPP HSS
        go_wp2
        rw [← HW.out]
        clear b0 hmk
        generalize List.replicate ps.length false = q0 at HT0 HRES HQ0
        go_loopw [7] (fun i wr => ∃ k : Nat, k ≤ ps.length ∧ i = .int .i64 k ∧ Keep [w1.heap.size] W1 wr ∧ Blk wr w1.heap.size (boolC (fiter ps c k q0)) 4) (fun i _ => ps.length - (intOf i).toNat)
        case atStart => exact ⟨0, by omega, rfl, HT0.out⟩
        case round =>
          clear HT0
          obtain ⟨k, hk, rfl, Kr, BRr⟩ := hrel
          have g0 := (HB1.out.keep Kr (by simp; omega)).cell 0
          by_cases hlt : k < ps.length
          · have hlt' : (k : Int) < (ps.length : Int) := by omega
            have HLT := Lib.hid hlt
            have HSU : Hid (fiter ps c (k + 1) q0 = fpass ps c ps.length (fiter ps c k q0)) := Lib.hid rfl
            have hql : (fiter ps c k q0).length = ps.length := by rw [fiter_len, HQ0.out]
            generalize fiter ps c k q0 = q at BRr HSU hql
            have HT1 : Hid (Keep [w1.heap.size] W1 wr ∧ Blk wr w1.heap.size (boolC (fpass ps c 0 q)) 4) := Lib.hid ⟨Kr, BRr⟩
            have HQL := Lib.hid hql
            clear Kr BRr hql
            go_wp2
            clear g0
            go_loopw [8] (fun i wr => ∃ n : Nat, n ≤ ps.length ∧ i = .int .i64 n ∧ Keep [w1.heap.size] W1 wr ∧ Blk wr w1.heap.size (boolC (fpass ps c n q)) 4) (fun i _ => ps.length - (intOf i).toNat)
            case atStart => exact ⟨0, by omega, rfl, HT1.out⟩
            case round =>
              clear HT1
              obtain ⟨n, hn, rfl, Kr, BRr⟩ := hrel
              have g0 := (HB1.out.keep Kr (by simp; omega)).cell 0
              by_cases hnl : n < ps.length
              · have hnl' : (n : Int) < (ps.length : Int) := by omega
                have HNL := Lib.hid hnl
                have HSN : Hid (fpass ps c (n + 1) q = if n = c ∨ (fpass ps c n q).getD n false = true then markA (fpass ps c n q) ps[n].a else fpass ps c n q) := Lib.hid ((fpass_succ _ _ _ _).trans (fstep_at hnl _ _))
                have hql : (fpass ps c n q).length = ps.length := by rw [← (fpass_le ps c q n).1, HQL.out]
                generalize fpass ps c n q = q2 at BRr HSN hql
                have HQL2 := Lib.hid hql
                have HT2 : Hid (Keep [w1.heap.size] W1 wr ∧ Blk wr w1.heap.size (boolC (markA q2 (ps[n].a.take 0))) 4) := Lib.hid ⟨Kr, BRr⟩
                have hal8 := (HAL.out _ (List.getElem_mem hnl)).2.1
                clear Kr BRr hql
                go_wp2
                clear g0
                obtain ⟨wo, rfl⟩ : ∃ wo : World, wo = wr := ⟨_, rfl⟩
                go_loopw [9] (fun i wr => ∃ j : Nat, j ≤ ps[n].a.length ∧ i = .int .i64 j ∧ Hid (¬ (n = c ∨ q2.getD n false = true) → j = 0) ∧ Keep [w1.heap.size] W1 wr ∧ Blk wr w1.heap.size (boolC (markA q2 (ps[n].a.take j))) 4) (fun i _ => ps[n].a.length - (intOf i).toNat)
                case atStart => exact ⟨0, by omega, rfl, Lib.hid (fun _ => rfl), HT2.out⟩
                case round =>
                  clear HT2
                  obtain ⟨j, hj, rfl, hj0, Kr, BRr⟩ := hrel
                  have g0 := (HB1.out.keep Kr (by simp; omega)).cell 0
                  have HPr : Prods (w1.heap.size :: S) wr (.slice A ps.length C) ps := SlOf.move HPX.out prodRow_stab (by omega) Kr (fun x hx => .inl (by simp at hx ⊢; simp [hx])) (fun x hx => .inl hx)
                  obtain ⟨bp, op, A2, C2, N2, F2, rfl, _, e0, _, _, hA, _⟩ := HPr.pick n hnl
                  have hlq : (markA q2 (ps[n].a.take j)).length = ps.length := by rw [← (markA_le _ _).1, HQL2.out]
                  have hn3 : n < (markA q2 (ps[n].a.take j)).length := by omega
                  have hcur : (markA q2 (ps[n].a.take j)).getD n false = (markA q2 (ps[n].a.take j))[n] := by simp [hn3]
                  have r0 : wr.cell? ⟨w1.heap.size, n, none⟩ = some (.bool ((markA q2 (ps[n].a.take j)).getD n false)) := by
                    rw [hcur, BRr.cell n, boolC_at _ _ hn3]
                  by_cases hjl : j < ps[n].a.length
                  · have hjl' : (j : Int) < (ps[n].a.length : Int) := by omega
                    have HJL := Lib.hid hjl
                    by_cases hcc : n = c ∨ q2.getD n false = true
                    · have HCC := Lib.hid hcc
                      have hcu2 : n = c ∨ (markA q2 (ps[n].a.take j)).getD n false = true := by
                        rcases hcc with h | h
                        · exact .inl h
                        · exact .inr ((markA_le _ _).2 _ h)
                      obtain ⟨b2, o2, A3, C3, rfl, _, f0, hS⟩ := Alts.pick hA j hjl
                      have HSJ : Hid (markA q2 (ps[n].a.take (j + 1)) = markL (markA q2 (ps[n].a.take j)) ps[n].a[j]) := Lib.hid (markA_snoc _ _ _ hjl)
                      have HNS := Lib.hid (HNT.out _ (List.getElem_mem hnl) _ (List.getElem_mem hjl))
                      have hal40 := (HAL.out _ (List.getElem_mem hnl)).2.2 _ (List.getElem_mem hjl)
                      have HQ3 := Lib.hid hlq
                      obtain ⟨al, hal, HSJ, hal40, HNS⟩ : ∃ al, ps[n].a[j] = al ∧ Hid (markA q2 (ps[n].a.take (j + 1)) = markL (markA q2 (ps[n].a.take j)) al) ∧ al.length ≤ 40 ∧ Hid (∀ s ∈ al, s.k = 2 → 0 ≤ s.n ∧ s.n < (ps.length : Int)) := ⟨_, rfl, HSJ, hal40, HNS⟩
                      have HALE := Lib.hid hal
                      clear hcur
                      clear hn3
                      generalize markA q2 (ps[n].a.take j) = q3 at BRr HSJ HQ3 hcu2 r0 hlq
                      have HT4 : Hid (Keep [w1.heap.size] W1 wr ∧ Blk wr w1.heap.size (boolC (markL q3 (al.take 0))) 4) := Lib.hid ⟨Kr, BRr⟩
                      clear hS hA HPr Kr BRr hlq hcc hj0 hal f0
                      by_cases hnc : n = c
                      · have hb : ((n : Int) == (c : Int)) = true := by simp [hnc]
                        have hb2 : (n == c) = true := by simp [hnc]
                        clear r0 hcu2 hnc
                        go_wp2
                        clear g0 e0
                        obtain ⟨wj, rfl⟩ : ∃ wj : World, wj = wr := ⟨_, rfl⟩
                        go_loopw [10] (fun iv wr => ∃ m : Nat, m ≤ al.length ∧ iv = .int .i64 m ∧ Keep [w1.heap.size] W1 wr ∧ Blk wr w1.heap.size (boolC (markL q3 (al.take m))) 4) (fun iv _ => al.length - (intOf iv).toNat)
                        case atStart => exact ⟨0, by omega, rfl, HT4.out⟩
                        case round =>
                          clear HT4
                          obtain ⟨m, hm, rfl, Km, BRm⟩ := hrel
                          have g0 := (HB1.out.keep Km (by simp; omega)).cell 0
                          have HPm : Prods (w1.heap.size :: S) wr (.slice (some ⟨bp, op, none⟩) ps.length C) ps := SlOf.move HPX.out prodRow_stab (by omega) Km (fun x hx => .inl (by simp at hx ⊢; simp [hx])) (fun x hx => .inl hx)
                          obtain ⟨bp', op', A2', C2', N2', F2', he, _, e0, _, _, hA', _⟩ := HPm.pick n HNL.out
                          simp only [Option.some.injEq, Addr.mk.injEq, and_true] at he
                          obtain ⟨rfl, rfl⟩ := he
                          obtain ⟨b3, o3, A4, C4, rfl, _, f0x, hSx⟩ := Alts.pick hA' j HJL.out
                          obtain ⟨al2, hax, f0, hS'⟩ : ∃ al2, ps[n].a[j] = al2 ∧ wr.cell? ⟨b3, o3 + j, none⟩ = some (.slice A4 al2.length C4) ∧ Syms (w1.heap.size :: S) wr (.slice A4 al2.length C4) al2 := ⟨_, rfl, f0x, hSx⟩
                          clear f0x hSx
                          obtain rfl : al = al2 := HALE.out.symm.trans hax
                          have hjl2 : (j : Int) < (ps[n].a.length : Int) := by have := HJL.out; omega
                          generalize ps[n].a.length = al9 at e0 hjl2
                          by_cases hml : m < al.length
                          · have hml' : (m : Int) < (al.length : Int) := by omega
                            have HML := Lib.hid hml
                            obtain ⟨b4, o4, A5, C5, rfl, _, s0, _, s2, _⟩ := Syms.pick hS' m hml
                            have hn8 := HNS.out _ (List.getElem_mem hml)
                            have hsn : markL q3 (al.take (m + 1)) = markS (markL q3 (al.take m)) al[m] := markL_snoc _ _ _ hml
                            have hlm : (markL q3 (al.take m)).length = ps.length := by rw [← (markL_le _ _).1, HQ3.out]
                            generalize markL q3 (al.take m) = q4 at BRm hsn hlm
                            have HSN4 := Lib.hid hsn
                            generalize al[m] = sy at s0 s2 hn8 HSN4
                            obtain ⟨sk, sr, sn⟩ := sy
                            simp only at s0 s2 hn8
                            have HPK := Lib.hid (⟨Km, BRm⟩ : _ ∧ _)
                            clear hsn hS' hA' HPm
                            by_cases hk2 : sk = 2
                            · subst hk2
                              obtain ⟨hn80, hn81⟩ := hn8 rfl
                              obtain ⟨y, rfl⟩ : ∃ y : Nat, sn = y := ⟨sn.toNat, by omega⟩
                              have hyl : y < q4.length := by omega
                              have rf := BRm.frozen y
                              have r1 := BRm.cell y
                              rw [boolC_at _ _ hyl] at r1
                              have HFN : Hid (Keep [w1.heap.size] W1 (wr.setCell ⟨w1.heap.size, y, none⟩ (.bool true)) ∧ Blk (wr.setCell ⟨w1.heap.size, y, none⟩ (.bool true)) w1.heap.size (boolC (markL q3 (al.take (m + 1)))) 4) := Lib.hid ⟨Km.setCell (p := ⟨w1.heap.size, y, none⟩) (by simp) _, by
                                rw [HSN4.out]
                                have e : markS q4 ⟨2, sr, (y : Int)⟩ = q4.set y true := by simp [markS]
                                rw [e, ← boolC_set]; exact BRm.set y _⟩
                              have hlb := BRm.lt
                              generalize q4[y] = bv4 at r1
                              clear Km BRm hn8 HSN4 hlm hyl
                              go_wp2
                              go_roundw
                              case rel => exact ⟨m + 1, by have := HML.out; omega, by go_num, HFN.out⟩
                              case measure => simp [intOf]; have := HML.out; omega
                            · have hkb : (sk == 2) = false := by simpa using hk2
                              have HFN : Hid (Blk wr w1.heap.size (boolC (markL q3 (al.take (m + 1)))) 4) := Lib.hid (by
                                rw [HSN4.out]
                                have e : markS q4 ⟨sk, sr, sn⟩ = q4 := by simp [markS, hk2]
                                rw [e]; exact BRm)
                              clear Km BRm hn8 HSN4 hlm hk2
                              go_wp2
                              go_roundw
                              case rel => exact ⟨m + 1, by have := HML.out; omega, by go_num, HPK.out.1, HFN.out⟩
                              case measure => simp [intOf]; have := HML.out; omega
                          · obtain rfl : m = al.length := by omega
                            have HFN : Hid (Keep [w1.heap.size] W1 wr ∧ Blk wr w1.heap.size (boolC (markA q2 (ps[n].a.take (j + 1)))) 4) := Lib.hid ⟨Km, by rw [HSJ.out]; rw [List.take_length] at BRm; exact BRm⟩
                            clear Km BRm hS' hA' HPm
                            go_wp2
                            go_roundw
                            case rel => exact ⟨j + 1, by have := HJL.out; omega, by go_num, Lib.hid (fun h => absurd HCC.out h), HFN.out⟩
                            case measure => simp [intOf]; have := HJL.out; omega
                      · have hb : ((n : Int) == (c : Int)) = false := by simp; omega
                        have hb2 : (n == c) = false := by simp [hnc]
                        have hq : q3.getD n false = true := by rcases hcu2 with h | h; exact absurd h hnc; exact h
                        rw [hq] at r0
                        clear hcu2 hnc hq
                        go_wp2
                        clear g0 e0 r0
                        obtain ⟨wj, rfl⟩ : ∃ wj : World, wj = wr := ⟨_, rfl⟩
                        go_loopw [10] (fun iv wr => ∃ m : Nat, m ≤ al.length ∧ iv = .int .i64 m ∧ Keep [w1.heap.size] W1 wr ∧ Blk wr w1.heap.size (boolC (markL q3 (al.take m))) 4) (fun iv _ => al.length - (intOf iv).toNat)
                        case atStart => exact ⟨0, by omega, rfl, HT4.out⟩
                        case round =>
                          clear HT4
                          obtain ⟨m, hm, rfl, Km, BRm⟩ := hrel
                          have g0 := (HB1.out.keep Km (by simp; omega)).cell 0
                          have HPm : Prods (w1.heap.size :: S) wr (.slice (some ⟨bp, op, none⟩) ps.length C) ps := SlOf.move HPX.out prodRow_stab (by omega) Km (fun x hx => .inl (by simp at hx ⊢; simp [hx])) (fun x hx => .inl hx)
                          obtain ⟨bp', op', A2', C2', N2', F2', he, _, e0, _, _, hA', _⟩ := HPm.pick n HNL.out
                          simp only [Option.some.injEq, Addr.mk.injEq, and_true] at he
                          obtain ⟨rfl, rfl⟩ := he
                          obtain ⟨b3, o3, A4, C4, rfl, _, f0x, hSx⟩ := Alts.pick hA' j HJL.out
                          obtain ⟨al2, hax, f0, hS'⟩ : ∃ al2, ps[n].a[j] = al2 ∧ wr.cell? ⟨b3, o3 + j, none⟩ = some (.slice A4 al2.length C4) ∧ Syms (w1.heap.size :: S) wr (.slice A4 al2.length C4) al2 := ⟨_, rfl, f0x, hSx⟩
                          clear f0x hSx
                          obtain rfl : al = al2 := HALE.out.symm.trans hax
                          have hjl2 : (j : Int) < (ps[n].a.length : Int) := by have := HJL.out; omega
                          generalize ps[n].a.length = al9 at e0 hjl2
                          by_cases hml : m < al.length
                          · have hml' : (m : Int) < (al.length : Int) := by omega
                            have HML := Lib.hid hml
                            obtain ⟨b4, o4, A5, C5, rfl, _, s0, _, s2, _⟩ := Syms.pick hS' m hml
                            have hn8 := HNS.out _ (List.getElem_mem hml)
                            have hsn : markL q3 (al.take (m + 1)) = markS (markL q3 (al.take m)) al[m] := markL_snoc _ _ _ hml
                            have hlm : (markL q3 (al.take m)).length = ps.length := by rw [← (markL_le _ _).1, HQ3.out]
                            generalize markL q3 (al.take m) = q4 at BRm hsn hlm
                            have HSN4 := Lib.hid hsn
                            generalize al[m] = sy at s0 s2 hn8 HSN4
                            obtain ⟨sk, sr, sn⟩ := sy
                            simp only at s0 s2 hn8
                            have HPK := Lib.hid (⟨Km, BRm⟩ : _ ∧ _)
                            clear hsn hS' hA' HPm
                            by_cases hk2 : sk = 2
                            · subst hk2
                              obtain ⟨hn80, hn81⟩ := hn8 rfl
                              obtain ⟨y, rfl⟩ : ∃ y : Nat, sn = y := ⟨sn.toNat, by omega⟩
                              have hyl : y < q4.length := by omega
                              have rf := BRm.frozen y
                              have r1 := BRm.cell y
                              rw [boolC_at _ _ hyl] at r1
                              have HFN : Hid (Keep [w1.heap.size] W1 (wr.setCell ⟨w1.heap.size, y, none⟩ (.bool true)) ∧ Blk (wr.setCell ⟨w1.heap.size, y, none⟩ (.bool true)) w1.heap.size (boolC (markL q3 (al.take (m + 1)))) 4) := Lib.hid ⟨Km.setCell (p := ⟨w1.heap.size, y, none⟩) (by simp) _, by
                                rw [HSN4.out]
                                have e : markS q4 ⟨2, sr, (y : Int)⟩ = q4.set y true := by simp [markS]
                                rw [e, ← boolC_set]; exact BRm.set y _⟩
                              have hlb := BRm.lt
                              generalize q4[y] = bv4 at r1
                              clear Km BRm hn8 HSN4 hlm hyl
                              go_wp2
                              go_roundw
                              case rel => exact ⟨m + 1, by have := HML.out; omega, by go_num, HFN.out⟩
                              case measure => simp [intOf]; have := HML.out; omega
                            · have hkb : (sk == 2) = false := by simpa using hk2
                              have HFN : Hid (Blk wr w1.heap.size (boolC (markL q3 (al.take (m + 1)))) 4) := Lib.hid (by
                                rw [HSN4.out]
                                have e : markS q4 ⟨sk, sr, sn⟩ = q4 := by simp [markS, hk2]
                                rw [e]; exact BRm)
                              clear Km BRm hn8 HSN4 hlm hk2
                              go_wp2
                              go_roundw
                              case rel => exact ⟨m + 1, by have := HML.out; omega, by go_num, HPK.out.1, HFN.out⟩
                              case measure => simp [intOf]; have := HML.out; omega
                          · obtain rfl : m = al.length := by omega
                            have HFN : Hid (Keep [w1.heap.size] W1 wr ∧ Blk wr w1.heap.size (boolC (markA q2 (ps[n].a.take (j + 1)))) 4) := Lib.hid ⟨Km, by rw [HSJ.out]; rw [List.take_length] at BRm; exact BRm⟩
                            clear Km BRm hS' hA' HPm
                            go_wp2
                            go_roundw
                            case rel => exact ⟨j + 1, by have := HJL.out; omega, by go_num, Lib.hid (fun h => absurd HCC.out h), HFN.out⟩
                            case measure => simp [intOf]; have := HJL.out; omega
                    · have hnc : n ≠ c := fun h => hcc (.inl h)
                      have hj0' : j = 0 := hj0.out hcc
                      subst hj0'
                      have hq : (markA q2 (ps[n].a.take 0)).getD n false = false := by
                        cases hv : (markA q2 (ps[n].a.take 0)).getD n false with
                        | false => rfl
                        | true => exact absurd (.inr hv) hcc
                      rw [hq] at r0
                      have hb : ((n : Int) == (c : Int)) = false := by simp; omega
                      have hb2 : (n == c) = false := by simp [hnc]
                      have HFN : Hid (Keep [w1.heap.size] W1 wr ∧ Blk wr w1.heap.size (boolC (fpass ps c (n + 1) q)) 4) := Lib.hid ⟨Kr, by rw [HSN.out, if_neg hcc]; exact BRr⟩
                      generalize ps[n].a.length = al8 at e0 hjl' ⊢
                      clear hA HPr Kr BRr hlq hcur hj0 hcc hq hnc hn3
                      go_wp2
                      go_roundw
                      case rel => exact ⟨n + 1, by have := HNL.out; omega, by go_num, HFN.out⟩
                      case measure => simp [intOf]; have := HNL.out; omega
                  · obtain rfl : j = ps[n].a.length := by omega
                    have HFN : Hid (Keep [w1.heap.size] W1 wr ∧ Blk wr w1.heap.size (boolC (fpass ps c (n + 1) q)) 4) := Lib.hid ⟨Kr, by
                      rw [HSN.out]
                      split
                      · rw [List.take_length] at BRr; exact BRr
                      · rename_i h
                        have h0 := hj0.out h
                        rw [h0] at BRr
                        exact BRr⟩
                    clear Kr BRr hA HPr hcur r0 hlq hn3 hj0
                    go_wp2
                    go_roundw
                    case rel => exact ⟨n + 1, by have := HNL.out; omega, by go_num, HFN.out⟩
                    case measure => simp [intOf]; have := HNL.out; omega
              · obtain rfl : n = ps.length := by omega
                have HFN : Hid (Keep [w1.heap.size] W1 wr ∧ Blk wr w1.heap.size (boolC (fiter ps c (k + 1) q0)) 4) := Lib.hid ⟨Kr, by rw [HSU.out]; exact BRr⟩
                clear Kr BRr
                go_wp2
                go_roundw
                case rel => exact ⟨k + 1, by have := HLT.out; omega, by go_num, HFN.out⟩
                case measure => simp [intOf]; have := HLT.out; omega
          · obtain rfl : k = ps.length := by omega
            have hrl : R.length = ps.length := by rw [HRES.out, fiter_len, HQ0.out]
            have HFN : Hid (BoolV wr w.heap.size (.slice (some ⟨w1.heap.size, 0, none⟩) ps.length ps.length) R ∧ Keep [] w wr) := Lib.hid ⟨.inr ⟨fun e => by rw [e] at hrl; simp at hrl; omega, _, by rw [hrl], by rw [HRES.out]; exact BRr, by omega⟩, HK01.out.then Kr (fun x hx => by simp at hx; subst hx; right; omega)⟩
            clear BRr Kr hrl
            go_wp2
            go_ret
            exact ⟨⟨_, rfl, HFN.out.1⟩, HFN.out.2⟩
end Go.Proofs.YtkminfdblimiiaaGreatDoor
namespace Go.Proofs.YtkminfdblimiiaaGreatDoor
open Go Go.RowKit Go.MapKept

/-- The mark n, as a bit. -/
def bitM (m n : Int) : Bool := decide (m / n % 2 = 1)
set_option maxHeartbeats 1000000 in
theorem bit_any (m n : Int) (w : World) (h0 : 0 ≤ m) (h1 : m ≤ 9223372036854775807) (hn : n = 1 ∨ n = 2 ∨ n = 4 ∨ n = 8 ∨ n = 16 ∨ n = 32) :
    Calls Tryz.prog 25 #[.int .i64 m, .int .i64 n] w fun e w' => e = .returned (.bool (bitM m n)) ∧ Keep [] w w' := by
  have HR : Hid (bitM m n = (m / n % 2 == 1)) := Lib.hid (by rw [Bool.eq_iff_iff]; simp [bitM])
  rw [HR.out]
  rcases hn with rfl | rfl | rfl | rfl | rfl | rfl
  all_goals
    go_enter Tryz.func25, Tryz.ntmps25
    go_wp2
    go_ret
    exact ⟨by first | rfl | simp, Keep.refl _ _⟩
theorem bits_three (m : Int) : bits .and .i64 m 3 = m % 4 := by
  have e : (BitVec.ofInt 64 m &&& BitVec.ofInt 64 3).toNat = (m % 18446744073709551616).toNat % 4 := by
    rw [BitVec.toNat_and, BitVec.toNat_ofInt, BitVec.toNat_ofInt]
    exact Nat.and_two_pow_sub_one_eq_mod _ 2
  unfold bits
  show IntKind.i64.wrap (((BitVec.ofInt 64 m &&& BitVec.ofInt 64 3).toNat : Nat) : Int) = m % 4
  rw [e, IntWalk.i64_in _ (by omega)]
  omega
theorem hasM3 (m : Int) : hasM m 3 = (bitM m 1 || bitM m 2) := by
  unfold hasM bitM
  rw [bits_three, Bool.eq_iff_iff]
  simp
  omega
theorem marks_all2 : (List.range 64).all (fun m => (hasM (m : Int) 28 == (bitM (m : Int) 4 || bitM (m : Int) 8 || bitM (m : Int) 16)) && (decide (32 ≤ (m : Int)) == bitM (m : Int) 32)) = true := by decide +kernel
theorem marks_of2 {m : Int} (h0 : 0 ≤ m) (h1 : m ≤ 63) : (decide (m / 4 % 8 ≠ 0) = (bitM m 4 || bitM m 8 || bitM m 16)) ∧ decide (32 ≤ m) = bitM m 32 := by
  have h := List.all_eq_true.1 marks_all2 m.toNat (by simp; omega)
  have e : ((m.toNat : Nat) : Int) = m := by omega
  simp only [e, Bool.and_eq_true, beq_iff_eq] at h
  exact ⟨by rw [← (marks_of h0 h1).2.1]; exact h.1, h.2⟩
set_option maxHeartbeats 1000000 in
theorem filtR_any (v0 : Value) (m : Int) (N : Option Addr) (n F : Nat) (w : World) (h0 : 0 ≤ m) (h1 : m ≤ 9223372036854775807) :
    Calls Tryz.prog 13 #[.agg #[v0, .int .i64 m, .slice N n F]] w fun e w' => e = .returned (.bool (hasM m 3 || decide (0 < n))) ∧ Keep [] w w' := by
  have K0 := (Keep.refl [] w).alloc (.cells #[v0, .int .i64 m, .slice N n F] 29)
  have B0 := Blk.new w #[v0, .int .i64 m, .slice N n F] 29
  have b0 := B0.cell
  have HC1 := Lib.hid (fun u => bit_any m 1 u h0 h1 (by simp))
  have HC2 := Lib.hid (fun u => bit_any m 2 u h0 h1 (by simp))
  rw [hasM3]
  generalize bitM m 1 = x at HC1 ⊢
  generalize bitM m 2 = y at HC2 ⊢
  go_enter Tryz.func13, Tryz.ntmps13
  go_wp2_with fail
  refine (HC1.out _).mono ?_
  rintro e w1 ⟨rfl, K1⟩
  have b1 := (B0.keep K1 (by simp)).cell
  have K01 := K0.trans K1
  clear b0
  go_wp2_with fail
  refine (HC2.out _).mono ?_
  rintro e w2 ⟨rfl, K2⟩
  have b2 := ((B0.keep K1 (by simp)).keep K2 (by simp)).cell
  clear b1
  cases x <;> cases y
  all_goals
    go_wp2
    go_ret
    exact ⟨by simp, K01.trans K2⟩
set_option maxHeartbeats 1000000 in
theorem layR_any (v0 v2 : Value) (m : Int) (w : World) (h0 : 0 ≤ m) (h1 : m ≤ 63) :
    Calls Tryz.prog 31 #[.agg #[v0, .int .i64 m, v2]] w fun e w' => e = .returned (.bool (decide (m / 4 % 8 ≠ 0))) ∧ Keep [] w w' := by
  have K0 := (Keep.refl [] w).alloc (.cells #[v0, .int .i64 m, v2] 29)
  have B0 := Blk.new w #[v0, .int .i64 m, v2] 29
  have b0 := B0.cell
  have HC4 := Lib.hid (fun u => bit_any m 4 u h0 (by omega) (by simp))
  have HC8 := Lib.hid (fun u => bit_any m 8 u h0 (by omega) (by simp))
  have HC16 := Lib.hid (fun u => bit_any m 16 u h0 (by omega) (by simp))
  rw [(marks_of2 h0 h1).1]
  generalize bitM m 4 = x at HC4 ⊢
  generalize bitM m 8 = y at HC8 ⊢
  generalize bitM m 16 = z at HC16 ⊢
  go_enter Tryz.func31, Tryz.ntmps31
  go_wp2_with fail
  refine (HC4.out _).mono ?_
  rintro e w1 ⟨rfl, K1⟩
  have B1 := B0.keep K1 (by simp)
  have b1 := B1.cell
  have K01 := K0.trans K1
  clear b0
  go_wp2_with fail
  refine (HC8.out _).mono ?_
  rintro e w2 ⟨rfl, K2⟩
  have B2 := B1.keep K2 (by simp)
  have b2 := B2.cell
  have K02 := K01.trans K2
  clear b1
  go_wp2_with fail
  refine (HC16.out _).mono ?_
  rintro e w3 ⟨rfl, K3⟩
  clear b2
  cases x <;> cases y
  all_goals
    go_wp2
    go_ret
    exact ⟨by simp, K02.trans K3⟩
end Go.Proofs.YtkminfdblimiiaaGreatDoor
namespace Go.Proofs.YtkminfdblimiiaaGreatDoor
open Go Go.RowKit Go.MapKept

theorem leastF_hit {k i : Nat} {f : Nat → Bool} (hi : i < k) (h : f i = true) (hn : ∀ j, j < i → f j = false) : leastF k f = i :=
  (leastF_law k f).same (.inr ⟨i, rfl, ⟨hi, h⟩, fun m hm => by
    by_cases e : i ≤ m
    · exact e
    · have := hn m (by omega)
      rw [hm.2] at this
      cases this⟩) (fun _ => Iff.rfl)
theorem leastF_miss {k : Nat} {f : Nat → Bool} (hn : ∀ j, j < k → f j = false) : leastF k f = -1 :=
  (leastF_law k f).same (.inl ⟨rfl, fun m hm => by
    have := hn m hm.1
    rw [hm.2] at this
    cases this⟩) (fun _ => Iff.rfl)
theorem accB_hit {b : Bool} {f : Nat → Bool} {k i : Nat} (hi : i < k) (h : f i = true) : accB b f k = true := by
  unfold accB
  rw [Bool.or_eq_true, List.any_eq_true]
  exact .inr ⟨i, by simpa using hi, h⟩
theorem no_more {P : Nat → Bool} {i : Nat} (h : ∀ j, j < i → P j = false) (hi : P i = false) : ∀ j, j < i + 1 → P j = false := fun j hj => by
  by_cases e : j = i
  · subst e; exact hi
  · exact h j (by omega)
set_option maxRecDepth 20000 in
set_option maxHeartbeats 4000000 in
theorem badR12_any (A K : Option Addr) (C m D : Nat) (ps : List ProdS) (w : World) (HP : Prods [] w (.slice A ps.length C) ps) :
    Calls Tryz.prog 16 #[.agg #[.slice A ps.length C, .slice K m D]] w fun e w' => e = .returned (.int .i64 (badR ps)) ∧ Keep [] w w' := by
  have K0 := (Keep.refl [] w).alloc (.cells #[.slice A ps.length C, .slice K m D] 25)
  have B0 := Blk.new w #[.slice A ps.length C, .slice K m D] 25
  have HC := Lib.hid (may8_any [] A K C m D ps _ (HP.mv0 K0))
  have HPP := Lib.hid HP
  obtain ⟨r, hr⟩ : ∃ r, r = badR ps := ⟨_, rfl⟩
  rw [← hr]
  have HR := Lib.hid hr
  clear HP hr
  go_enter Tryz.func16, Tryz.ntmps16
  go_wp2_with fail
  refine HC.out.mono ?_
  rintro e w1 ⟨rfl, K1⟩
  have B1 := B0.keep K1 (by simp)
  have HB1 := Lib.hid B1
  have HK01 := Lib.hid (K0.trans K1)
  have b1 := B1.cell
  clear HC B0 K0 B1 K1
  cases hg : gmay ps with
  | false =>
    have hr : r = -1 := by rw [HR.out]; simp [badR, hg]
    have HF := Lib.hid hr
    clear HPP hr HR
    go_wp2
    clear b1
    go_loopw [4] (fun iv wr => iv = .int .i64 0 ∧ Keep [] w1 wr) (fun _ _ => 0)
    case atStart => exact ⟨rfl, Keep.refl _ _⟩
    case round =>
      obtain ⟨rfl, Kr⟩ := hrel
      have g0 := (HB1.out.keep Kr (by simp)).cell
      by_cases h0 : 0 < ps.length
      · go_wp2
        go_ret
        exact ⟨by rw [HF.out]; rfl, HK01.out.trans Kr⟩
      · go_wp2
        go_ret
        exact ⟨by rw [HF.out]; rfl, HK01.out.trans Kr⟩
  | true =>
    obtain ⟨hl0, hl1⟩ := gmay_len hg
    have HRES : Hid (r = leastF ps.length (fun n => filtN ps n && badP ps n)) := Lib.hid (by rw [HR.out]; simp [badR, hg])
    have HACC := Lib.hid (bad_acc hg)
    have HMK := Lib.hid (fun k (hk : k < ps.length) => (⟨(mk_at hk).symm, mk_in hg hk⟩ : ps[k].marks = mk ps k ∧ 0 ≤ mk ps k ∧ mk ps k ≤ 63))
    clear HR
    go_wp2
    clear b1
    have HS0 : Hid (∀ j, j < 0 → (filtN ps j && badP ps j) = false) := Lib.hid (fun j hj => by omega)
    go_loopw [4] (fun iv wr => ∃ i : Nat, i ≤ ps.length ∧ iv = .int .i64 i ∧ Hid (∀ j, j < i → (filtN ps j && badP ps j) = false) ∧ Keep [] w1 wr) (fun iv _ => ps.length - (intOf iv).toNat)
    case atStart => exact ⟨0, by omega, rfl, HS0, Keep.refl _ _⟩
    case round =>
      clear HS0
      obtain ⟨i, hi, rfl, hno, Kr⟩ := hrel
      have g0 := (HB1.out.keep Kr (by simp)).cell
      by_cases hlt : i < ps.length
      · have hlt' : (i : Int) < (ps.length : Int) := by omega
        have HLT := Lib.hid hlt
        have Kw := HK01.out.trans Kr
        obtain ⟨bp, op, A2, C2, N2, F2, rfl, _, e0, e1, e2, _, _⟩ := (HPP.out.mv0 Kw).pick i hlt
        obtain ⟨hm, hm0, hm1⟩ := HMK.out i hlt
        have HF := Lib.hid (fun u => filtR_any (.slice A2 ps[i].a.length C2) ps[i].marks N2 ps[i].nt.length F2 u (by omega) (by omega))
        have hfb : (hasM ps[i].marks 3 || decide (0 < ps[i].nt.length)) = filtN ps i := by rw [filtN_at hlt]; rfl
        rw [hfb] at HF
        have HFR := Lib.hid (fun u (K' : Keep [] w1 u) => from11_any [] (some ⟨bp, op, none⟩) K C m D ps i u (HPP.out.mv0 (HK01.out.trans K')) (by simp))
        have HHIT : Hid (filtN ps i = true → badP ps i = true → r = i) := Lib.hid (fun h1 h2 => by rw [HRES.out]; exact leastF_hit hlt (by simp [h1, h2]) hno.out)
        have HMISS : Hid ((filtN ps i && badP ps i) = false → ∀ j, j < i + 1 → (filtN ps j && badP ps j) = false) := Lib.hid (fun h => no_more hno.out h)
        rw [HACC.out i] at HHIT HMISS
        generalize filtN ps i = fk at HF HHIT HMISS
        generalize ps[i] = p at e0 e1 e2 HF
        obtain ⟨pa, pm, pn⟩ := p
        simp only at e0 e1 e2 HF
        clear hm hm0 hm1 hfb Kw
        go_wp2_with fail
        refine (HF.out _).mono ?_
        rintro e w2 ⟨rfl, K2⟩
        have K12 := Kr.trans K2
        have g2 := (HB1.out.keep K12 (by simp)).cell
        clear g0 e0 e1 e2 HF Kr K2
        go_wp2_with fail
        refine (HFR.out _ K12).mono ?_
        rintro e w3 ⟨⟨v, rfl, hv⟩, K3⟩
        rw [fromR_fromF hg HLT.out] at hv
        obtain ⟨is, his⟩ : ∃ is, is = fromF ps i := ⟨_, rfl⟩
        have hlen : is.length = ps.length := by rw [his, fromF_len]
        rw [← his] at hv HHIT HMISS
        obtain ⟨rb, F, rfl, _, hcl⟩ := hv.at (by omega)
        have hgd : is.getD i false = is[i]'(by have := HLT.out; omega) := by have := HLT.out; simp [show i < is.length by omega]
        rw [hgd] at HHIT HMISS
        have c3 := hcl i (by have := HLT.out; omega)
        have K13 := K12.trans K3
        have g3 := (HB1.out.keep K13 (by simp)).cell
        have HCL := Lib.hid hcl
        have HLEN := Lib.hid hlen
        rw [hlen]
        clear hgd his hv hcl K3 K12 g2 HFR
        generalize is[i]'(by have := HLT.out; have := HLEN.out; omega) = bi at c3 HHIT HMISS
        have HK13 := Lib.hid K13
        cases fk with
        | false =>
          have HN := Lib.hid (HMISS.out (by simp))
          clear HHIT HMISS hno hlen
          go_wp2
          clear g3 c3 K13
          go_loopw [7] (fun kv wr => kv = .int .i64 0 ∧ Keep [] w3 wr) (fun _ _ => 0)
          case atStart => exact ⟨rfl, Keep.refl _ _⟩
          case round =>
            obtain ⟨rfl, Kr⟩ := hrel
            have g0 := (HB1.out.keep (HK13.out.trans Kr) (by simp)).cell
            go_wp2
            go_roundw
            case rel => exact ⟨i + 1, by have := HLT.out; omega, by go_num, HN, HK13.out.trans Kr⟩
            case measure => simp [intOf]; have := HLT.out; omega
        | true =>
          cases bi with
          | true =>
            have HF := Lib.hid (HHIT.out rfl (by simp [accB]))
            clear HHIT HMISS hno hlen
            go_wp2
            go_ret
            exact ⟨by rw [HF.out]; rfl, HK01.out.trans HK13.out⟩
          | false =>
            obtain ⟨fa, hfa⟩ : ∃ fa, fa = fun j => is.getD j false && decide (32 ≤ mk ps j) := ⟨_, rfl⟩
            rw [← hfa] at HHIT HMISS
            have HFA := Lib.hid hfa
            have HS1 : Hid (accB false fa 0 = false) := Lib.hid (accB_zero _ _)
            clear hno hlen hfa
            go_wp2
            clear g3 c3 K13
            go_loopw [7] (fun kv wr => ∃ k : Nat, k ≤ ps.length ∧ kv = .int .i64 k ∧ Hid (accB false fa k = false) ∧ Keep [] w3 wr) (fun kv _ => ps.length - (intOf kv).toNat)
            case atStart => exact ⟨0, by omega, rfl, HS1, Keep.refl _ _⟩
            case round =>
              clear HS1
              obtain ⟨k, hk, rfl, hnk, Kr⟩ := hrel
              have K1r := HK13.out.trans Kr
              have g0 := (HB1.out.keep K1r (by simp)).cell
              by_cases hkl : k < ps.length
              · have hkl' : (k : Int) < (ps.length : Int) := by omega
                have HKL := Lib.hid hkl
                obtain ⟨b', o', A2', C2', N2', F2', he, _, _, e1, _, _, _⟩ := (HPP.out.mv0 (HK01.out.trans K1r)).pick k hkl
                simp only [Option.some.injEq, Addr.mk.injEq, and_true] at he
                obtain ⟨rfl, rfl⟩ := he
                obtain ⟨hm, hm0, hm1⟩ := HMK.out k hkl
                rw [hm] at e1
                have HBT := Lib.hid (fun u => bit_any (mk ps k) 32 u hm0 (by omega) (by simp))
                have hki : k < is.length := by have := HLEN.out; omega
                have hfk : fa k = (is[k] && bitM (mk ps k) 32) := by
                  rw [HFA.out, ← (marks_of2 hm0 hm1).2]
                  simp [hki]
                have c4 := Keep.cell (T := []) Kr (HCL.out k hki) (by simp)
                have HH : Hid ((is[k] && bitM (mk ps k) 32) = true → r = i) := Lib.hid (fun h => HHIT.out (by trivial) (accB_hit hkl (hfk.trans h)))
                have HM : Hid ((is[k] && bitM (mk ps k) 32) = false → accB false fa (k + 1) = false) := Lib.hid (fun h => by rw [accB_succ, hnk.out, hfk, h]; rfl)
                generalize is[k] = bk at c4 HH HM
                generalize bitM (mk ps k) 32 = sk at HBT HH HM
                generalize mk ps k = mm at e1 HBT
                clear hm hm0 hm1 hfk hnk hki
                go_wp2_with fail
                refine (HBT.out _).mono ?_
                rintro e w5 ⟨rfl, K5⟩
                have K35 := Kr.trans K5
                have g5 := (HB1.out.keep (HK13.out.trans K35) (by simp)).cell
                have c5 := Keep.cell (T := []) K5 c4 (by simp)
                clear g0 e1 c4 HBT Kr K1r K5
                cases bk with
                | false =>
                  have HN := Lib.hid (HM.out rfl)
                  clear HH HM
                  go_wp2
                  go_roundw
                  case rel => exact ⟨k + 1, by have := HKL.out; omega, by go_num, HN, K35⟩
                  case measure => simp [intOf]; have := HKL.out; omega
                | true =>
                  cases sk with
                  | false =>
                    have HN := Lib.hid (HM.out rfl)
                    clear HH HM
                    go_wp2
                    go_roundw
                    case rel => exact ⟨k + 1, by have := HKL.out; omega, by go_num, HN, K35⟩
                    case measure => simp [intOf]; have := HKL.out; omega
                  | true =>
                    have HF := Lib.hid (HH.out rfl)
                    clear HH HM
                    go_wp2
                    go_ret
                    exact ⟨by rw [HF.out]; rfl, HK01.out.trans (HK13.out.trans K35)⟩
              · obtain rfl : k = ps.length := by omega
                have HN := Lib.hid (HMISS.out (by simpa using hnk.out))
                clear HHIT HMISS hnk
                go_wp2
                go_roundw
                case rel => exact ⟨i + 1, by have := HLT.out; omega, by go_num, HN, K1r⟩
                case measure => simp [intOf]; have := HLT.out; omega
      · obtain rfl : i = ps.length := by omega
        have HF : Hid (r = -1) := Lib.hid (by rw [HRES.out]; exact leastF_miss hno.out)
        have HK := Lib.hid (HK01.out.trans Kr)
        clear hno Kr
        go_wp2
        go_ret
        exact ⟨by rw [HF.out]; rfl, HK.out⟩
end Go.Proofs.YtkminfdblimiiaaGreatDoor
namespace Go.Proofs.YtkminfdblimiiaaGreatDoor
open Go Go.RowKit Go.MapKept

set_option maxRecDepth 20000 in
set_option maxHeartbeats 4000000 in
theorem laidR12_any (A K : Option Addr) (C m D : Nat) (ps : List ProdS) (w : World) (HP : Prods [] w (.slice A ps.length C) ps) :
    Calls Tryz.prog 18 #[.agg #[.slice A ps.length C, .slice K m D]] w fun e w' => e = .returned (.int .i64 (laidR ps)) ∧ Keep [] w w' := by
  have K0 := (Keep.refl [] w).alloc (.cells #[.slice A ps.length C, .slice K m D] 25)
  have B0 := Blk.new w #[.slice A ps.length C, .slice K m D] 25
  have HC := Lib.hid (may8_any [] A K C m D ps _ (HP.mv0 K0))
  have HPP := Lib.hid HP
  obtain ⟨r, hr⟩ : ∃ r, r = laidR ps := ⟨_, rfl⟩
  rw [← hr]
  have HR := Lib.hid hr
  clear HP hr
  go_enter Tryz.func18, Tryz.ntmps18
  go_wp2_with fail
  refine HC.out.mono ?_
  rintro e w1 ⟨rfl, K1⟩
  have B1 := B0.keep K1 (by simp)
  have HB1 := Lib.hid B1
  have HK01 := Lib.hid (K0.trans K1)
  have b1 := B1.cell
  clear HC B0 K0 B1 K1
  cases hg : gmay ps with
  | false =>
    have hr : r = -1 := by rw [HR.out]; simp [laidR, hg]
    have HF := Lib.hid hr
    clear HPP hr HR
    go_wp2
    clear b1
    go_loopw [4] (fun iv wr => iv = .int .i64 0 ∧ Keep [] w1 wr) (fun _ _ => 0)
    case atStart => exact ⟨rfl, Keep.refl _ _⟩
    case round =>
      obtain ⟨rfl, Kr⟩ := hrel
      have g0 := (HB1.out.keep Kr (by simp)).cell
      by_cases h0 : 0 < ps.length
      · go_wp2
        go_ret
        exact ⟨by rw [HF.out]; rfl, HK01.out.trans Kr⟩
      · go_wp2
        go_ret
        exact ⟨by rw [HF.out]; rfl, HK01.out.trans Kr⟩
  | true =>
    obtain ⟨hl0, hl1⟩ := gmay_len hg
    have HRES : Hid (r = leastF ps.length (fun n => filtN ps n && laidP ps n)) := Lib.hid (by rw [HR.out]; simp [laidR, hg])
    have HACC := Lib.hid (fun n (hn : n < ps.length) => laid_acc2 hg hn)
    have HMK := Lib.hid (fun k (hk : k < ps.length) => (⟨(mk_at hk).symm, mk_in hg hk⟩ : ps[k].marks = mk ps k ∧ 0 ≤ mk ps k ∧ mk ps k ≤ 63))
    clear HR
    go_wp2
    clear b1
    have HS0 : Hid (∀ j, j < 0 → (filtN ps j && laidP ps j) = false) := Lib.hid (fun j hj => by omega)
    go_loopw [4] (fun iv wr => ∃ i : Nat, i ≤ ps.length ∧ iv = .int .i64 i ∧ Hid (∀ j, j < i → (filtN ps j && laidP ps j) = false) ∧ Keep [] w1 wr) (fun iv _ => ps.length - (intOf iv).toNat)
    case atStart => exact ⟨0, by omega, rfl, HS0, Keep.refl _ _⟩
    case round =>
      clear HS0
      obtain ⟨i, hi, rfl, hno, Kr⟩ := hrel
      have g0 := (HB1.out.keep Kr (by simp)).cell
      by_cases hlt : i < ps.length
      · have hlt' : (i : Int) < (ps.length : Int) := by omega
        have HLT := Lib.hid hlt
        have Kw := HK01.out.trans Kr
        obtain ⟨bp, op, A2, C2, N2, F2, rfl, _, e0, e1, e2, _, _⟩ := (HPP.out.mv0 Kw).pick i hlt
        obtain ⟨hm, hm0, hm1⟩ := HMK.out i hlt
        have HF := Lib.hid (fun u => filtR_any (.slice A2 ps[i].a.length C2) ps[i].marks N2 ps[i].nt.length F2 u (by omega) (by omega))
        have hfb : (hasM ps[i].marks 3 || decide (0 < ps[i].nt.length)) = filtN ps i := by rw [filtN_at hlt]; rfl
        rw [hfb] at HF
        have HFR := Lib.hid (fun u (K' : Keep [] w1 u) => from11_any [] (some ⟨bp, op, none⟩) K C m D ps i u (HPP.out.mv0 (HK01.out.trans K')) (by simp))
        have HHIT : Hid (filtN ps i = true → laidP ps i = true → r = i) := Lib.hid (fun h1 h2 => by rw [HRES.out]; exact leastF_hit hlt (by simp [h1, h2]) hno.out)
        have HMISS : Hid ((filtN ps i && laidP ps i) = false → ∀ j, j < i + 1 → (filtN ps j && laidP ps j) = false) := Lib.hid (fun h => no_more hno.out h)
        rw [HACC.out i hlt] at HHIT HMISS
        generalize filtN ps i = fk at HF HHIT HMISS
        generalize ps[i] = p at e0 e1 e2 HF
        obtain ⟨pa, pm, pn⟩ := p
        simp only at e0 e1 e2 HF
        clear hm hm0 hm1 hfb Kw
        go_wp2_with fail
        refine (HF.out _).mono ?_
        rintro e w2 ⟨rfl, K2⟩
        have K12 := Kr.trans K2
        have g2 := (HB1.out.keep K12 (by simp)).cell
        clear g0 e0 e1 e2 HF Kr K2
        go_wp2_with fail
        refine (HFR.out _ K12).mono ?_
        rintro e w3 ⟨⟨v, rfl, hv⟩, K3⟩
        rw [fromR_fromF hg HLT.out] at hv
        obtain ⟨is, his⟩ : ∃ is, is = fromF ps i := ⟨_, rfl⟩
        have hlen : is.length = ps.length := by rw [his, fromF_len]
        rw [← his] at hv HHIT HMISS
        obtain ⟨rb, F, rfl, _, hcl⟩ := hv.at (by omega)
        have K13 := K12.trans K3
        have g3 := (HB1.out.keep K13 (by simp)).cell
        have HCL := Lib.hid hcl
        have HLEN := Lib.hid hlen
        rw [hlen]
        clear his hv hcl K3 K12 g2 HFR
        have HK13 := Lib.hid K13
        cases fk with
        | false =>
          have HN := Lib.hid (HMISS.out (by simp))
          clear HHIT HMISS hno hlen
          go_wp2
          clear g3 K13
          go_loopw [7] (fun kv wr => kv = .int .i64 0 ∧ Keep [] w3 wr) (fun _ _ => 0)
          case atStart => exact ⟨rfl, Keep.refl _ _⟩
          case round =>
            obtain ⟨rfl, Kr⟩ := hrel
            have g0 := (HB1.out.keep (HK13.out.trans Kr) (by simp)).cell
            go_wp2
            go_roundw
            case rel => exact ⟨i + 1, by have := HLT.out; omega, by go_num, HN, HK13.out.trans Kr⟩
            case measure => simp [intOf]; have := HLT.out; omega
        | true =>
          obtain ⟨fa, hfa⟩ : ∃ fa, fa = fun j => (decide (j = i) || is.getD j false) && decide (mk ps j / 4 % 8 ≠ 0) := ⟨_, rfl⟩
          rw [← hfa] at HHIT HMISS
          have HFA := Lib.hid hfa
          have HS1 : Hid (accB false fa 0 = false) := Lib.hid (accB_zero _ _)
          clear hno hlen hfa
          go_wp2
          clear g3 K13
          go_loopw [7] (fun kv wr => ∃ k : Nat, k ≤ ps.length ∧ kv = .int .i64 k ∧ Hid (accB false fa k = false) ∧ Keep [] w3 wr) (fun kv _ => ps.length - (intOf kv).toNat)
          case atStart => exact ⟨0, by omega, rfl, HS1, Keep.refl _ _⟩
          case round =>
            clear HS1
            obtain ⟨k, hk, rfl, hnk, Kr⟩ := hrel
            have K1r := HK13.out.trans Kr
            have g0 := (HB1.out.keep K1r (by simp)).cell
            by_cases hkl : k < ps.length
            · have hkl' : (k : Int) < (ps.length : Int) := by omega
              have HKL := Lib.hid hkl
              obtain ⟨b', o', A2', C2', N2', F2', he, _, e0, e1, e2, _, _⟩ := (HPP.out.mv0 (HK01.out.trans K1r)).pick k hkl
              simp only [Option.some.injEq, Addr.mk.injEq, and_true] at he
              obtain ⟨rfl, rfl⟩ := he
              obtain ⟨hm, hm0, hm1⟩ := HMK.out k hkl
              rw [hm] at e1
              have HBT := Lib.hid (fun u => layR_any (.slice A2' ps[k].a.length C2') (.slice N2' ps[k].nt.length F2') (mk ps k) u hm0 hm1)
              have hki : k < is.length := by have := HLEN.out; omega
              have hfk : fa k = ((decide (k = i) || is[k]) && decide (mk ps k / 4 % 8 ≠ 0)) := by
                rw [HFA.out]
                simp [hki]
              have c4 := Keep.cell (T := []) Kr (HCL.out k hki) (by simp)
              have HH : Hid (((decide (k = i) || is[k]) && decide (mk ps k / 4 % 8 ≠ 0)) = true → r = i) := Lib.hid (fun h => HHIT.out (by trivial) (accB_hit hkl (hfk.trans h)))
              have HM : Hid (((decide (k = i) || is[k]) && decide (mk ps k / 4 % 8 ≠ 0)) = false → accB false fa (k + 1) = false) := Lib.hid (fun h => by rw [accB_succ, hnk.out, hfk, h]; rfl)
              generalize is[k] = bk at c4 HH HM
              generalize decide (mk ps k / 4 % 8 ≠ 0) = sk at HBT HH HM
              generalize mk ps k = mm at e1 HBT
              generalize ps[k].a.length = al at e0 HBT
              generalize ps[k].nt.length = nl at e2 HBT
              clear hm hm0 hm1 hfk hnk hki
              go_wp2_with fail
              refine (HBT.out _).mono ?_
              rintro e w5 ⟨rfl, K5⟩
              have K35 := Kr.trans K5
              have g5 := (HB1.out.keep (HK13.out.trans K35) (by simp)).cell
              have c5 := Keep.cell (T := []) K5 c4 (by simp)
              clear g0 e0 e1 e2 c4 HBT Kr K1r K5
              cases sk with
              | false =>
                have HN := Lib.hid (HM.out (by simp))
                clear HH HM
                go_wp2
                go_roundw
                case rel => exact ⟨k + 1, by have := HKL.out; omega, by go_num, HN, K35⟩
                case measure => simp [intOf]; have := HKL.out; omega
              | true =>
                by_cases hki : k = i
                · have HF := Lib.hid (HH.out (by simp [hki]))
                  have hb : ((k : Int) == (i : Int)) = true := by simp [hki]
                  have hb2 : (k == i) = true := by simp [hki]
                  clear HH HM hki
                  go_wp2
                  go_ret
                  exact ⟨by rw [HF.out]; rfl, HK01.out.trans (HK13.out.trans K35)⟩
                · have hb : ((k : Int) == (i : Int)) = false := by simp; omega
                  have hb2 : (k == i) = false := by simp [hki]
                  cases bk with
                  | false =>
                    have HN := Lib.hid (HM.out (by simp [hki]))
                    clear HH HM hki
                    go_wp2
                    go_roundw
                    case rel => exact ⟨k + 1, by have := HKL.out; omega, by go_num, HN, K35⟩
                    case measure => simp [intOf]; have := HKL.out; omega
                  | true =>
                    have HF := Lib.hid (HH.out (by simp))
                    clear HH HM hki
                    go_wp2
                    go_ret
                    exact ⟨by rw [HF.out]; rfl, HK01.out.trans (HK13.out.trans K35)⟩
            · obtain rfl : k = ps.length := by omega
              have HN := Lib.hid (HMISS.out (by simpa using hnk.out))
              clear HHIT HMISS hnk
              go_wp2
              go_roundw
              case rel => exact ⟨i + 1, by have := HLT.out; omega, by go_num, HN, K1r⟩
              case measure => simp [intOf]; have := HLT.out; omega
      · obtain rfl : i = ps.length := by omega
        have HF : Hid (r = -1) := Lib.hid (by rw [HRES.out]; exact leastF_miss hno.out)
        have HK := Lib.hid (HK01.out.trans Kr)
        clear hno Kr
        go_wp2
        go_ret
        exact ⟨by rw [HF.out]; rfl, HK.out⟩
end Go.Proofs.YtkminfdblimiiaaGreatDoor
namespace Go.Proofs.YtkminfdblimiiaaGreatDoor
open Go Go.RowKit Go.MapKept

/-- How many below k are so. -/
def cntB (k : Nat) (f : Nat → Bool) : Nat := (List.range k).countP f
theorem cntB_succ (k : Nat) (f : Nat → Bool) : cntB (k + 1) f = cntB k f + (if f k = true then 1 else 0) := by
  unfold cntB
  rw [List.range_succ, List.countP_append, List.countP_singleton]
theorem cntB_le (k : Nat) (f : Nat → Bool) : cntB k f ≤ k := by
  have h := List.countP_le_length (p := f) (l := List.range k)
  simpa [cntB] using h
theorem cntB_none {k : Nat} {f : Nat → Bool} (h : cntB k f = 0) : ∀ n, n < k → f n = false := fun n hn => by
  have := List.countP_eq_zero.1 h n (List.mem_range.2 hn)
  simpa using this
theorem cntB_ex {k : Nat} {f : Nat → Bool} (h : 0 < cntB k f) : ∃ n, n < k ∧ f n = true := by
  obtain ⟨n, h1, h2⟩ := List.countP_pos_iff.1 h
  exact ⟨n, List.mem_range.1 h1, h2⟩
theorem cntB_same {k : Nat} {f g : Nat → Bool} (h : ∀ n, n < k → f n = g n) : cntB k f = cntB k g :=
  List.countP_congr (fun n hn => by rw [h n (List.mem_range.1 hn)])
theorem cntB_del (k : Nat) {f : Nat → Bool} {n : Nat} (hn : n < k) (h : f n = true) : cntB k f = cntB k (fun m => f m && !decide (m = n)) + 1 := by
  induction k with
  | zero => omega
  | succ k ih =>
    rw [cntB_succ, cntB_succ]
    by_cases e : k = n
    · subst e
      have hs : cntB k f = cntB k (fun m => f m && !decide (m = k)) := cntB_same (fun m hm => by simp [show m ≠ k by omega])
      rw [hs]
      simp [h]
    · rw [ih (by omega)]
      simp [e]
      omega
/-- Those with filters that are not there yet. -/
def leftS (ps : List ProdS) (th : List Bool) (n : Nat) : Bool := filtN ps n && !th.getD n false
theorem leftS_lt {ps : List ProdS} {th : List Bool} {n : Nat} (h : leftS ps th n = true) : n < ps.length := by
  unfold leftS filtN at h
  simp at h
  exact h.1.1
theorem leftS_zero (ps : List ProdS) : leftS ps (List.replicate ps.length false) = filtN ps := by
  funext n
  unfold leftS
  have e : (List.replicate ps.length false).getD n false = false := by
    rw [List.getD_eq_getElem?_getD, List.getElem?_replicate]
    split <;> rfl
  rw [e]
  simp
theorem leftS_set {ps : List ProdS} {th : List Bool} (hl : th.length = ps.length) {n : Nat} (hn : n < ps.length) : leftS ps (th.set n true) = fun m => leftS ps th m && !decide (m = n) := by
  funext m
  unfold leftS
  by_cases e : m = n
  · subst e
    have e2 : (th.set m true).getD m false = true := by simp [hl, hn]
    rw [e2]
    simp
  · have e2 : (th.set n true).getD m false = th.getD m false := by
      rw [List.getD_eq_getElem?_getD, List.getD_eq_getElem?_getD, List.getElem?_set_ne (by omega)]
    rw [e2]
    simp [e]
/-- i is left, and none below k that is left is within it. -/
def freeB (ps : List ProdS) (S : Nat → Bool) (i k : Nat) : Bool := S i && (List.range k).all fun m => !(inN ps i m && S m)
theorem freeB_zero (ps : List ProdS) (S : Nat → Bool) (i : Nat) : freeB ps S i 0 = S i := by simp [freeB]
theorem freeB_succ (ps : List ProdS) (S : Nat → Bool) (i k : Nat) : freeB ps S i (k + 1) = (freeB ps S i k && !(inN ps i k && S k)) := by
  unfold freeB
  rw [List.range_succ, List.all_append]
  simp [Bool.and_assoc]
theorem freeB_law {ps : List ProdS} {S : Nat → Bool} (hS : ∀ n, S n = true → n < ps.length) (i : Nat) : freeB ps S i ps.length = true ↔ Free ps S i := by
  unfold freeB Free
  rw [Bool.and_eq_true, List.all_eq_true]
  constructor
  · rintro ⟨h1, h2⟩
    exact ⟨h1, fun k hk => by have := h2 k (List.mem_range.2 (hS k hk)); simpa [hk] using this⟩
  · rintro ⟨h1, h2⟩
    refine ⟨h1, fun k _ => ?_⟩
    cases hk : S k with
    | false => simp
    | true => rw [h2 k hk]; rfl
/-- The least free one from j on. -/
def NextIs (ps : List ProdS) (S : Nat → Bool) (j : Nat) (z : Int) : Prop := IsLeast (fun n => j ≤ n ∧ Free ps S n) z
theorem nextIs_end {ps : List ProdS} {S : Nat → Bool} (hS : ∀ n, S n = true → n < ps.length) : NextIs ps S ps.length (-1) :=
  .inl ⟨rfl, fun n hn => by have := hS n hn.2.1; omega⟩
theorem nextIs_skip {ps : List ProdS} {S : Nat → Bool} {i : Nat} {z : Int} (h : NextIs ps S (i + 1) z) (hf : ¬ Free ps S i) : NextIs ps S i z := by
  have e : (fun n => i ≤ n ∧ Free ps S n) = fun n => i + 1 ≤ n ∧ Free ps S n := by
    funext n
    refine propext ⟨fun hn => ⟨?_, hn.2⟩, fun hn => ⟨by omega, hn.2⟩⟩
    by_cases e : n = i
    · subst e; exact absurd hn.2 hf
    · omega
  unfold NextIs
  rw [e]
  exact h
theorem nextIs_take {ps : List ProdS} {S : Nat → Bool} {i : Nat} (hf : Free ps S i) : NextIs ps S i (i : Int) :=
  .inr ⟨i, rfl, ⟨Nat.le_refl _, hf⟩, fun m hm => hm.1⟩
theorem nextIs_zero {ps : List ProdS} {S : Nat → Bool} {z : Int} (h : NextIs ps S 0 z) : (z = -1 ∧ ∀ n, ¬ Free ps S n) ∨ ∃ n : Nat, z = n ∧ Free ps S n ∧ ∀ m, Free ps S m → n ≤ m := by
  rcases h with ⟨h1, h2⟩ | ⟨n, h1, h2, h3⟩
  · exact .inl ⟨h1, fun n hn => h2 n ⟨by omega, hn⟩⟩
  · exact .inr ⟨n, h1, h2.2, fun m hm => h3 m ⟨by omega, hm⟩⟩
end Go.Proofs.YtkminfdblimiiaaGreatDoor
