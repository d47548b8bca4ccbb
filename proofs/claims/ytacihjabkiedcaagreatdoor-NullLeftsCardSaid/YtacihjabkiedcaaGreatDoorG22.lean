/- Who is empty, as bools: the walk of null.All. -/
import Derived.Test.YtacihjabkiedcaaGreatDoorG19
import Derived.Test.YtacihjabkiedcaaGreatDoorG17
import Derived.Test.YtacihjabkiedcaaGreatDoorG15
import Derived.Test.YtacihjabkiedcaaGreatDoorG21
set_option linter.unusedVariables false
set_option linter.unusedSimpArgs false
namespace Go.Proofs.YtacihjabkiedcaaGreatDoor
open Go Go.RowKit Go.MapKept

/-- Whether each is empty. -/
def allR (ps : List ProdS) : List Bool := if gmay ps = true then bl ps.length (emptyF ps) else []
/-- What is told when k are told. -/
def partB (n : Nat) (L : List Int) (k : Nat) : List Bool := (List.range n).map (fun (j : Nat) => decide (j < k) && decide ((j : Int) ∈ L))
theorem partB_len (n : Nat) (L : List Int) (k : Nat) : (partB n L k).length = n := by simp [partB]
theorem partB_zero (n : Nat) (L : List Int) : partB n L 0 = List.replicate n false := by
  apply List.ext_getElem (by simp [partB])
  intro i h1 h2
  simp [partB]
theorem partB_succ (n : Nat) (L : List Int) (k : Nat) (h : k < n) : partB n L (k + 1) = (partB n L k).set k (decide ((k : Int) ∈ L)) := by
  apply List.ext_getElem (by simp [partB])
  intro i h1 h2
  rw [List.getElem_set]
  simp only [partB, List.getElem_map, List.getElem_range]
  by_cases e : k = i
  · subst e; simp
  · rw [if_neg e]
    have : (i < k + 1) = (i < k) := by simp; omega
    simp only [this]
theorem partB_all (n : Nat) (L : List Int) : partB n L n = bl n L := by
  apply List.ext_getElem (by simp [partB, bl])
  intro i h1 h2
  have : i < n := by simpa [partB] using h1
  simp [partB, bl, this]
set_option maxRecDepth 20000 in
set_option maxHeartbeats 4000000 in
theorem all_nulls (S : List Nat) (A K : Option Addr) (C m D : Nat) (ps : List ProdS) (w : World) (HP : Prods S w (.slice A ps.length C) ps) (hS : ∀ b ∈ S, b < w.heap.size) :
    Calls Tryz.prog 25 #[.agg #[.slice A ps.length C, .slice K m D]] w fun e w' => (∃ v, e = .returned v ∧ BoolV w' w.heap.size v (allR ps)) ∧ Keep [] w w' := by
  have K0 := (Keep.refl [] w).alloc (.cells #[.slice A ps.length C, .slice K m D] 25)
  have HP0 : Prods S _ (.slice A ps.length C) ps := SlOf.move HP prodRow_stab (by omega) K0 (by simp) (fun x hx => .inl hx)
  have B0 := Blk.new w #[.slice A ps.length C, .slice K m D] 25
  have hcall := may_any S (.slice A ps.length C) (.slice K m D) ps _ HP0
  have HC := Lib.hid hcall; clear hcall
  cases hg : gmay ps with
  | false =>
    have hr : allR ps = [] := by simp [allR, hg]
    rw [hr]
    go_enter Tryz.func25, Tryz.ntmps25
    go_wp2_with fail
    refine HC.out.mono ?_
    rintro e w1 ⟨rfl, K1⟩
    rw [hg]
    go_wp2
    go_ret
    exact ⟨⟨_, rfl, .inl ⟨rfl, rfl⟩⟩, K0.trans K1⟩
  | true =>
    obtain ⟨hl0, hl1⟩ := gmay_len hg
    obtain ⟨R, hRes⟩ : ∃ R, R = allR ps := ⟨_, rfl⟩
    rw [← hRes]
    have HRS : Hid (R = partB ps.length (emptyF ps) ps.length) := Lib.hid (by rw [hRes, partB_all]; simp [allR, hg])
    have HPP := Lib.hid HP0
    have HSS := Lib.hid hS
    clear hRes HP0 HP hS
    go_enter Tryz.func25, Tryz.ntmps25
    go_wp2_with fail
    refine HC.out.mono ?_
    rintro e w1 ⟨rfl, K1⟩
    rw [hg]
    have B1 := B0.keep K1 (by simp)
    have b0 := B1.cell 0
    have b1 := B1.cell 1
    have K01 := K0.trans K1
    have hsz : w.heap.size ≤ w1.heap.size := K01.size
    have hcall2 := nullOf_any A K C m D S ps w1 (SlOf.move HPP.out prodRow_stab (by omega) K1 (by simp) (fun x hx => .inl hx)) (fun b hb => Nat.lt_of_lt_of_le (HSS.out b hb) hsz) (by omega)
    have HC2 := Lib.hid hcall2
    clear hcall2 HC B0
    go_wp2_with fail
    refine HC2.out.mono ?_
    rintro e w2 ⟨rfl, hF, K2⟩
    clear HC2 b0 b1
    have B2 := B1.keep K2 (by simp)
    have c0 := B2.cell 0
    have hmk := make_bools w2 ps.length (by omega)
    have KA := (Keep.refl [] w2).alloc (.cells (boolC (List.replicate ps.length false)) 4)
    have BR0 := Blk.new w2 (boolC (List.replicate ps.length false)) 4
    have HF := Lib.hid (hF.keep KA (by simp) (by simp))
    have HK := Lib.hid ((K01.trans K2).trans KA)
    have hfb : w1.heap.size + 2 < w2.heap.size ∧ w1.heap.size + 1 < w2.heap.size := ⟨hF.B.lt, hF.M.lt⟩
    obtain ⟨hfb1, hfb2⟩ := hfb
    generalize emptyF ps = L at HF HRS
    have hT0 : Keep [w2.heap.size] (w2.alloc (.cells (boolC (List.replicate ps.length false)) 4)) (w2.alloc (.cells (boolC (List.replicate ps.length false)) 4)) ∧ Blk (w2.alloc (.cells (boolC (List.replicate ps.length false)) 4)) w2.heap.size (boolC (partB ps.length L 0)) 4 := ⟨Keep.refl _ _, by rw [partB_zero]; exact BR0⟩
    have HT0 := Lib.hid hT0
    obtain ⟨W3, hW3⟩ : ∃ W, W = w2.alloc (.cells (boolC (List.replicate ps.length false)) 4) := ⟨_, rfl⟩
    rw [← hW3] at HF HK HT0
    have hbr : w.heap.size ≤ w2.heap.size := (K01.trans K2).size
    have HW3 := Lib.hid hW3
    clear hF KA BR0 hT0 hW3 K01 K2 K1 B1 B2
    go_wp2
    rw [← HW3.out]
    clear c0 hmk HW3
    go_loopw [17] (fun i wr => ∃ k : Nat, k ≤ ps.length ∧ i = .int .i64 k ∧ Keep [w2.heap.size] W3 wr ∧ Blk wr w2.heap.size (boolC (partB ps.length L k)) 4) (fun i _ => ps.length - (intOf i).toNat)
    case atStart => exact ⟨0, by omega, rfl, HT0.out⟩
    case round =>
      clear HT0
      obtain ⟨k, hk, rfl, Kr, BRr⟩ := hrel
      by_cases hlt : k < ps.length
      · have hlt' : (k : Int) < (ps.length : Int) := by omega
        have HLT := Lib.hid hlt
        have HSU : Hid (partB ps.length L (k + 1) = (partB ps.length L k).set k (decide ((k : Int) ∈ L))) := Lib.hid (partB_succ _ _ _ hlt)
        have hpl : (partB ps.length L k).length = ps.length := partB_len _ _ _
        generalize partB ps.length L k = q at BRr HSU hpl
        have HQL := Lib.hid hpl
        clear hpl
        have Fr := HF.out.keep Kr (by simp; omega) (by simp; omega)
        have g2 := Fr.B.cell 2
        have hlk := set_look Fr.M (k : Int)
        have r0 := BRr.cell k
        rw [boolC_at _ _ (by rw [HQL.out]; exact hlt)] at r0
        have f0 := BRr.frozen k
        generalize decide ((k : Int) ∈ L) = bn at hlk HSU
        have HFIN : Hid (Keep [w2.heap.size] W3 (wr.setCell ⟨w2.heap.size, k, none⟩ (.bool bn)) ∧ Blk (wr.setCell ⟨w2.heap.size, k, none⟩ (.bool bn)) w2.heap.size (boolC (partB ps.length L (k + 1))) 4) := Lib.hid ⟨Kr.setCell (p := ⟨w2.heap.size, k, none⟩) (by simp) (.bool bn), by rw [HSU.out, ← boolC_set]; exact BRr.set k (.bool bn)⟩
        clear HSU Fr BRr Kr
        go_wp2
        go_roundw
        case rel => exact ⟨k + 1, by have := HLT.out; omega, by go_num, HFIN.out⟩
        case measure => simp [intOf]; have := HLT.out; omega
      · obtain rfl : k = ps.length := by omega
        have HFIN : Hid (BoolV wr w.heap.size (.slice (some ⟨w2.heap.size, 0, none⟩) ps.length ps.length) R ∧ Keep [] w wr) := Lib.hid ⟨.inr ⟨by rw [HRS.out]; intro e; have h9 := congrArg List.length e; rw [partB_len] at h9; exact absurd h9 (by simp only [List.length_nil]; omega), _, by rw [HRS.out, partB_len], by rw [HRS.out]; exact BRr, hbr⟩, HK.out.then Kr (fun x hx => by simp at hx; subst hx; right; exact hbr)⟩
        clear BRr Kr
        go_wp2
        go_ret
        exact ⟨⟨_, rfl, HFIN.out.1⟩, HFIN.out.2⟩
end Go.Proofs.YtacihjabkiedcaaGreatDoor
/- The text of exegetelaw09's awake. -/
namespace Go.Proofs.YtacihjabkiedcaaGreatDoor
open Go Go.RowKit Go.MapKept

def t9 : ByteArray := ⟨#[97, 32, 61, 32, 98, 32, 99, 59, 32, 98, 32, 61, 32, 59, 32, 99, 32, 61, 32, 34, 120, 34, 59]⟩
def f9 : FileS := ⟨[], [⟨⟨#[97]⟩, 0, .mk 4 ⟨#[]⟩ [] [.mk 0 ⟨#[98]⟩ [] [] 4, .mk 0 ⟨#[99]⟩ [] [] 6] 4, [], 0⟩, ⟨⟨#[98]⟩, 0, .mk 4 ⟨#[]⟩ [] [] 13, [], 9⟩, ⟨⟨#[99]⟩, 0, .mk 1 ⟨#[120]⟩ [] [] 19, [], 15⟩]⟩
def g9 : GramS := ⟨[⟨[[⟨2, [], 1⟩, ⟨2, [], 2⟩]], 0, []⟩, ⟨[[]], 0, []⟩, ⟨[[⟨0, [⟨120, 120⟩], 0⟩]], 0, []⟩], []⟩
theorem text9 : TextOK 3 t9 f9 g9 := by
  refine ⟨by decide, by decide, by decide, by kernel_rfl, by kernel_rfl, ⟨by decide, ?_, by decide, okFile_of (by kernel_rfl), by kernel_rfl, rfl⟩⟩
  · show [(⟨#[97]⟩ : ByteArray), ⟨#[98]⟩, ⟨#[99]⟩].Nodup
    decide
theorem r9a : allR g9.p = [false, true, false] := by kernel_rfl
theorem r9l : leftsAll (emptyF g9.p) ((g9.p[0]?).map (·.a) |>.getD []) = [1, 2] := by kernel_rfl
theorem r9m : gmay g9.p = true := by kernel_rfl
theorem r9b : leftsR g9.p 0 = [1, 2] := by
  unfold leftsR
  rw [if_pos ⟨r9m, by omega, by decide⟩]
  show compI (sortI (leftsAll (emptyF g9.p) ((g9.p[0]?).map (·.a) |>.getD []))) = [1, 2]
  rw [r9l]
  have h1 : sortI [1, 2] = [1, 2] := by
    unfold sortI
    exact List.mergeSort_of_pairwise (by simp)
  rw [h1]
  decide
theorem r9c : emptyR g9.p [] = true := by kernel_rfl
end Go.Proofs.YtacihjabkiedcaaGreatDoor
/- Two lists of numbers are held against each other: the walk of the reference's Ints. -/
namespace Go.Proofs.YtacihjabkiedcaaGreatDoor
open Go Go.RowKit Go.MapKept

set_option maxHeartbeats 2000000 in
theorem ints_any (b0 b1 : Nat) (v u : Value) (bs cs : List Int) (w : World) (H : IntV w b0 v bs) (G : IntV w b1 u cs) :
    Calls Tryz.prog 28 #[v, u] w fun e w' => e = .returned (.bool (decide (bs = cs))) ∧ Keep [] w w' := by
  obtain ⟨A, C, rfl, hbl, hc⟩ := H.cells
  obtain ⟨B, D, rfl, hcl, hd⟩ := G.cells
  have HH := Lib.hid hc; clear hc H
  have GG := Lib.hid hd; clear hd G
  by_cases hl : bs.length = cs.length
  · have hlb : ((bs.length : Int) != (cs.length : Int)) = false := by simp [hl]
    have HL := Lib.hid hl
    have hl2 : (cs.length : Int) = (bs.length : Int) := by omega
    clear hl
    go_enter Tryz.func28, Tryz.ntmps28
    go_wp2
    go_loopw [5] (fun i wr => ∃ k : Nat, k ≤ bs.length ∧ i = .int .i64 k ∧ Hid (∀ j (hj : j < k) (h1 : j < bs.length) (h2 : j < cs.length), bs[j] = cs[j]) ∧ Keep [] w wr) (fun i _ => bs.length - (intOf i).toNat)
    case atStart => exact ⟨0, by omega, rfl, Lib.hid (fun j hj => by omega), Keep.refl _ _⟩
    case round =>
      obtain ⟨k, hk, rfl, hno, Kr⟩ := hrel
      by_cases hlt : k < bs.length
      · have hlt' : (k : Int) < (bs.length : Int) := by omega
        have hltc : k < cs.length := by omega
        obtain ⟨b, o, rfl, hc⟩ := HH.out (by omega)
        obtain ⟨c, p, rfl, hd⟩ := GG.out (by omega)
        have e0 := Kr.cell (hc k hlt) (by simp)
        have e1 := Kr.cell (hd k hltc) (by simp)
        have HLT := Lib.hid hlt
        have HE : Hid (bs[k] = cs[k] → ∀ j (hj : j < k + 1) (h1 : j < bs.length) (h2 : j < cs.length), bs[j] = cs[j]) := Lib.hid (fun he j hj h1 h2 => by
          by_cases e : j = k
          · subst e; exact he
          · exact hno.out j (by omega) h1 h2)
        have HN : Hid (bs[k] ≠ cs[k] → decide (bs = cs) = false) := Lib.hid (fun hne => by simp; intro e; subst e; exact hne rfl)
        clear hc hd hno
        generalize bs[k] = x at e0 HE HN
        generalize cs[k] = y at e1 HE HN
        by_cases hxy : x = y
        · subst hxy
          have hq : (x != x) = false := by simp
          go_wp2
          go_quiet (fail)
          go_wp2
          go_roundw
          case rel => exact ⟨k + 1, by have := HLT.out; omega, by go_num, Lib.hid (HE.out (by simp)), Kr.drewN _⟩
          case measure => simp [intOf]; have := HLT.out; omega
        · have hq : (x != y) = true := by simpa using hxy
          have HX := Lib.hid hxy
          clear hxy
          go_wp2
          go_quiet (fail)
          go_wp2
          go_ret
          rw [HN.out HX.out]
          exact ⟨rfl, Kr.drewN _⟩
      · have heq : decide (bs = cs) = true := by
          simp only [decide_eq_true_eq]
          exact List.ext_getElem HL.out (fun j h1 h2 => hno.out j (by omega) h1 h2)
        have HEQ := Lib.hid heq
        obtain rfl : k = bs.length := by omega
        clear heq hno
        go_wp2
        go_ret
        rw [HEQ.out]
        exact ⟨rfl, Kr⟩
  · have hlb : ((bs.length : Int) != (cs.length : Int)) = true := by simp; omega
    have hne : decide (bs = cs) = false := by simp; intro e; exact hl (by rw [e])
    rw [hne]
    clear hl hne
    go_enter Tryz.func28, Tryz.ntmps28
    go_wp2
    go_ret
    exact ⟨rfl, Keep.refl _ _⟩
end Go.Proofs.YtacihjabkiedcaaGreatDoor
/- exegetelaw09's awake is true. -/
namespace Go.Proofs.YtacihjabkiedcaaGreatDoor
open Go Go.RowKit Go.MapKept

theorem IntV.keep {w w' : World} {base : Nat} {v : Value} {xs : List Int} {S : List Nat} (h : IntV w base v xs) (K : Keep S w w') (hS : ∀ b ∈ S, b < base) : IntV w' base v xs := by
  rcases h with h | ⟨b, o, C, h1, h2, h3, h4, h5, h6⟩
  · exact .inl h
  · refine .inr ⟨b, o, C, h1, h2, Nat.lt_of_lt_of_le h3 K.size, h4, h5, fun j hj => ?_⟩
    have hb := K.block b h3 (fun hb => by have := hS b hb; omega)
    obtain ⟨c1, c2⟩ := h6 j hj
    exact ⟨by rw [← c1]; simp only [World.cell?, hb], by rw [← c2]; simp only [World.frozen?, hb]⟩
structure Aw9F (g : GramS) : Prop where
  a : allR g.p = [false, true, false]
  b : leftsR g.p 0 = [1, 2]
  c : emptyR g.p [] = true
  d : g.p.length ≤ 1000
theorem aw9F : Aw9F g9 := ⟨r9a, r9b, r9c, by decide⟩
set_option maxRecDepth 20000 in
set_option maxHeartbeats 2000000 in
theorem awake9_any (w : World) : Calls Tryz.prog 26 #[] w fun e w' => e = .returned (.bool true) ∧ Keep [] w w' := by
  have hf := fun w => file_known [] t9 f9 w (by simp) text9.size text9.no1 text9.no2 text9.lex text9.parse
  have ho := text9.of
  have hA := aw9F
  generalize f9 = f at hf ho
  generalize g9 = g at ho hA
  have HF := Lib.hid hf
  have HO := Lib.hid ho
  have HA := Lib.hid hA
  clear hf ho hA
  go_enter Tryz.func26, Tryz.ntmps26
  go_wp2_with fail
  refine (HF.out _).mono ?_
  rintro e w1 ⟨K1, row, rfl, hfile⟩
  clear HF
  obtain ⟨A1, C1, D1, E1, rfl, hk1, hr1⟩ := hfile
  have KF := (Keep.refl [] w1).alloc (.cells #[.slice A1 f.keys.length C1, .slice D1 f.rules.length E1] 67)
  have hcall := of_known [] 3 f g #[.slice A1 f.keys.length C1, .slice D1 f.rules.length E1] _ HO.out (by simp) ⟨_, _, _, _, rfl, SlOf.move hk1 strRow_stab (by omega) KF (by simp) (fun x hx => .inl hx), SlOf.move hr1 ruleAt_stab (by omega) KF (by simp) (fun x hx => .inl hx)⟩
  have HC := Lib.hid hcall; clear hcall hk1 hr1
  have hmv : ∀ (x y z : Value) (w : World), (Instr.extract (.tuple #[x, y, z]) 0).run Tryz.prog w = .ok x w := fun _ _ _ _ => rfl
  have hmv1 : ∀ (x y z : Value) (w : World), (Instr.extract (.tuple #[x, y, z]) 1).run Tryz.prog w = .ok y w := fun _ _ _ _ => rfl
  have hmv2 : ∀ (x y z : Value) (w : World), (Instr.extract (.tuple #[x, y, z]) 2).run Tryz.prog w = .ok z w := fun _ _ _ _ => rfl
  go_wp2_with fail
  refine HC.out.mono ?_
  rintro e w2 ⟨row2, rfl, hg, K2⟩
  clear HC
  obtain ⟨A2, C2, D2, E2, rfl, hP, hK⟩ := hg
  have K3 := (Keep.refl [] w2).alloc (.cells #[.slice A2 g.p.length C2, .slice D2 g.keys.length E2] 25)
  have B3 := Blk.new w2 #[.slice A2 g.p.length C2, .slice D2 g.keys.length E2] 25
  have hP3 : Prods [] _ (.slice A2 g.p.length C2) g.p := SlOf.move hP prodRow_stab (by omega) K3 (by simp) (fun x hx => .inl hx)
  have KS : Keep [] w _ := (((K1.trans KF).trans K2).trans K3)
  clear K1 KF K2 hP hK
  go_wp2_with fail
  refine (all_nulls [] A2 D2 C2 g.keys.length E2 g.p _ hP3 (by simp)).mono ?_
  rintro e w4 ⟨⟨v, rfl, hbv⟩, K4⟩
  rw [HA.out.a] at hbv
  have K5 := (Keep.refl [] w4).alloc (.cells #[.bool false, .bool true, .bool false] 4)
  have hbv5 := hbv.keep K5 (by simp)
  have hlit : BoolV (w4.alloc (.cells #[.bool false, .bool true, .bool false] 4)) w4.heap.size (.slice (some ⟨w4.heap.size, 0, none⟩) 3 3) [false, true, false] := .inr ⟨by simp, _, rfl, Blk.new w4 #[.bool false, .bool true, .bool false] 4, Nat.le_refl _⟩
  have hcall := bools_any _ _ _ _ _ _ hbv5 (hlit.mono K4.size) (by simp) (by simp)
  have hdec : decide ([false, true, false] = [false, true, false]) = true := by decide
  rw [hdec] at hcall
  have HC := Lib.hid hcall; clear hcall hbv5 hlit hbv hdec
  go_wp2_with fail
  refine HC.out.mono ?_
  rintro e w6 ⟨rfl, K6⟩
  clear HC
  have K46 := (K4.trans K5).trans K6
  have B6 := B3.keep K46 (by simp)
  have b6 := B6.cell
  have hP6 : Prods [] w6 (.slice A2 g.p.length C2) g.p := SlOf.move hP3 prodRow_stab (by omega) K46 (by simp) (fun x hx => .inl hx)
  have KS6 := KS.trans K46
  clear K4 K5 K6 K46 KS B3 hP3
  go_wp2_with fail
  refine (lefts_any A2 D2 C2 g.keys.length E2 0 [] g.p w6 hP6 (by simp) (by have := HA.out.d; omega)).mono ?_
  rintro e w7 ⟨⟨v7, rfl, hv7⟩, K7⟩
  rw [HA.out.b] at hv7
  have K8 := (Keep.refl [] w7).alloc (.cells #[.int .i64 1, .int .i64 2] 3)
  have hv8 : IntV (w7.alloc (.cells #[.int .i64 1, .int .i64 2] 3)) w6.heap.size v7 [1, 2] := hv7.keep K8 (by simp)
  have hlit : IntV (w7.alloc (.cells #[.int .i64 1, .int .i64 2] 3)) w7.heap.size (.slice (some ⟨w7.heap.size, 0, none⟩) 2 2) [1, 2] := .inr ⟨_, _, _, rfl, Nat.le_refl _, by simp, by simp, by simp, fun j hj => by
    have B := Blk.new w7 #[.int .i64 1, .int .i64 2] 3
    have h1 := B.cell j
    have h2 := B.frozen j
    have hj' : j < 2 := by simpa using hj
    match j, hj' with
    | 0, _ => exact ⟨by simp, by simp⟩
    | 1, _ => exact ⟨by simp, by simp⟩⟩
  have hcall := ints_any _ _ _ _ _ _ _ hv8 hlit
  have hdec : decide (([1, 2] : List Int) = [1, 2]) = true := by decide
  rw [hdec] at hcall
  have HC := Lib.hid hcall; clear hcall hv7 hv8 hlit hdec
  go_wp2_with fail
  refine HC.out.mono ?_
  rintro e w9 ⟨rfl, K9⟩
  clear HC
  have K79 := (K7.trans K8).trans K9
  have B9 := B6.keep K79 (by simp)
  have b9 := B9.cell
  have hP9 : Prods [] w9 (.slice A2 g.p.length C2) g.p := SlOf.move hP6 prodRow_stab (by omega) K79 (by simp) (fun x hx => .inl hx)
  have KS9 := KS6.trans K79
  have hem := empty_any A2 D2 none C2 g.keys.length E2 0 [] g.p [] w9 hP9 (by simp) (SlOf.nil _ _ _)
  rw [HA.out.c] at hem
  have HE := Lib.hid hem
  clear K7 K8 K9 K79 KS6 B6 hP6 b6 hem
  go_wp2_with fail
  refine HE.out.mono ?_
  rintro e w10 ⟨rfl, K10⟩
  have KF := KS9.trans K10
  clear b9 HE
  go_wp2
  go_ret
  exact ⟨rfl, KF⟩
end Go.Proofs.YtacihjabkiedcaaGreatDoor
/- NullLefts: the walk. -/
namespace Go.Proofs.YtacihjabkiedcaaGreatDoor
open Go Go.RowKit Go.MapKept

theorem symIn_succ (a : List SymS) (z : Int) (j : Nat) (h : j < a.length) : symIn (a.take (j + 1)) z = (symIn (a.take j) z || (decide (a[j].k = 2) && decide (a[j].n = z))) := by
  unfold symIn
  rw [List.take_succ_eq_append_getElem h, List.any_append]
  simp
theorem altIn_succ (al : List (List SymS)) (z : Int) (k : Nat) (h : k < al.length) : altIn (al.take (k + 1)) z = (altIn (al.take k) z || symIn al[k] z) := by
  unfold altIn
  rw [List.take_succ_eq_append_getElem h, List.any_append]
  simp
set_option maxRecDepth 20000 in
set_option maxHeartbeats 4000000 in
theorem nullLefts_walk (A K : Option Addr) (C m D : Nat) (ps : List ProdS) (a : Int) (w : World) (HP : Prods [] w (.slice A ps.length C) ps) (hmk : m ≤ 9223372036854775807) :
    Calls Tryz.prog 10 #[.agg #[.slice A ps.length C, .slice K m D], .int .i64 a] w fun e w' => e = .returned (.bool true) ∧ Keep [] w w' := by
  have K0 := (Keep.refl [] w).alloc (.cells #[.slice A ps.length C, .slice K m D] 25)
  have HP0 : Prods [] _ (.slice A ps.length C) ps := SlOf.move HP prodRow_stab (by omega) K0 (by simp) (fun x hx => .inl hx)
  have B0 := Blk.new w #[.slice A ps.length C, .slice K m D] 25
  clear HP
  go_enter Tryz.func10, Tryz.ntmps10
  go_wp2_with fail
  refine (awake9_any _).mono ?_
  rintro e w1 ⟨rfl, K1⟩
  have B1 := B0.keep K1 (by simp)
  have b1 := B1.cell
  have HP1 : Prods [] w1 (.slice A ps.length C) ps := SlOf.move HP0 prodRow_stab (by omega) K1 (by simp) (fun x hx => .inl hx)
  go_wp2_with fail
  refine (few_any [] A K C m D ps _ HP1 hmk).mono ?_
  rintro e w2 ⟨⟨fw, rfl⟩, K2⟩
  have B2 := B1.keep K2 (by simp)
  have b2 := B2.cell
  have HP2 : Prods [] w2 (.slice A ps.length C) ps := SlOf.move HP1 prodRow_stab (by omega) K2 (by simp) (fun x hx => .inl hx)
  have KF2 := (K0.trans K1).trans K2
  clear HP0 HP1 B0 B1 b1
  cases fw with
  | false =>
    go_wp2
    go_ret
    exact ⟨rfl, KF2⟩
  | true =>
    have hc3 := may_any [] (.slice A ps.length C) (.slice K m D) ps _ HP2
    have HC3 := Lib.hid hc3
    clear hc3
    go_wp2_with fail
    refine HC3.out.mono ?_
    rintro e w3 ⟨rfl, K3⟩
    have B3 := B2.keep K3 (by simp)
    have b3 := B3.cell
    have HP3 : Prods [] w3 (.slice A ps.length C) ps := SlOf.move HP2 prodRow_stab (by omega) K3 (by simp) (fun x hx => .inl hx)
    have KF3 := KF2.trans K3
    clear HP2 B2 b2 HC3
    cases hg : gmay ps with
    | false =>
      go_wp2
      go_ret
      exact ⟨rfl, KF3⟩
    | true =>
      obtain ⟨hl0, hl1⟩ := gmay_len hg
      by_cases ha0 : a < 0
      · clear HP3
        go_wp2
        go_ret
        exact ⟨rfl, KF3⟩
      · obtain ⟨n, rfl⟩ : ∃ n : Nat, a = n := ⟨a.toNat, by omega⟩
        by_cases hlt : n < ps.length
        · have hlt' : (n : Int) < (ps.length : Int) := by omega
          have hlf := lefts_any A K C m D n [] ps w3 HP3 (by simp) (by omega)
          have HLF := Lib.hid hlf
          have HS := Lib.hid (leftsR_strict ps n)
          have HA := Lib.hid (leftsR_alt ps n hlt)
          have HZ := Lib.hid (leftsR_first ps n hg hlt)
          have hlens := gmay_lens hg ps[n] (List.getElem_mem _)
          generalize leftsR ps n = l at HLF HS HA HZ
          obtain ⟨_, _, hv, _, hrd⟩ := SlOf.at HP3
          simp only [Value.slice.injEq, true_and] at hv
          obtain ⟨rfl, rfl⟩ := hv
          obtain ⟨bp, op, rfl, hbp, hcp⟩ := hrd (by omega)
          obtain ⟨prow, hz, hcell, hR⟩ := hcp n hlt
          obtain ⟨A2, C2, N2, F2, rfl, hR2, hR3⟩ := hR
          have e0 : w3.cell? ⟨bp, op + n * 3, none⟩ = some (.slice A2 ps[n].a.length C2) := hcell 0 (by omega)
          generalize ps[n].a = al at e0 hR2 HA HZ hlens
          have HAL := Lib.hid hR2
          have hall : al.length ≤ 9223372036854775807 := by obtain ⟨_, ⟨_, _, _, hm, _⟩, h2, _⟩ := hR2; omega
          have hlf := 0
          clear hlf hcell hcp hrd hz hR2 hR3 HP3 hg
          go_wp2_with fail
          refine HLF.out.mono ?_
          rintro e w5 ⟨⟨vl, rfl, hvl⟩, K5⟩
          obtain ⟨AL, CL, rfl, hlL, hcl⟩ := hvl.cells
          have HCL := Lib.hid hcl
          have B5 := B3.keep K5 (by simp)
          have G0 := Lib.hid (B5.cell 0)
          have E0 := Lib.hid (Keep.cell (T := []) K5 e0 (by simp))
          have hA5 : SlOf AltRow [] w5 1 (.slice A2 al.length C2) al := SlOf.move HAL.out altRow_stab (by omega) K5 (by simp) (fun x hx => .inl hx)
          have HA5 := Lib.hid hA5
          have HKF := Lib.hid (KF3.trans K5)
          clear hcl hvl HLF hA5 HAL e0 b3 B3 B5 K5 KF3
          go_wp2
          go_loopw [8] (fun i wr => ∃ k : Nat, k ≤ l.length ∧ i = .int .i64 k ∧ Keep [] w5 wr) (fun i _ => l.length - (intOf i).toNat)
          case atStart => exact ⟨0, by omega, rfl, Keep.refl _ _⟩
          case round =>
            obtain ⟨t, ht, rfl, Kr⟩ := hrel
            by_cases htl : t < l.length
            · have htl' : (t : Int) < (l.length : Int) := by omega
              have HTL := Lib.hid htl
              obtain ⟨bl, ol, rfl, hcl⟩ := HCL.out (by omega)
              have hpr : 0 < t → ∃ y, w5.cell? ⟨bl, ol + (t - 1), none⟩ = some (.int .i64 y) ∧ y < l[t] := fun h => ⟨l[t - 1], hcl (t - 1) (by omega), List.pairwise_iff_getElem.1 HS.out (t - 1) t (by omega) htl (by omega)⟩
              have HAZ := Lib.hid (HA.out l[t] (List.getElem_mem _))
              have HZ0 := Lib.hid (hcl t htl)
              have HPR := Lib.hid hpr
              generalize l[t] = z at HAZ HZ0 HPR
              clear hcl hpr
              have HKr := Lib.hid Kr
              clear Kr
              obtain ⟨wo, rfl⟩ : ∃ wo : World, wo = wr := ⟨_, rfl⟩
              go_wp2
              go_loopw [9, 10] (fun b i wr => ∃ k : Nat, k ≤ al.length ∧ i = .int .i64 k ∧ b = .bool (altIn (al.take k) z) ∧ Keep [] w5 wr) (fun _ i _ => al.length - (intOf i).toNat)
              case atStart => exact ⟨0, by omega, rfl, by simp [altIn], HKr.out⟩
              case round =>
                obtain ⟨k, hk, rfl, rfl, Kr⟩ := hrel
                have g0 := Kr.cell G0.out (by simp)
                have e0 := Kr.cell E0.out (by simp)
                by_cases hkl : k < al.length
                · have hkl' : (k : Int) < (al.length : Int) := by omega
                  have HKL := Lib.hid hkl
                  obtain ⟨_, _, hv, _, hr2⟩ := SlOf.at HA5.out
                  simp only [Value.slice.injEq, true_and] at hv
                  obtain ⟨rfl, rfl⟩ := hv
                  obtain ⟨b2, o2, rfl, hb2, hc2⟩ := hr2 (by omega)
                  obtain ⟨row, hz2, hcell2, hRr⟩ := hc2 k hkl
                  obtain ⟨A3, C3, rfl, hR3⟩ := hRr
                  have f5 : w5.cell? ⟨b2, o2 + k, none⟩ = some (.slice A3 al[k].length C3) := by
                    have := hcell2 0 (by omega)
                    simp only [Nat.mul_one, Nat.add_zero] at this
                    exact this
                  have HSA : Hid (altIn (al.take (k + 1)) z = (altIn (al.take k) z || symIn al[k] z)) := Lib.hid (altIn_succ al z k hkl)
                  generalize altIn (al.take k) z = q0 at HSA ⊢
                  generalize al[k] = a at f5 hR3 HSA
                  have HF5 := Lib.hid f5
                  have HY := Lib.hid hR3
                  have haL : a.length ≤ 9223372036854775807 := by obtain ⟨_, ⟨_, _, _, hm, _⟩, h2, _⟩ := hR3; omega
                  have HKr2 := Lib.hid Kr
                  clear hcell2 hc2 hr2 hz2 hR3 f5 Kr HKr
                  obtain ⟨wp, rfl⟩ : ∃ wp : World, wp = wr := ⟨_, rfl⟩
                  go_wp2
                  clear g0 e0
                  go_loopw [9, 11] (fun b i wr => ∃ r : Nat, r ≤ a.length ∧ i = .int .i64 r ∧ b = .bool (q0 || symIn (a.take r) z) ∧ Keep [] w5 wr) (fun _ i _ => a.length - (intOf i).toNat)
                  case atStart => exact ⟨0, by omega, rfl, by simp [symIn], HKr2.out⟩
                  case round =>
                    obtain ⟨r, hr, rfl, rfl, Kr⟩ := hrel
                    have g0 := Kr.cell G0.out (by simp)
                    have e0 := Kr.cell E0.out (by simp)
                    have f0 := Kr.cell HF5.out (by simp)
                    by_cases hrl : r < a.length
                    · have hrl' : (r : Int) < (a.length : Int) := by omega
                      have HRL := Lib.hid hrl
                      obtain ⟨_, _, hv, _, hr3⟩ := SlOf.at HY.out
                      simp only [Value.slice.injEq, true_and] at hv
                      obtain ⟨rfl, rfl⟩ := hv
                      obtain ⟨b3', o3, rfl, hb3, hc3⟩ := hr3 (by omega)
                      obtain ⟨srow, hz3, hcell3, hRs⟩ := hc3 r hrl
                      obtain ⟨B4, E4, rfl, hR4⟩ := hRs
                      have s0 : w5.cell? ⟨b3', o3 + r * 3, none⟩ = some (.int .i64 a[r].k) := hcell3 0 (by omega)
                      have s2 : w5.cell? ⟨b3', o3 + r * 3 + 2, none⟩ = some (.int .i64 a[r].n) := hcell3 2 (by omega)
                      have s0 := Kr.cell s0 (by simp)
                      have s2 := Kr.cell s2 (by simp)
                      have z0 := Kr.cell HZ0.out (by simp)
                      have HSS : Hid ((q0 || symIn (a.take (r + 1)) z) = ((q0 || symIn (a.take r) z) || (decide (a[r].k = 2) && decide (a[r].n = z)))) := Lib.hid (by rw [symIn_succ a z r hrl, Bool.or_assoc]; rfl)
                      generalize (q0 || symIn (a.take r) z) = q at HSS ⊢
                      generalize a[r] = s at s0 s2 HSS hR4
                      obtain ⟨sk, sr, sn⟩ := s
                      simp only at s0 s2 HSS
                      clear hcell3 hc3 hr3 hz3 hR4
                      cases q with
                      | true =>
                        have HQ : Hid ((q0 || symIn (a.take (r + 1)) z) = true) := Lib.hid (by rw [HSS.out]; simp)
                        clear HSS
                        go_wp2
                        go_quiet (fail)
                        go_wp2
                        go_roundw
                        case rel => exact ⟨r + 1, by have := HRL.out; omega, by go_num, by rw [HQ.out], Kr.drewN _⟩
                        case measure => simp [intOf]; have := HRL.out; omega
                      | false =>
                        by_cases h2 : sk = 2
                        · subst h2
                          by_cases hzz : sn = z
                          · subst hzz
                            have HQ : Hid ((q0 || symIn (a.take (r + 1)) sn) = true) := Lib.hid (by rw [HSS.out]; simp)
                            clear HSS
                            go_wp2
                            go_quiet (fail)
                            go_wp2
                            go_roundw
                            case rel => exact ⟨r + 1, by have := HRL.out; omega, by go_num, by rw [HQ.out], Kr.drewN _⟩
                            case measure => simp [intOf]; have := HRL.out; omega
                          · have hzb : (sn == z) = false := by simpa using hzz
                            have HQ : Hid ((q0 || symIn (a.take (r + 1)) z) = false) := Lib.hid (by rw [HSS.out]; simp [hzz])
                            clear HSS hzz
                            go_wp2
                            go_quiet (fail)
                            go_wp2
                            go_roundw
                            case rel => exact ⟨r + 1, by have := HRL.out; omega, by go_num, by rw [HQ.out], Kr.drewN _⟩
                            case measure => simp [intOf]; have := HRL.out; omega
                        · have h2b : (sk == 2) = false := by simpa using h2
                          have HQ : Hid ((q0 || symIn (a.take (r + 1)) z) = false) := Lib.hid (by rw [HSS.out]; simp [h2])
                          clear HSS h2
                          go_wp2
                          go_quiet (fail)
                          go_wp2
                          go_roundw
                          case rel => exact ⟨r + 1, by have := HRL.out; omega, by go_num, by rw [HQ.out], Kr.drewN _⟩
                          case measure => simp [intOf]; have := HRL.out; omega
                    · obtain rfl : r = a.length := by omega
                      have HQ : Hid ((q0 || symIn (a.take a.length) z) = altIn (al.take (k + 1)) z) := Lib.hid (by rw [HSA.out, List.take_length])
                      rw [HQ.out]
                      go_wp2
                      go_roundw
                      case rel => exact ⟨k + 1, by have := HKL.out; omega, by go_num, rfl, Kr⟩
                      case measure => simp [intOf]; have := HKL.out; omega
                · obtain rfl : k = al.length := by omega
                  have hat : altIn (al.take al.length) z = true := by rw [List.take_length]; exact HAZ.out
                  rw [hat]
                  clear hat
                  have z0 := Kr.cell HZ0.out (by simp)
                  by_cases h0 : 0 < t
                  · obtain ⟨y, y0, hyz⟩ := HPR.out h0
                    have y1 := Kr.cell y0 (by simp)
                    have hs1 : (t : Int) - 1 = ((t - 1 : Nat) : Int) := by omega
                    have hs2 : ((t - 1 : Nat) : Int) < (l.length : Int) := by omega
                    have hs3 : decide ((0 : Int) < (t : Int)) = true := by simp; omega
                    have hs4 : decide (z ≤ y) = false := by simp; omega
                    have hs5 : (0 : Int) < (t : Int) := by omega
                    clear y0
                    go_wp2
                    go_quiet (fail)
                    go_wp2
                    go_roundw
                    case rel => exact ⟨t + 1, by have := HTL.out; omega, by go_num, Kr.drewN _⟩
                    case measure => simp [intOf]; have := HTL.out; omega
                  · obtain rfl : t = 0 := by omega
                    go_wp2
                    go_quiet (fail)
                    go_wp2
                    go_roundw
                    case rel => exact ⟨0 + 1, by have := HTL.out; omega, by go_num, Kr.drewN _⟩
                    case measure => simp [intOf]; have := HTL.out; omega
            · obtain rfl : t = l.length := by omega
              have HKr := Lib.hid Kr
              clear Kr
              obtain ⟨wo, rfl⟩ : ∃ wo : World, wo = wr := ⟨_, rfl⟩
              go_wp2
              go_loopw [12] (fun i wr => ∃ k : Nat, k ≤ al.length ∧ i = .int .i64 k ∧ Keep [] w5 wr) (fun i _ => al.length - (intOf i).toNat)
              case atStart => exact ⟨0, by omega, rfl, HKr.out⟩
              case round =>
                obtain ⟨k, hk, rfl, Kr⟩ := hrel
                have g0 := Kr.cell G0.out (by simp)
                have e0 := Kr.cell E0.out (by simp)
                by_cases hkl : k < al.length
                · have hkl' : (k : Int) < (al.length : Int) := by omega
                  have HKL := Lib.hid hkl
                  obtain ⟨_, _, hv, _, hr2⟩ := SlOf.at HA5.out
                  simp only [Value.slice.injEq, true_and] at hv
                  obtain ⟨rfl, rfl⟩ := hv
                  obtain ⟨b2, o2, rfl, hb2, hc2⟩ := hr2 (by omega)
                  obtain ⟨row, hz2, hcell2, hRr⟩ := hc2 k hkl
                  obtain ⟨A3, C3, rfl, hR3⟩ := hRr
                  have f5 : w5.cell? ⟨b2, o2 + k, none⟩ = some (.slice A3 al[k].length C3) := by
                    have := hcell2 0 (by omega)
                    simp only [Nat.mul_one, Nat.add_zero] at this
                    exact this
                  have f0 := Kr.cell f5 (by simp)
                  have hfz := HZ.out al[k] (List.getElem_mem _)
                  generalize al[k] = a at f0 f5 hR3 hfz
                  have haL : a.length ≤ 9223372036854775807 := by obtain ⟨_, ⟨_, _, _, hm, _⟩, h2, _⟩ := hR3; omega
                  by_cases h0 : a.length = 0
                  · rw [h0] at f0
                    clear hcell2 hc2 hr2 hz2 hR3 f5 hfz h0 haL
                    go_wp2
                    clear g0 e0 f0
                    go_loopw [14, 15] (fun b i wr => i = .int .i64 0 ∧ b = .bool true ∧ Keep [] w5 wr) (fun _ _ _ => 0)
                    case atStart => exact ⟨rfl, rfl, Kr⟩
                    case round =>
                      obtain ⟨rfl, rfl, Kr⟩ := hrel
                      by_cases hll : 0 < l.length
                      · have hd : decide ((0 : Int) < (l.length : Int)) = true := by simp; omega
                        have hd2 : (0 : Int) < (l.length : Int) := by omega
                        clear hll
                        go_wp2
                        go_roundw
                        case rel => exact ⟨k + 1, by have := HKL.out; omega, by go_num, Kr⟩
                        case measure => simp [intOf]; have := HKL.out; omega
                      · have hl0 : (l.length : Int) = 0 := by omega
                        have hd : decide ((0 : Int) < (l.length : Int)) = false := decide_eq_false (by omega)
                        clear hll
                        go_wp2
                        go_roundw
                        case rel => exact ⟨k + 1, by have := HKL.out; omega, by go_num, Kr⟩
                        case measure => simp [intOf]; have := HKL.out; omega
                  · have ha0 : 0 < a.length := by omega
                    have ha0' : (0 : Int) < (a.length : Int) := by omega
                    have ha0b : ((a.length : Int) == 0) = false := beq_eq_false_iff_ne.2 (by omega)
                    obtain ⟨_, _, hv, _, hr3⟩ := SlOf.at hR3
                    simp only [Value.slice.injEq, true_and] at hv
                    obtain ⟨rfl, rfl⟩ := hv
                    obtain ⟨b3', o3, rfl, hb3, hc3⟩ := hr3 (by omega)
                    obtain ⟨srow, hz3, hcell3, hRs⟩ := hc3 0 ha0
                    obtain ⟨B4, E4, rfl, hR4⟩ := hRs
                    have s0 : w5.cell? ⟨b3', o3, none⟩ = some (.int .i64 a[0].k) := by simpa using hcell3 0 (by omega)
                    have s2 : w5.cell? ⟨b3', o3 + 2, none⟩ = some (.int .i64 a[0].n) := by simpa using hcell3 2 (by omega)
                    have s1 := Kr.cell s0 (by simp)
                    have hfz2 := hfz ha0
                    generalize a[0] = sy at s0 s1 s2 hR4 hfz2
                    obtain ⟨sk, sr, sn⟩ := sy
                    simp only at s0 s1 s2 hfz2
                    have HS2 := Lib.hid s2
                    clear hcell2 hc2 hr2 hz2 hR3 f5 hfz h0 hcell3 hc3 hr3 hz3 hR4 s0 s2
                    by_cases h2 : sk = 2
                    · subst h2
                      have hmem := Lib.hid (hfz2 rfl)
                      clear hfz2
                      go_wp2
                      clear g0 e0 f0 s1
                      go_loopw [14, 15] (fun b i wr => ∃ j : Nat, ∃ q : Bool, j ≤ l.length ∧ i = .int .i64 j ∧ b = .bool q ∧ Hid (q = false → ∀ p (h : p < l.length), p < j → l[p] ≠ sn) ∧ Keep [] w5 wr) (fun _ i _ => l.length - (intOf i).toNat)
                      case atStart => exact ⟨0, false, by omega, rfl, rfl, Lib.hid (fun _ p h1 h2 => by omega), Kr⟩
                      case round =>
                        obtain ⟨j, q, hj, rfl, rfl, hno, Kr⟩ := hrel
                        by_cases hjl : j < l.length
                        · have hjl' : (j : Int) < (l.length : Int) := by omega
                          have hd : decide ((j : Int) < (l.length : Int)) = true := decide_eq_true hjl'
                          have HJL := Lib.hid hjl
                          cases q with
                          | true =>
                            clear hno
                            go_wp2
                            go_roundw
                            case rel => exact ⟨k + 1, by have := HKL.out; omega, by go_num, Kr⟩
                            case measure => simp [intOf]; have := HKL.out; omega
                          | false =>
                            obtain ⟨bl, ol, rfl, hcl⟩ := HCL.out (by omega)
                            have z0 := Kr.cell (hcl j hjl) (by simp)
                            have s2 := Kr.cell HS2.out (by simp)
                            have HNO : Hid ((l[j] == sn) = false → ∀ p (h : p < l.length), p < j + 1 → l[p] ≠ sn) := Lib.hid (fun he p h1 h2 => by
                              by_cases e : p = j
                              · subst e; exact beq_eq_false_iff_ne.1 he
                              · exact hno.out rfl p h1 (by omega))
                            generalize l[j] = z at z0 HNO
                            clear hcl hno
                            cases hq : (z == sn) with
                            | true =>
                              have HQ := Lib.hid hq
                              go_wp2
                              go_quiet (fail)
                              go_wp2
                              go_roundw
                              case rel => exact ⟨j + 1, true, by have := HJL.out; omega, by go_num, by simp, Lib.hid (fun h => by cases h), Kr.drewN _⟩
                              case measure => simp [intOf]; have := HJL.out; omega
                            | false =>
                              have HQ := Lib.hid hq
                              go_wp2
                              go_quiet (fail)
                              go_wp2
                              go_roundw
                              case rel => exact ⟨j + 1, false, by have := HJL.out; omega, by go_num, by simp, Lib.hid (fun _ => HNO.out HQ.out), Kr.drewN _⟩
                              case measure => simp [intOf]; have := HJL.out; omega
                        · obtain rfl : j = l.length := by omega
                          cases q with
                          | true =>
                            clear hno
                            go_wp2
                            go_roundw
                            case rel => exact ⟨k + 1, by have := HKL.out; omega, by go_num, Kr⟩
                            case measure => simp [intOf]; have := HKL.out; omega
                          | false =>
                            exfalso
                            obtain ⟨p, hp, he⟩ := List.getElem_of_mem hmem.out
                            exact hno.out rfl p hp hp he
                    · have h2b : (sk != 2) = true := by simpa using h2
                      clear hfz2 h2
                      go_wp2
                      clear g0 e0 f0
                      go_loopw [14, 15] (fun b i wr => i = .int .i64 0 ∧ b = .bool true ∧ Keep [] w5 wr) (fun _ _ _ => 0)
                      case atStart => exact ⟨rfl, rfl, Kr⟩
                      case round =>
                        obtain ⟨rfl, rfl, Kr⟩ := hrel
                        by_cases hll : 0 < l.length
                        · have hd : decide ((0 : Int) < (l.length : Int)) = true := by simp; omega
                          have hd2 : (0 : Int) < (l.length : Int) := by omega
                          clear hll
                          go_wp2
                          go_roundw
                          case rel => exact ⟨k + 1, by have := HKL.out; omega, by go_num, Kr⟩
                          case measure => simp [intOf]; have := HKL.out; omega
                        · have hl0 : (l.length : Int) = 0 := by omega
                          have hd : decide ((0 : Int) < (l.length : Int)) = false := decide_eq_false (by omega)
                          clear hll
                          go_wp2
                          go_roundw
                          case rel => exact ⟨k + 1, by have := HKL.out; omega, by go_num, Kr⟩
                          case measure => simp [intOf]; have := HKL.out; omega
                · obtain rfl : k = al.length := by omega
                  have HFIN := Lib.hid (HKF.out.trans Kr)
                  clear Kr HKr
                  go_wp2
                  go_ret
                  exact ⟨rfl, HFIN.out⟩
        · have hle : ¬ (n : Int) < (ps.length : Int) := by omega
          have g0 := b3 0
          clear HP3
          go_wp2
          go_ret
          exact ⟨rfl, KF3⟩
end Go.Proofs.YtacihjabkiedcaaGreatDoor
