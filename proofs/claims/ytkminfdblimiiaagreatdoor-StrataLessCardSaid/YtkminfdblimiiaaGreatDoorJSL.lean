/- The law StrataLess, as its row and its card state it: for every input it answers true and the arguments read as before. -/
import Derived.Test.YtkminfdblimiiaaGreatDoorJSF
import Derived.Deep.DeepCutAuto
import Derived.Test.YtkminfdblimiiaaGreatDoorJ20
set_option linter.unusedVariables false
set_option linter.unusedSimpArgs false
namespace Go.Proofs.YtkminfdblimiiaaGreatDoor
open Go Go.RowKit Go.MapKept

/-- The first i are other. -/
def mixP (f : ProdS → ProdS) (l : List ProdS) (i : Nat) : List ProdS := (l.take i).map f ++ l.drop i
theorem mixP_len (f : ProdS → ProdS) (l : List ProdS) (i : Nat) : (mixP f l i).length = l.length := by simp [mixP]; omega
theorem mixP_zero (f : ProdS → ProdS) (l : List ProdS) : mixP f l 0 = l := by simp [mixP]
theorem mixP_all (f : ProdS → ProdS) (l : List ProdS) : mixP f l l.length = l.map f := by simp [mixP]
theorem mixP_get (f : ProdS → ProdS) (l : List ProdS) (i : Nat) (hi : i < l.length) (hi' : i < (mixP f l i).length) : (mixP f l i)[i] = l[i] := by
  have e : (mixP f l i)[i]? = some l[i] := by
    have e1 : l.drop i = l[i] :: l.drop (i + 1) := List.drop_eq_getElem_cons hi
    have e3 : i - ((l.take i).map f).length = 0 := by simp; omega
    unfold mixP
    rw [e1, List.getElem?_append_right (by simp; omega), e3]
    rfl
  rw [List.getElem?_eq_getElem hi'] at e
  exact Option.some.inj e
theorem mixP_set (f : ProdS → ProdS) (l : List ProdS) (i : Nat) (hi : i < l.length) : (mixP f l i).set i (f l[i]) = mixP f l (i + 1) := by
  have e1 : l.drop i = l[i] :: l.drop (i + 1) := List.drop_eq_getElem_cons hi
  have e2 : l.take (i + 1) = l.take i ++ [l[i]] := by rw [List.take_add_one, List.getElem?_eq_getElem hi]; rfl
  have e3 : i - ((l.take i).map f).length = 0 := by simp; omega
  unfold mixP
  rw [e2, e1, List.map_append, List.set_append_right _ _ (by simp; omega), e3, List.set_cons_zero, List.append_assoc]
  rfl
/-- Marks are stored. -/
theorem own_marks {S : List Nat} {w : World} {base g C n : Nat} {xs : List ProdS} {i : Nat} (hn : xs.length = n) (O : OwnL ProdRow S w base 29 3 (.slice (some ⟨g, 0, none⟩) n C) xs) (hi : i < xs.length) (u : Int) :
    OwnL ProdRow S (w.setCell ⟨g, i * 3 + 1, none⟩ (.int .i64 u)) base 29 3 (.slice (some ⟨g, 0, none⟩) n C) (xs.set i ⟨xs[i].a, u, xs[i].nt⟩) := by
  subst hn
  refine OwnL.store prodRow_stab O i 1 _ _ hi (by omega) (fun row hr hR => ?_)
  obtain ⟨A2, C2, N2, F2, rfl, h2, h3⟩ := hR
  exact ⟨A2, C2, N2, F2, rfl, h2, h3⟩
/-- What may not follow is none. -/
theorem own_not {S : List Nat} {w : World} {base g C n : Nat} {xs : List ProdS} {i : Nat} (hn : xs.length = n) (O : OwnL ProdRow S w base 29 3 (.slice (some ⟨g, 0, none⟩) n C) xs) (hi : i < xs.length) :
    OwnL ProdRow S (w.setCell ⟨g, i * 3 + 2, none⟩ (.slice none 0 0)) base 29 3 (.slice (some ⟨g, 0, none⟩) n C) (xs.set i ⟨xs[i].a, xs[i].marks, []⟩) := by
  subst hn
  refine OwnL.store prodRow_stab O i 2 _ _ hi (by omega) (fun row hr hR => ?_)
  obtain ⟨A2, C2, N2, F2, rfl, h2, h3⟩ := hR
  exact ⟨A2, C2, none, 0, rfl, h2, Sl.nil _ _ _⟩
theorem bare_step {S : List Nat} {w w1 w2 : World} {base g C : Nat} {ps : List ProdS} {i : Nat} (O : OwnL ProdRow S w base 29 3 (.slice (some ⟨g, 0, none⟩) ps.length C) (mixP bareP ps i)) (hi : i < ps.length) (K1 : Keep [] (w.setCell ⟨g, i * 3 + 1, none⟩ (.int .i64 (mk ps i / 4 * 4))) w1) (h2 : w2 = w1.setCell ⟨g, i * 3 + 2, none⟩ (.slice none 0 0)) :
    OwnL ProdRow S w2 base 29 3 (.slice (some ⟨g, 0, none⟩) ps.length C) (mixP bareP ps (i + 1)) := by
  subst h2
  rw [mk_at hi] at K1
  have hl := mixP_len bareP ps i
  have hg := mixP_get bareP ps i hi (by omega)
  have O1 := own_marks hl O (i := i) (by omega) (ps[i].marks / 4 * 4)
  rw [hg] at O1
  have O2 := own_not (by simp [hl]) (O1.move prodRow_stab (S' := S) K1 (by simp) (fun x hx => .inl hx)) (i := i) (by simp; omega)
  rw [List.set_set] at O2
  rw [← mixP_set bareP ps i hi]
  simpa [bareP] using O2
theorem few_step {S : List Nat} {w : World} {base g C : Nat} {ps : List ProdS} {i : Nat} (O : OwnL ProdRow S w base 29 3 (.slice (some ⟨g, 0, none⟩) ps.length C) (mixP fewP ps i)) (hi : i < ps.length) :
    OwnL ProdRow S (w.setCell ⟨g, i * 3 + 1, none⟩ (.int .i64 (mk ps i % 4))) base 29 3 (.slice (some ⟨g, 0, none⟩) ps.length C) (mixP fewP ps (i + 1)) := by
  rw [mk_at hi]
  have hl := mixP_len fewP ps i
  have hg := mixP_get fewP ps i hi (by omega)
  have O1 := own_marks hl O (i := i) (by omega) (ps[i].marks % 4)
  rw [hg] at O1
  rw [← mixP_set fewP ps i hi]
  exact O1
theorem marks_quo {m : Int} (h0 : 0 ≤ m) (h1 : m ≤ 63) : IntKind.i64.wrap (IntKind.i64.wrap (m.tdiv 4) * 4) = m / 4 * 4 ∧ m.tmod 4 = m % 4 := by
  rw [Int.tdiv_eq_ediv_of_nonneg h0, Int.tmod_eq_emod_of_nonneg h0, IntWalk.i64_in (m / 4) (by omega), IntWalk.i64_in _ (by omega)]
  exact ⟨rfl, rfl⟩
theorem info_prod2 : (Tryz.prog.info? 29).map (fun i => (i.zero, i.size, i.bytes)) = some (some (.agg #[.slice none 0 0, .int .i64 0, .slice none 0 0]), 3, 56) := by kernel_rfl
set_option maxRecDepth 20000 in
set_option maxHeartbeats 4000000 in
theorem strataLess_walk (A K : Option Addr) (C m D : Nat) (ps : List ProdS) (w : World) (HP : Prods [] w (.slice A ps.length C) ps) (hmk : m ≤ 9223372036854775807) :
    Calls Tryz.prog 5 #[.agg #[.slice A ps.length C, .slice K m D]] w fun e w' => e = .returned (.bool true) ∧ Keep [] w w' := by
  have K0 := (Keep.refl [] w).alloc (.cells #[.slice A ps.length C, .slice K m D] 25)
  have HP0 : Prods [] _ (.slice A ps.length C) ps := HP.mv0 K0
  have B0 := Blk.new w #[.slice A ps.length C, .slice K m D] 25
  have hlp := (SlOf.len HP).2.1
  clear HP
  go_enter Tryz.func5, Tryz.ntmps5
  go_wp2_with fail
  refine (awake12_any _).mono ?_
  rintro e w1 ⟨rfl, K1⟩
  have B1 := B0.keep K1 (by simp)
  have b1 := B1.cell
  have HP1 : Prods [] w1 (.slice A ps.length C) ps := HP0.mv0 K1
  go_wp2_with fail
  refine (few_any [] A K C m D ps _ HP1 hmk).mono ?_
  rintro e w2 ⟨⟨fw, rfl⟩, K2⟩
  have B2 := B1.keep K2 (by simp)
  have b2 := B2.cell
  have HP2 : Prods [] w2 (.slice A ps.length C) ps := HP1.mv0 K2
  have KF2 := (K0.trans K1).trans K2
  clear HP0 HP1 B0 B1 b1
  cases fw with
  | false =>
    clear HP2
    go_wp2
    go_ret
    exact ⟨rfl, KF2⟩
  | true =>
    have hc3 := may_any [] (.slice A ps.length C) (.slice K m D) ps _ HP2
    have HC3 := Lib.hid hc3
    clear hc3
    go_wp2_with fail
    refine HC3.out.mono ?_
    rintro e w3 ⟨rfl, K3⟩
    have B3 := B2.keep K3 (by simp)
    have b3 := B3.cell
    have HP3 : Prods [] w3 (.slice A ps.length C) ps := HP2.mv0 K3
    have KF3 := KF2.trans K3
    clear HP2 B2 b2 HC3
    cases hg : gmay ps with
    | false =>
      clear HP3
      go_wp2
      go_ret
      exact ⟨rfl, KF3⟩
    | true =>
      obtain ⟨hl0, hl1⟩ := gmay_len hg
      have HPL := Lib.hid (less_plain hg)
      have HMK := Lib.hid (fun k (hk : k < ps.length) => (⟨(mk_at hk).symm, mk_in hg hk⟩ : ps[k].marks = mk ps k ∧ 0 ≤ mk ps k ∧ mk ps k ≤ 63))
      obtain ⟨bp, op, _, _, _, _, rfl, -, p0, -, -, -, -⟩ := HP3.pick 0 hl0
      have hbl : bp < w3.heap.size := World.block_lt_of_cell? w3 _ p0
      clear p0
      obtain ⟨ip, hip, hip0, hip1, hip2⟩ := info_parts info_prod2
      have hlt3 := B3.lt
      have HB3 := Lib.hid B3
      have HP3' := Lib.hid HP3
      have HKF := Lib.hid KF3
      have HPX := Lib.hid (Prods.mv (S' := [w3.heap.size]) HP3 ((Keep.refl [] w3).alloc (.cells #[.slice (some ⟨bp, op, none⟩) ps.length C, .slice K m D] 25)) (by simp))
      clear HP3 B3 KF3
      go_wp2_with (at_builtin; refine Hid.out ?_)
      refine Lib.hid ?_
      refine wpList_append_new prodRow_stab prodRow_one rfl _ _ 22 rfl Tryz.underlying22 hip hip0 hip1 hip2 rfl (by omega) [w3.heap.size] w3.heap.size (some ⟨bp, op, none⟩) ps.length C rfl rfl HPX.out (by omega) (by omega) (by simp) ?_
      intro AX CX wX hOX hKX hnX
      obtain ⟨g, rfl, hg1, hg2⟩ := hOX.form (by omega)
      have hgg : g = w3.heap.size + 1 := by simpa [ownB, Value.ownBlock] using hnX g (by simp [ownB, Value.ownBlock])
      have K3X : Keep [] w3 wX := ((Keep.refl [] w3).alloc _).trans hKX
      have B3X := HB3.out.keep K3X (by simp)
      have B9X := (Blk.new w3 #[.slice (some ⟨bp, op, none⟩) ps.length C, .slice K m D] 25).keep hKX (by simp)
      have b9 := B9X.cell
      have f9 := B9X.frozen
      have c3 := B3X.cell
      have HB3X := Lib.hid B3X
      have HB9X := Lib.hid B9X
      have HOX := Lib.hid hOX
      have HKX := Lib.hid K3X
      have hgx : w3.heap.size + 1 < wX.heap.size := by omega
      have HGG := Lib.hid hgg
      clear B3X B9X hOX hKX hnX hgg hg1 hg2 K3X b3
      have KS7 : Keep [w3.heap.size] wX (wX.setCell ⟨w3.heap.size, 0, none⟩ (.slice (some ⟨g, 0, none⟩) ps.length CX)) := (Keep.refl _ _).setCell (p := ⟨w3.heap.size, 0, none⟩) (.inl (by simp)) _
      have HP7 : Hid (Prods [w3.heap.size, g, (wX.setCell ⟨w3.heap.size, 0, none⟩ (.slice (some ⟨g, 0, none⟩) ps.length CX)).heap.size] ((wX.setCell ⟨w3.heap.size, 0, none⟩ (.slice (some ⟨g, 0, none⟩) ps.length CX)).alloc (.cells #[.slice (some ⟨bp, op, none⟩) ps.length C, .slice K m D] 25)) (.slice (some ⟨bp, op, none⟩) ps.length C) ps) := Lib.hid (by
        have K1 : Keep [] w3 (wX.setCell ⟨w3.heap.size, 0, none⟩ (.slice (some ⟨g, 0, none⟩) ps.length CX)) := HKX.out.then KS7 (by simp)
        exact SlOf.move HP3'.out prodRow_stab (by omega) (K1.alloc _) (by simp) (fun x hx => by have := HGG.out; have := HKX.out.size; simp at hx; right; omega))
      have BA := HB3X.out.keep KS7 (by simp; omega)
      have BB := BA.alloc (.cells #[.slice (some ⟨bp, op, none⟩) ps.length C, .slice K m D] 25)
      have ca := BA.cell
      have cb := BB.cell
      have hBX : Blk (wX.setCell ⟨w3.heap.size, 0, none⟩ (.slice (some ⟨g, 0, none⟩) ps.length CX)) w3.heap.size #[.slice (some ⟨g, 0, none⟩) ps.length CX, .slice K m D] 25 := by simpa using HB9X.out.set 0 (.slice (some ⟨g, 0, none⟩) ps.length CX)
      have hOA := HOX.out.move prodRow_stab (S' := [w3.heap.size]) KS7 (fun x hx => .inl ⟨hx, by have := HGG.out; simp at hx; simp [ownB, Value.ownBlock]; omega⟩) (fun x hx => .inl hx)
      have HAA := Lib.hid (⟨hBX, hOA, BA, HKX.out.then KS7 (by simp)⟩ : _ ∧ _ ∧ _ ∧ _)
      have hsz7 : (wX.setCell ⟨w3.heap.size, 0, none⟩ (.slice (some ⟨g, 0, none⟩) ps.length CX)).heap.size = wX.heap.size := by simp
      clear KS7 hBX hOA BA BB HB3X HB9X HOX HKX HPX
      go_wp2_with (at_builtin; refine Hid.out ?_)
      refine Lib.hid ?_
      clear ca cb c3 b9 f9
      obtain ⟨Wa, hWa⟩ : ∃ W, W = wX.setCell ⟨w3.heap.size, 0, none⟩ (.slice (some ⟨g, 0, none⟩) ps.length CX) := ⟨_, rfl⟩
      rw [← hWa] at HAA HP7 hsz7 ⊢
      generalize hyb : wX.heap.size = yb at hsz7 ⊢
      have HYB := Lib.hid hyb
      clear hyb
      subst hsz7
      have hgW : g < Wa.heap.size ∧ w3.heap.size < Wa.heap.size ∧ w3.heap.size < g ∧ w.heap.size < w3.heap.size := by have := HGG.out; have := HYB.out; omega
      have HGW := Lib.hid hgW
      clear hWa
      refine wpList_append_new prodRow_stab prodRow_one rfl _ _ 22 rfl Tryz.underlying22 hip hip0 hip1 hip2 rfl (by omega) [w3.heap.size, g, Wa.heap.size] Wa.heap.size (some ⟨bp, op, none⟩) ps.length C rfl rfl HP7.out (by omega) (by omega) (by simp) ?_
      intro AY CY wY hOY hKY hnY
      obtain ⟨g2, rfl, hg1, hg2⟩ := hOY.form (by omega)
      have hgg2 : g2 = Wa.heap.size + 1 := by simpa [ownB, Value.ownBlock] using hnY g2 (by simp [ownB, Value.ownBlock])
      obtain ⟨hBX, hOA, BA, KA⟩ := HAA.out
      have KaY : Keep [] Wa wY := ((Keep.refl [] Wa).alloc _).trans hKY
      have B9Y := (Blk.new Wa #[.slice (some ⟨bp, op, none⟩) ps.length C, .slice K m D] 25).keep hKY (by simp)
      have y9 := B9Y.cell
      have z9 := B9Y.frozen
      have HY := Lib.hid (⟨B9Y, hOY, KaY⟩ : _ ∧ _ ∧ _)
      have hgy : Wa.heap.size + 1 < wY.heap.size := by omega
      have HGG2 := Lib.hid hgg2
      clear hBX hOA BA KA hOY hKY hnY hg1 hg2 KaY B9Y hgg2
      go_wp2
      obtain ⟨Wb, hWb⟩ : ∃ W, W = wY.setCell ⟨Wa.heap.size, 0, none⟩ (.slice (some ⟨g2, 0, none⟩) ps.length CY) := ⟨_, rfl⟩
      rw [← hWb]
      clear y9 z9
      have HST : Hid (Blk Wb w.heap.size #[.slice (some ⟨bp, op, none⟩) ps.length C, .slice K m D] 25 ∧ Blk Wb w3.heap.size #[.slice (some ⟨g, 0, none⟩) ps.length CX, .slice K m D] 25 ∧ Blk Wb Wa.heap.size #[.slice (some ⟨g2, 0, none⟩) ps.length CY, .slice K m D] 25 ∧
          OwnL ProdRow [w3.heap.size, g2, Wa.heap.size] Wb w3.heap.size 29 3 (.slice (some ⟨g, 0, none⟩) ps.length CX) (mixP bareP ps 0) ∧ OwnL ProdRow [w3.heap.size, g, Wa.heap.size] Wb Wa.heap.size 29 3 (.slice (some ⟨g2, 0, none⟩) ps.length CY) (mixP fewP ps 0) ∧ Keep [] w3 Wb) := Lib.hid (by
        obtain ⟨hBX, hOA, BA, KA⟩ := HAA.out
        obtain ⟨B9Y, hOY, KaY⟩ := HY.out
        obtain ⟨q1, q2, q3, q4⟩ := HGW.out
        have hgg2 := HGG2.out
        have KS : Keep [Wa.heap.size] wY Wb := by rw [hWb]; exact (Keep.refl _ _).setCell (p := ⟨Wa.heap.size, 0, none⟩) (.inl (by simp)) _
        have Kab : Keep [] Wa Wb := KaY.then KS (by simp)
        rw [mixP_zero, mixP_zero]
        refine ⟨BA.keep Kab (by simp), hBX.keep Kab (by simp), by rw [hWb]; simpa using B9Y.set 0 (.slice (some ⟨g2, 0, none⟩) ps.length CY), ?_, ?_, KA.trans Kab⟩
        · exact hOA.move prodRow_stab Kab (by simp) (fun x hx => by simp at hx; rcases hx with rfl | rfl | rfl; exact .inl (by simp); exact .inr (by omega); exact .inr (Nat.le_refl _))
        · exact hOY.move prodRow_stab KS (fun x hx => .inl ⟨by simp at hx; simp [hx], by simp at hx; subst hx; simp [ownB, Value.ownBlock]; omega⟩) (fun x hx => .inl hx))
      have HG2 := Lib.hid (⟨HGG2.out, HGW.out, trivial⟩ : g2 = Wa.heap.size + 1 ∧ (g < Wa.heap.size ∧ w3.heap.size < Wa.heap.size ∧ w3.heap.size < g ∧ w.heap.size < w3.heap.size) ∧ True)
      clear hWb HAA HY hgy hgW HGG2 HGW HGG HP7 hgx HYB
      have HBX := Lib.hid (⟨HST.out.1, HST.out.2.1, HST.out.2.2.1, HST.out.2.2.2.2.2⟩ : _ ∧ _ ∧ _ ∧ _)
      have HST2 := Lib.hid (⟨HST.out.2.2.2.1, HST.out.2.2.2.2.1⟩ : _ ∧ _)
      clear HST
      go_loopw [7] (fun iv wr => ∃ i : Nat, i ≤ ps.length ∧ iv = .int .i64 i ∧ Keep [g, g2] Wb wr ∧ OwnL ProdRow [w3.heap.size, g2, Wa.heap.size] wr w3.heap.size 29 3 (.slice (some ⟨g, 0, none⟩) ps.length CX) (mixP bareP ps i) ∧ OwnL ProdRow [w3.heap.size, g, Wa.heap.size] wr Wa.heap.size 29 3 (.slice (some ⟨g2, 0, none⟩) ps.length CY) (mixP fewP ps i)) (fun iv _ => ps.length - (intOf iv).toNat)
      case atStart => exact ⟨0, by omega, rfl, Keep.refl _ _, HST2.out.1, HST2.out.2⟩
      case round =>
        clear HST2
        obtain ⟨i, hi, rfl, Kr, Ox, Oy⟩ := hrel
        obtain ⟨hgg2, ⟨hg1, hg2, hg3, hg4⟩, _⟩ := HG2.out
        have hng : w.heap.size ∉ [g, g2] ∧ w3.heap.size ∉ [g, g2] ∧ Wa.heap.size ∉ [g, g2] := by simp; omega
        have hgne : g ≠ g2 := by omega
        have hgt : w3.heap.size ≤ g2 := by omega
        clear hgg2
        have g0 := (HBX.out.1.keep Kr hng.1).cell
        have x0 := (HBX.out.2.1.keep Kr hng.2.1).cell
        have y0 := (HBX.out.2.2.1.keep Kr hng.2.2).cell
        by_cases hil : i < ps.length
        · have hil' : (i : Int) < (ps.length : Int) := by omega
          have HIL := Lib.hid hil
          obtain ⟨hm1, hm2, hm3⟩ := HMK.out i hil
          have HKP := Lib.hid (fun w' (K' : Keep [g, g2] Wb w') => (by
            have K3 : Keep [] w3 w' := HBX.out.2.2.2.then K' (fun x hx => by simp at hx; right; omega)
            obtain ⟨b', o', A2, C2, N2, F2, he, _, _, e1, _, _, _⟩ := (HP3'.out.mv0 K3).pick i hil
            rw [hm1] at e1
            simp only [Option.some.injEq, Addr.mk.injEq, and_true] at he
            obtain ⟨rfl, rfl⟩ := he
            exact ⟨(HBX.out.2.1.keep K' hng.2.1).cell 0, (HBX.out.1.keep K' hng.1).cell 0, (HBX.out.2.2.1.keep K' hng.2.2).cell 0, e1, K'⟩ : w'.cell? ⟨w3.heap.size, 0, none⟩ = some (.slice (some ⟨g, 0, none⟩) ps.length CX) ∧ w'.cell? ⟨w.heap.size, 0, none⟩ = some (.slice (some ⟨bp, op, none⟩) ps.length C) ∧ w'.cell? ⟨Wa.heap.size, 0, none⟩ = some (.slice (some ⟨g2, 0, none⟩) ps.length CY) ∧ w'.cell? ⟨bp, op + i * 3 + 1, none⟩ = some (.int .i64 (mk ps i)) ∧ Keep [g, g2] Wb w'))
          have hlx := mixP_len bareP ps i
          have hly := mixP_len fewP ps i
          have hfx := Ox.frozen (by omega) (i * 3 + 1)
          have hfx2 := Ox.frozen (by omega) (i * 3 + 2)
          have hfy := Oy.frozen (by omega) (i * 3 + 1)
          have cxs : (∃ u, wr.cell? ⟨g, i * 3 + 1, none⟩ = some u) ∧ (∃ u, wr.cell? ⟨g, i * 3 + 2, none⟩ = some u) := by
            obtain ⟨b', o', _, _, _, _, he, _, _, e1, e2, _, _⟩ := (show Prods [] wr (.slice (some ⟨g, 0, none⟩) (mixP bareP ps i).length CX) (mixP bareP ps i) from by have h := Ox; rw [← hlx] at h; exact h.read prodRow_stab (by simp) (by simp)).pick i (by omega)
            simp only [Option.some.injEq, Addr.mk.injEq, and_true] at he
            obtain ⟨rfl, rfl⟩ := he
            rw [Nat.zero_add] at e1 e2
            exact ⟨⟨_, e1⟩, ⟨_, e2⟩⟩
          have cys : ∃ u, wr.cell? ⟨g2, i * 3 + 1, none⟩ = some u := by
            obtain ⟨b', o', _, _, _, _, he, _, _, e1, _, _, _⟩ := (show Prods [] wr (.slice (some ⟨g2, 0, none⟩) (mixP fewP ps i).length CY) (mixP fewP ps i) from by have h := Oy; rw [← hly] at h; exact h.read prodRow_stab (by simp) (by simp)).pick i (by omega)
            simp only [Option.some.injEq, Addr.mk.injEq, and_true] at he
            obtain ⟨rfl, rfl⟩ := he
            rw [Nat.zero_add] at e1
            exact ⟨_, e1⟩
          obtain ⟨⟨u1, cx1⟩, ⟨u2, cx2⟩⟩ := cxs
          obtain ⟨u3, cy1⟩ := cys
          have HOO := Lib.hid (⟨Ox, Oy, Kr⟩ : _ ∧ _ ∧ _)
          have Kd := Kr.drew
          have hgl : g < wr.heap.size ∧ g2 < wr.heap.size := ⟨World.block_lt_of_cell? wr _ cx1, World.block_lt_of_cell? wr _ cy1⟩
          clear Ox Oy
          have HV := Lib.hid (marks_quo hm2 hm3)
          go_wp2
          first
            | (go_region_held3 (fun w' => w'.cell? ⟨w3.heap.size, 0, none⟩ = some (.slice (some ⟨g, 0, none⟩) ps.length CX) ∧ w'.cell? ⟨w.heap.size, 0, none⟩ = some (.slice (some ⟨bp, op, none⟩) ps.length C) ∧ w'.cell? ⟨Wa.heap.size, 0, none⟩ = some (.slice (some ⟨g2, 0, none⟩) ps.length CY) ∧ w'.cell? ⟨bp, op + i * 3 + 1, none⟩ = some (.int .i64 (mk ps i)) ∧ Keep [g, g2] Wb w')
               (first | exact HKP.out _ (by assumption) | exact HKP.out _ ((Keep.setCell (p := ⟨g, i * 3 + 1, none⟩) Kr (.inl (by simp)) _).drew) | exact HKP.out _ (Keep.setCell (p := ⟨g, i * 3 + 1, none⟩) Kr (.inl (by simp)) _)) (fail))
            | fail
          rw [HV.out.1]
          obtain ⟨W1, hW1⟩ : ∃ W, W = (wr.setCell ⟨g, i * 3 + 1, none⟩ (.int .i64 (mk ps i / 4 * 4))).drew := ⟨_, rfl⟩
          rw [← hW1]
          have HW1 := Lib.hid hW1
          have K01 : Keep [g] wr W1 := by rw [hW1]; exact (Keep.setCell (p := ⟨g, i * 3 + 1, none⟩) (Keep.refl [g] wr) (.inl (by simp)) _).drew
          have Kb1 : Keep [g, g2] Wb W1 := HOO.out.2.2.then K01 (fun x hx => by simp at hx; subst hx; exact .inl (by simp))
          have Ox1 := (own_marks hlx HOO.out.1 (i := i) (by omega) (mk ps i / 4 * 4)).move prodRow_stab (S' := [w3.heap.size, g2, Wa.heap.size]) (T := []) (w' := W1) (by rw [hW1]; exact (Keep.refl [] _).drew) (by simp) (fun x hx => .inl hx)
          have hfx2 := Ox1.frozen (by simp; omega) (i * 3 + 2)
          have cx2 : ∃ u, W1.cell? ⟨g, i * 3 + 2, none⟩ = some u := by
            have hl1 : ((mixP bareP ps i).set i ⟨(mixP bareP ps i)[i].a, mk ps i / 4 * 4, (mixP bareP ps i)[i].nt⟩).length = ps.length := by simp [hlx]
            obtain ⟨b', o', _, _, _, _, he, _, _, _, e2, _, _⟩ := (show Prods [] W1 (.slice (some ⟨g, 0, none⟩) ((mixP bareP ps i).set i ⟨(mixP bareP ps i)[i].a, mk ps i / 4 * 4, (mixP bareP ps i)[i].nt⟩).length CX) ((mixP bareP ps i).set i ⟨(mixP bareP ps i)[i].a, mk ps i / 4 * 4, (mixP bareP ps i)[i].nt⟩) from by have h := Ox1; rw [← hl1] at h; exact h.read prodRow_stab (by simp) (by simp)).pick i (by omega)
            simp only [Option.some.injEq, Addr.mk.injEq, and_true] at he
            obtain ⟨rfl, rfl⟩ := he
            rw [Nat.zero_add] at e2
            exact ⟨_, e2⟩
          obtain ⟨u2, cx2⟩ := cx2
          obtain ⟨x1, g1, y1, m1, _⟩ := HKP.out W1 Kb1
          clear cx1 hfx g0 x0 y0 hW1 Kd Ox1
          go_wp2
          obtain ⟨W2, hW2⟩ : ∃ W, W = W1.setCell ⟨g, i * 3 + 2, none⟩ (.slice none 0 0) := ⟨_, rfl⟩
          rw [← hW2]
          have HW2 := Lib.hid hW2
          have K12 : Keep [g] W1 W2 := by rw [hW2]; exact Keep.setCell (p := ⟨g, i * 3 + 2, none⟩) (Keep.refl [g] W1) (.inl (by simp)) _
          have K02 := K01.then K12 (fun x hx => .inl hx)
          have Kb2 : Keep [g, g2] Wb W2 := Kb1.then K12 (fun x hx => by simp at hx; subst hx; exact .inl (by simp))
          have Oy2 := HOO.out.2.1.move prodRow_stab (S' := [w3.heap.size, g, Wa.heap.size]) K02 (fun x hx => .inl ⟨by simp at hx; simp [hx], by simp at hx; subst hx; simp [ownB, Value.ownBlock]; omega⟩) (fun x hx => .inl hx)
          have hfy := Oy2.frozen (by omega) (i * 3 + 1)
          have cy2 : W2.cell? ⟨g2, i * 3 + 1, none⟩ = some u3 := Keep.cell (T := [g]) K02 cy1 (by simp; omega)
          have HO2 := Lib.hid (⟨Oy2, K02, Kb2⟩ : _ ∧ _ ∧ _)
          obtain ⟨x2, g2c, y2, m2, _⟩ := HKP.out W2 Kb2
          have Kd2 := Kb2.drew
          clear hW2 K12 K02 Oy2 x1 g1 y1 m1 cx2 hfx2 cy1 K01 Kb1
          first
            | (go_region_held3 (fun w' => w'.cell? ⟨w3.heap.size, 0, none⟩ = some (.slice (some ⟨g, 0, none⟩) ps.length CX) ∧ w'.cell? ⟨w.heap.size, 0, none⟩ = some (.slice (some ⟨bp, op, none⟩) ps.length C) ∧ w'.cell? ⟨Wa.heap.size, 0, none⟩ = some (.slice (some ⟨g2, 0, none⟩) ps.length CY) ∧ w'.cell? ⟨bp, op + i * 3 + 1, none⟩ = some (.int .i64 (mk ps i)) ∧ Keep [g, g2] Wb w')
               (first | exact HKP.out _ (by assumption) | exact HKP.out _ ((Keep.setCell (p := ⟨g2, i * 3 + 1, none⟩) Kb2 (.inl (by simp)) _).drew) | exact HKP.out _ (Keep.setCell (p := ⟨g2, i * 3 + 1, none⟩) Kb2 (.inl (by simp)) _)) (fail))
            | fail
          rw [HV.out.2]
          have HFN : Hid (Keep [g, g2] Wb (W2.setCell ⟨g2, i * 3 + 1, none⟩ (.int .i64 (mk ps i % 4))).drew ∧ OwnL ProdRow [w3.heap.size, g2, Wa.heap.size] (W2.setCell ⟨g2, i * 3 + 1, none⟩ (.int .i64 (mk ps i % 4))).drew w3.heap.size 29 3 (.slice (some ⟨g, 0, none⟩) ps.length CX) (mixP bareP ps (i + 1)) ∧ OwnL ProdRow [w3.heap.size, g, Wa.heap.size] (W2.setCell ⟨g2, i * 3 + 1, none⟩ (.int .i64 (mk ps i % 4))).drew Wa.heap.size 29 3 (.slice (some ⟨g2, 0, none⟩) ps.length CY) (mixP fewP ps (i + 1))) := Lib.hid (by
            have KS : Keep [g2] W2 (W2.setCell ⟨g2, i * 3 + 1, none⟩ (.int .i64 (mk ps i % 4))).drew := (Keep.setCell (p := ⟨g2, i * 3 + 1, none⟩) (Keep.refl [g2] W2) (.inl (by simp)) _).drew
            refine ⟨HO2.out.2.2.then KS (fun x hx => by simp at hx; subst hx; exact .inl (by simp)), ?_, ?_⟩
            · have Ob := bare_step (w1 := W1) (w2 := W2) HOO.out.1 HIL.out (by rw [HW1.out]; exact (Keep.refl [] _).drew) HW2.out
              exact Ob.move prodRow_stab KS (fun x hx => .inl ⟨by simp at hx; simp [hx], by simp at hx; subst hx; simp [ownB, Value.ownBlock]; omega⟩) (fun x hx => .inl hx)
            · exact (few_step HO2.out.1 HIL.out).move prodRow_stab (T := []) ((Keep.refl [] _).drew) (by simp) (fun x hx => .inl hx))
          clear HO2 HW1 HW2 Kb2 Kd2 hfy cy2 x2 g2c y2 m2
          go_wp2
          go_roundw
          case rel => exact ⟨i + 1, by have := HIL.out; omega, by go_num, HFN.out.1, HFN.out.2.1, HFN.out.2.2⟩
          case measure => simp [intOf]; have := HIL.out; omega
        · obtain rfl : i = ps.length := by omega
          have hlb : (ps.map bareP).length = ps.length := by simp
          have hlf : (ps.map fewP).length = ps.length := by simp
          have K3r : Keep [] w3 wr := HBX.out.2.2.2.then Kr (fun x hx => by simp at hx; right; omega)
          have HX : Hid (Prods [] wr (.slice (some ⟨g, 0, none⟩) (ps.map bareP).length CX) (ps.map bareP)) := Lib.hid (by
            have h := Ox
            rw [mixP_all, ← hlb] at h
            exact h.read prodRow_stab (by simp) (by simp))
          have HYY : Hid (Prods [] wr (.slice (some ⟨g2, 0, none⟩) (ps.map fewP).length CY) (ps.map fewP)) := Lib.hid (by
            have h := Oy
            rw [mixP_all, ← hlf] at h
            exact h.read prodRow_stab (by simp) (by simp))
          obtain ⟨gb, gf, p1, p2, p3, p4, p5⟩ := HPL.out
          have HO := order12_any _ K CX m D _ wr HX.out
          have HB1 := Lib.hid (fun w' (K' : Keep [] wr w') => bad12_any _ K CX m D _ w' (HX.out.mv0 K'))
          have HL1 := Lib.hid (fun w' (K' : Keep [] wr w') => laid12_any _ K CX m D _ w' (HX.out.mv0 K'))
          have HL2 := Lib.hid (fun w' (K' : Keep [] wr w') => laid12_any _ K CY m D _ w' (HYY.out.mv0 K'))
          have HB2 := Lib.hid (fun w' (K' : Keep [] wr w') => bad12_any _ K CY m D _ w' (HYY.out.mv0 K'))
          have HB0 := Lib.hid (fun w' (K' : Keep [] wr w') => bad12_any _ K C m D ps w' ((HP3'.out.mv0 K3r).mv0 K'))
          rw [hlb] at HO HB1 HL1
          rw [hlf] at HL2 HB2
          rw [p1] at HB1
          rw [p2] at HL1
          rw [p4] at HL2
          have HOH := Lib.hid HO
          have HGB := Lib.hid (⟨gb, p3⟩ : _ ∧ _)
          have HKP := Lib.hid (fun w' (K' : Keep [] wr w') => (⟨((HBX.out.1.keep Kr hng.1).keep K' (by simp)).cell, ((HBX.out.2.1.keep Kr hng.2.1).keep K' (by simp)).cell, ((HBX.out.2.2.1.keep Kr hng.2.2).keep K' (by simp)).cell⟩ : (∀ j, w'.cell? ⟨w.heap.size, j, none⟩ = _) ∧ (∀ j, w'.cell? ⟨w3.heap.size, j, none⟩ = _) ∧ (∀ j, w'.cell? ⟨Wa.heap.size, j, none⟩ = _)))
          have HKF2 := Lib.hid (HKF.out.trans K3r)
          generalize badR (ps.map fewP) = bF at HB2 p5
          generalize badR ps = bR at HB0 p5
          have HP5 := Lib.hid p5
          clear Ox Oy gb gf p1 p2 p3 p4 p5 HO K3r Kr HX HYY HBX
          go_wp2_with fail
          refine HOH.out.mono ?_
          rintro e w4 ⟨⟨r, hr1, _, v, rfl, hv⟩, K4⟩
          obtain rfl : r = some [] := HGB.out.2 r (hr1 HGB.out.1)
          obtain ⟨V, F, rfl, -, -⟩ := hv
          simp only [Option.isSome_some, Option.getD_some, List.length_nil]
          have HK4 := Lib.hid K4
          have b4 := (HKP.out _ K4).2.1
          clear x0 g0 y0 hr1 K4
          go_wp2_with fail
          refine (HB1.out _ HK4.out).mono ?_
          rintro e w5 ⟨rfl, K5⟩
          have K45 := HK4.out.trans K5
          have b5 := (HKP.out _ K45).2.1
          clear b4
          go_wp2_with fail
          refine (HL1.out _ K45).mono ?_
          rintro e w6 ⟨rfl, K6⟩
          have K46 := K45.trans K6
          have b6 := (HKP.out _ K46).2.2
          clear b5
          go_wp2_with fail
          refine (HL2.out _ K46).mono ?_
          rintro e w7 ⟨rfl, K7⟩
          have K47 := K46.trans K7
          have b7 := (HKP.out _ K47).1
          clear b6
          go_wp2_with fail
          refine (HB0.out _ K47).mono ?_
          rintro e w8 ⟨rfl, K8⟩
          have K48 := K47.trans K8
          have b8 := (HKP.out _ K48).2.2
          clear b7
          by_cases hz : bR = -1
          · obtain rfl := HP5.out hz
            subst hz
            go_wp2_with fail
            refine (HB2.out _ K48).mono ?_
            rintro e w9 ⟨rfl, K9⟩
            have HF := Lib.hid (HKF2.out.trans (K48.trans K9))
            go_wp2
            go_ret
            exact ⟨rfl, HF.out⟩
          · have hzb : (bR != -1) = true := by simpa using hz
            have hzc : (bR == -1) = false := by simpa using hz
            have HF := Lib.hid (HKF2.out.trans K48)
            clear hz
            go_wp2
            go_ret
            exact ⟨rfl, HF.out⟩
end Go.Proofs.YtkminfdblimiiaaGreatDoor
namespace Go.Proofs.YtkminfdblimiiaaGreatDoor.RowSL
open Go.ChangeShapes Go.WideShapes Go.ChangeAt Go.RowKit Go.Joins Go.Deep Go.Proofs.YtkminfdblimiiaaGreatDoor.RowG

def zeroA : Array Value := #[.agg #[.slice none 0 0, .slice none 0 0]]
set_option maxRecDepth 100000 in
theorem laid_met (os : Os) : laidMet Tryz.prog laid2 ((laidWorld os).forCall (fun _ _ => 0) ⟨#[], zeroA, []⟩).memory :=
  laidMet_of_run' 8 (by kernel_rfl) (by kernel_rfl)
theorem reads (os : Os) {H : Type} (enc : TypeId × Value → H) : ∃ places, DataW.whole enc Tryz.prog ((laidWorld os).forCall (fun _ _ => 0) ⟨#[], zeroA, []⟩).memory Tryz.f5.params.toList Rows.strataLessSpec.vars false zeroA.toList 8 = some ([.agg [.nil, .nil]], [], places) :=
  ⟨[], by kernel_rfl⟩
set_option maxRecDepth 100000 in
set_option maxHeartbeats 1000000 in
theorem contract (H : Type) (enc : TypeId × Value → H) (W : World) (args : Array Value) (ds gs : List (DataW H)) (before : List MemPlace) (base : Nat)
    (hval : ∀ (j : Nat) t v, Tryz.f5.params[j]? = some t → args[j]? = some v → Value.okWide Tryz.prog W .any base t v)
    (hW : DataW.Whole enc Tryz.prog Tryz.f5.params.toList Rows.strataLessSpec.vars false W args.toList ds gs before) :
    Calls Tryz.prog 5 args W fun e W' => ∃ v, e = .returned v ∧ Rows.strataLessSpec.post enc Tryz.prog Tryz.f5 false true false false W args v W' := by
  have hW' := hW
  obtain ⟨p, q, hA0, hV, rfl, hfz, hnd⟩ := hW
  have hA : DataW.TrodAll enc Tryz.prog W 0 (fun _ => true) true Tryz.f5.params.toList args.toList ds p := hA0
  rw [Tryz.params5] at hA hval
  obtain ⟨v0, vs0, d0, ds0, p0, q0, hargs, rfl, rfl, h0, r0⟩ := trodAll_cons hA
  obtain ⟨rfl, rfl, rfl⟩ := trodAll_nil r0
  obtain rfl : args = #[v0] := by cases args; simp_all
  obtain ⟨rfl, rfl⟩ := trodVars_none hV
  have k0 := h0
  have lt0 : ∀ x ∈ p0, x.block < W.heap.size := by obtain ⟨m, hm⟩ := k0; exact DataW.trod_lt m _ _ _ hm
  obtain ⟨A0, ps0, C0, K0, m0, D0, rfl, hp0, hm0⟩ := open_gram rfl (hval 0 _ v0 rfl rfl) h0
  clear hA0
  refine (strataLess_walk A0 K0 C0 m0 D0 ps0 W hp0 hm0).mono fun e W' ⟨he, kp⟩ => ?_
  have bel := kp.below
  subst he
  exact ⟨_, rfl, _, _, _, [], _, [], hW', trodAll_mk1 (shut_bool Tryz.underlying4 _), (trodAll_cons_mk (Below.trod laidOut (by kernel_rfl) (of_decide_eq_true (by kernel_rfl)) k0 bel lt0) trodAll_mk0), rfl, bel.frame _, fun h => by cases h⟩

set_option maxRecDepth 100000 in
theorem lifted (os : Os) (started : os.Started) (H : Type) (enc : TypeId × Value → H) (F : Stop.Interp) :
    ReturnsInHanded {} Tryz.checked os 5 .any ((OpenSpec.ofChange Rows.strataLessSpec).preRow enc Tryz.prog Tryz.f5 Rows.strataLessRow.domain false Rows.strataLessRow.laid) (((OpenSpec.ofChange Rows.strataLessSpec).at F).post enc Tryz.prog Tryz.f5 false true false false) := by
  obtain ⟨places, hx⟩ := reads os enc
  refine returnsInHanded_of_row (C := Tryz.checked) (s := OpenSpec.ofChange Rows.strataLessSpec) own started (by kernel_rfl) Tryz.func5
    (witness_row_at (enc := enc) (C := Tryz.checked) false (laidWorld os) zeroA rfl (by kernel_rfl) (by kernel_rfl) (by kernel_rfl)
      (OpenSpec.preRow_of_cond 8 hx (by kernel_rfl) (fun k hk => by cases hk) (by kernel_rfl) (laid_met os))) ?_
  intro W base args ds gs before hval hW _ _ _ _ _ _
  exact contract H enc W args ds gs before base hval hW

theorem said : Rows.StrataLessSaid :=
  OpenClaim.holds_of_cond 5 Tryz.f5 rfl rfl rfl rfl rfl rfl rfl ⟨rfl, rfl, rfl, rfl, rfl⟩ rfl rfl rfl rfl rfl (by kernel_rfl) Tryz.func5 (by kernel_rfl)
    (of_decide_eq_true (by kernel_rfl)) (by unfold Func.isWrapper; first | (rw [if_pos (by decide +kernel)]; kernel_rfl) | (rw [if_neg (by decide +kernel)]; exact ⟨rfl, rfl⟩))
    (fun os started H enc _ F => by rw [OpenClaim.pre_eq_preRow]; exact lifted os started H enc F)

theorem plain (f : FuncId) (fn : Func) (hf : Tryz.pinned.checked.prog.funcNamed "exegete/exegetelaw12.StrataLess" = some f) (hfn : Tryz.pinned.checked.prog.funcs[f]? = some fn) :
    true = Tryz.pinned.checked.prog.looks [] ∧ ∀ (j : Nat) t, fn.params[j]? = some t → Tryz.pinned.checked.prog.wantsStandIn t = false := by
  obtain rfl : f = 5 := Option.some.inj ((show Tryz.prog.funcNamed "exegete/exegetelaw12.StrataLess" = some 5 by kernel_rfl).symm.trans hf) |>.symm
  obtain rfl : fn = Tryz.f5 := (Option.some.inj (Tryz.func5.symm.trans hfn)).symm
  refine ⟨by kernel_rfl, fun j t ht => ?_⟩
  rw [Tryz.params5] at ht
  have hm : t = 25 := by simpa [or_assoc] using Array.mem_of_getElem? ht
  rcases hm with rfl
  exact (show Tryz.prog.wantsStandIn 25 = false by kernel_rfl)

theorem card : Rows.StrataLessCardSaid :=
  Claim7.holds_tied_plain_at .later [] _ _ _ _ said (fun _ h => by cases h) (by kernel_rfl) (fun _ h => by cases h) strataLess_row_tie rfl ⟨rfl, rfl⟩ (by kernel_rfl) rfl plain (by kernel_rfl)
end Go.Proofs.YtkminfdblimiiaaGreatDoor.RowSL
namespace Go.Proofs.YtkminfdblimiiaaGreatDoor
/-- The card of the law. -/
theorem strataLess_card : Rows.StrataLessCardSaid := RowSL.card
#print axioms strataLess_card
end Go.Proofs.YtkminfdblimiiaaGreatDoor
