/- The text of exegetelaw09's awake. -/
import Derived.Test.YtacihjabkiedcaaGreatDoorH14
import Derived.Test.YtacihjabkiedcaaGreatDoorH24
import Derived.Test.YtacihjabkiedcaaGreatDoorH22
import Derived.Test.YtacihjabkiedcaaGreatDoorH18
import Derived.Test.YtacihjabkiedcaaGreatDoorH16
set_option linter.unusedVariables false
set_option linter.unusedSimpArgs false
namespace Go.Proofs.YtacihjabkiedcaaGreatDoor
open Go Go.RowKit Go.MapKept

def t9 : ByteArray := ⟨#[97, 32, 61, 32, 98, 32, 99, 59, 32, 98, 32, 61, 32, 59, 32, 99, 32, 61, 32, 34, 120, 34, 59]⟩
def f9 : FileS := ⟨[], [⟨⟨#[97]⟩, 0, .mk 4 ⟨#[]⟩ [] [.mk 0 ⟨#[98]⟩ [] [] 4, .mk 0 ⟨#[99]⟩ [] [] 6] 4, [], 0⟩, ⟨⟨#[98]⟩, 0, .mk 4 ⟨#[]⟩ [] [] 13, [], 9⟩, ⟨⟨#[99]⟩, 0, .mk 1 ⟨#[120]⟩ [] [] 19, [], 15⟩]⟩
def g9 : GramS := ⟨[⟨[[⟨2, [], 1⟩, ⟨2, [], 2⟩]], 0, []⟩, ⟨[[]], 0, []⟩, ⟨[[⟨0, [⟨120, 120⟩], 0⟩]], 0, []⟩], []⟩
theorem text9 : TextOK 3 t9 f9 g9 := by
  refine ⟨by decide, by decide, by decide, by kernel_rfl, by kernel_rfl, ⟨by decide, ?_, by decide, okFile_of (by kernel_rfl), by kernel_rfl, rfl⟩⟩
  · show [(⟨#[97]⟩ : ByteArray), ⟨#[98]⟩, ⟨#[99]⟩].Nodup
    decide
theorem r9a : allR g9.p = [false, true, false] := by kernel_rfl
theorem r9l : leftsAll (emptyF g9.p) ((g9.p[0]?).map (·.a) |>.getD []) = [1, 2] := by kernel_rfl
theorem r9m : gmay g9.p = true := by kernel_rfl
theorem r9b : leftsR g9.p 0 = [1, 2] := by
  unfold leftsR
  rw [if_pos ⟨r9m, by omega, by decide⟩]
  show compI (sortI (leftsAll (emptyF g9.p) ((g9.p[0]?).map (·.a) |>.getD []))) = [1, 2]
  rw [r9l]
  have h1 : sortI [1, 2] = [1, 2] := by
    unfold sortI
    exact List.mergeSort_of_pairwise (by simp)
  rw [h1]
  decide
theorem r9c : emptyR g9.p [] = true := by kernel_rfl
end Go.Proofs.YtacihjabkiedcaaGreatDoor
namespace Go.Proofs.YtacihjabkiedcaaGreatDoor
open Go Go.RowKit Go.MapKept

theorem IntV.cells {w : World} {base : Nat} {v : Value} {xs : List Int} (h : IntV w base v xs) : ∃ A C, v = .slice A xs.length C ∧ xs.length ≤ 1000000 ∧ (0 < xs.length → ∃ b o, A = some ⟨b, o, none⟩ ∧ ∀ j (hj : j < xs.length), w.cell? ⟨b, o + j, none⟩ = some (.int .i64 xs[j])) := by
  rcases h with ⟨rfl, A, C, rfl⟩ | ⟨b, o, C, rfl, _, _, _, hl, hH⟩
  · exact ⟨A, C, rfl, by simp, fun h => by simp at h⟩
  · refine ⟨_, C, rfl, hl, fun _ => ⟨b, o, rfl, fun j hj => ?_⟩⟩
    have := (hH j (by simpa using hj)).1
    rw [getElem!_pos _ j (by simpa using hj)] at this
    simpa using this
theorem leftsR_nt (ps : List ProdS) (n : Nat) (hn : n < ps.length) (z : Int) (hz : z ∈ leftsR ps n) : ∃ s, Nt ps n s ∧ s.n = z := by
  unfold leftsR at hz
  split at hz
  · have h1 := (compI_sub _).2 z hz
    unfold sortI at h1
    rw [List.mem_mergeSort] at h1
    simp only [Int.toNat_natCast, List.getElem?_eq_getElem hn, Option.map_some, Option.getD_some] at h1
    unfold leftsAll at h1
    obtain ⟨a, ha, h1⟩ := List.mem_flatMap.1 h1
    unfold leftsTo at h1
    obtain ⟨i, hi, h1⟩ := List.mem_flatMap.1 h1
    have hi' : i < a.length := List.mem_range.1 hi
    rw [List.getElem?_eq_getElem hi'] at h1
    simp only at h1
    split at h1
    · rename_i hc
      simp at h1
      exact ⟨a[i], ⟨ps[n], List.getElem?_eq_getElem hn, List.mem_flatten.2 ⟨a, ha, List.getElem_mem _⟩, hc.1⟩, h1.symm⟩
    · simp at h1
  · simp at hz
set_option maxRecDepth 20000 in
set_option maxHeartbeats 4000000 in
theorem reachWithin_walk (A K : Option Addr) (C m D : Nat) (ps : List ProdS) (a b : Int) (w : World) (HP : Prods [] w (.slice A ps.length C) ps) (hmk : m ≤ 9223372036854775807) :
    Calls Tryz.prog 12 #[.agg #[.slice A ps.length C, .slice K m D], .int .i64 a, .int .i64 b] w fun e w' => e = .returned (.bool true) ∧ Keep [] w w' := by
  have K0 := (Keep.refl [] w).alloc (.cells #[.slice A ps.length C, .slice K m D] 25)
  have HP0 : Prods [] _ (.slice A ps.length C) ps := SlOf.move HP prodRow_stab (by omega) K0 (by simp) (fun x hx => .inl hx)
  have B0 := Blk.new w #[.slice A ps.length C, .slice K m D] 25
  clear HP
  have hF := fun n w H => from_any [] A K C m D ps n w H (by simp)
  have HF := Lib.hid hF
  clear hF
  go_enter Tryz.func12, Tryz.ntmps12
  go_wp2_with fail
  refine (awake11_any _).mono ?_
  rintro e w1 ⟨rfl, K1⟩
  have B1 := B0.keep K1 (by simp)
  have b1 := B1.cell
  have HP1 : Prods [] w1 (.slice A ps.length C) ps := SlOf.move HP0 prodRow_stab (by omega) K1 (by simp) (fun x hx => .inl hx)
  go_wp2_with fail
  refine (few_any [] A K C m D ps _ HP1 hmk).mono ?_
  rintro e w2 ⟨⟨fw, rfl⟩, K2⟩
  have B2 := B1.keep K2 (by simp)
  have b2 := B2.cell
  have HP2 : Prods [] w2 (.slice A ps.length C) ps := SlOf.move HP1 prodRow_stab (by omega) K2 (by simp) (fun x hx => .inl hx)
  have KF2 := (K0.trans K1).trans K2
  clear HP0 HP1 B0 B1 b1
  go_wp2_with fail
  refine (HF.out a _ HP2).mono ?_
  rintro e w3 ⟨⟨vx, rfl, hvx⟩, K3⟩
  have B3 := B2.keep K3 (by simp)
  have b3 := B3.cell
  have HP3 : Prods [] w3 (.slice A ps.length C) ps := SlOf.move HP2 prodRow_stab (by omega) K3 (by simp) (fun x hx => .inl hx)
  have KF3 := KF2.trans K3
  obtain ⟨AX, CX, rfl, hCX, hcx⟩ := hvx.cells
  clear HP2 B2 b2 hvx
  go_wp2_with fail
  refine (HF.out b _ HP3).mono ?_
  rintro e w4 ⟨⟨vy, rfl, hvy⟩, K4⟩
  have B4 := B3.keep K4 (by simp)
  have b4 := B4.cell
  have HP4 : Prods [] w4 (.slice A ps.length C) ps := SlOf.move HP3 prodRow_stab (by omega) K4 (by simp) (fun x hx => .inl hx)
  have KF4 := KF3.trans K4
  obtain ⟨AY, CY, rfl, hCY, hcy⟩ := hvy.cells
  clear HP3 B3 b3 hvy HF
  cases fw with
  | false =>
    go_wp2
    go_ret
    exact ⟨rfl, KF4⟩
  | true =>
    by_cases hx0 : (fromR ps a).length = 0
    · rw [hx0]
      clear hcx hcy
      go_wp2
      go_ret
      exact ⟨rfl, KF4⟩
    · by_cases hy0 : (fromR ps b).length = 0
      · rw [hy0]
        have hxf : (((fromR ps a).length : Int) == 0) = false := by simpa using hx0
        clear hcx hcy
        go_wp2
        go_ret
        exact ⟨rfl, KF4⟩
      · have hga : gmay ps = true ∧ 0 ≤ a ∧ a < ps.length := by
          by_cases h : gmay ps = true ∧ 0 ≤ a ∧ a < ps.length
          · exact h
          · exact absurd (by unfold fromR; rw [if_neg h]; rfl) hx0
        have hgb : gmay ps = true ∧ 0 ≤ b ∧ b < ps.length := by
          by_cases h : gmay ps = true ∧ 0 ≤ b ∧ b < ps.length
          · exact h
          · exact absurd (by unfold fromR; rw [if_neg h]; rfl) hy0
        obtain ⟨hg, ha0, ha1⟩ := hga
        obtain ⟨_, hb0, hb1⟩ := hgb
        obtain ⟨x, rfl⟩ : ∃ x : Nat, a = x := ⟨a.toNat, by omega⟩
        obtain ⟨y, rfl⟩ : ∃ y : Nat, b = y := ⟨b.toNat, by omega⟩
        obtain ⟨hl0, hl1⟩ := gmay_len hg
        have hlx : (fromR ps x).length = ps.length := by unfold fromR; rw [if_pos ⟨hg, ha0, ha1⟩, fromF_len]
        have hly : (fromR ps y).length = ps.length := by unfold fromR; rw [if_pos ⟨hg, hb0, hb1⟩, fromF_len]
        have hxF : fromR ps x = fromF ps x := by unfold fromR; rw [if_pos ⟨hg, ha0, ha1⟩]
        have hyF : fromR ps y = fromF ps y := by unfold fromR; rw [if_pos ⟨hg, hb0, hb1⟩]
        have hTR : ∀ i : Nat, (fromR ps x)[y]? = some true → (fromR ps y)[i]? = some true → (fromR ps x)[i]? = some true := by
          rw [hxF, hyF]
          exact fun i h1 h2 => within_trans hg (by omega) (by omega) h1 i h2
        have hLF : ∀ z ∈ leftsR ps x, 0 ≤ z ∧ z < ps.length ∧ (fromR ps x)[z.toNat]? = some true := fun z hz => by
          obtain ⟨s, hs, rfl⟩ := leftsR_nt ps x (by omega) z hz
          have := gmay_nt hg x s hs
          rw [hxF]
          exact ⟨this.1, this.2, within_sym hg (by omega) s hs⟩
        have hlf := lefts_any A K C m D x [] ps w4 HP4 (by simp) (by omega)
        generalize leftsR ps x = l at hLF hlf
        generalize fromR ps x = xs at hTR hLF hlx hcx hCX hx0
        generalize fromR ps y = ys at hTR hly hcy hCY hy0
        obtain ⟨bx, rfl, hcx2⟩ := hcx (by omega)
        obtain ⟨by', rfl, hcy2⟩ := hcy (by omega)
        have HLF := Lib.hid hlf
        have HTR := Lib.hid hTR
        have HLL := Lib.hid hLF
        have HCX := Lib.hid (fun j hj => Keep.cell (T := []) K4 (hcx2 j hj) (by simp))
        have HCY := Lib.hid hcy2
        have g0 := b4 0
        have g1 := b4 1
        have hxl : xs.length ≤ 60 := by omega
        have hyl : ys.length = xs.length := by omega
        have hpl : ps.length = xs.length := by omega
        have hxp : 0 < xs.length := by omega
        have hxa : x < xs.length := by omega
        have hya : y < xs.length := by omega
        clear hlf hTR hLF hcx hcy hcx2 hcy2 b4 hx0 hy0 hxF hyF hlx hly ha1 hb1 ha0 hb0 hl0 hl1 hg HP4
        rw [hyl]
        have hxx : (xs[y]? = some xs[y]) := List.getElem?_eq_getElem hya
        have ey := HCX.out y hya
        have HTR2 : Hid (xs[y] = true → ∀ i : Nat, ys[i]? = some true → xs[i]? = some true) := Lib.hid (fun h i => HTR.out i (by rw [hxx, h]))
        generalize xs[y] = py at ey HTR2
        have HYL := Lib.hid hyl
        rw [hpl] at g0 g1 HLF HLL B4 ⊢
        have hpn : ((xs.length : Int) == 0) = false := beq_eq_false_iff_ne.2 (by omega)
        have h3 : (x : Int) < (xs.length : Int) := by omega
        have h4 : (y : Int) < (xs.length : Int) := by omega
        clear hxx HTR hpl hyl hCY hCX
        go_wp2
        go_loop [11] (fun i => ∃ k : Nat, k ≤ xs.length ∧ i = .int .i64 k) (fun i => xs.length - (intOf i).toNat)
        case atStart => exact ⟨0, by omega, rfl⟩
        case round =>
          obtain ⟨k, hk, rfl⟩ := hrel
          by_cases hlt : k < xs.length
          · have hlt' : (k : Int) < (xs.length : Int) := by omega
            have HLT := Lib.hid hlt
            have e0 := HCX.out k hlt
            have hky : k < ys.length := by rw [HYL.out]; exact hlt
            have f0 := HCY.out k hky
            have HT : Hid (py = true → ys[k] = true → xs[k] = true) := Lib.hid (fun h1 h2 => by
              have := HTR2.out h1 k (by rw [List.getElem?_eq_getElem hky, h2])
              rw [List.getElem?_eq_getElem hlt] at this
              exact Option.some.inj this)
            generalize xs[k] = p1 at e0 HT
            generalize ys[k] = p2 at f0 HT
            clear hky
            have hno : ¬(py = true ∧ p2 = true ∧ p1 = false) := by rintro ⟨h1, h2, h3⟩; have := HT.out h1 h2; rw [h3] at this; cases this
            clear HT HTR2
            cases py <;> cases p2 <;> cases p1
            all_goals (try (exact absurd ⟨rfl, rfl, rfl⟩ hno))
            all_goals (
              clear hno
              go_wp2
              go_round
              case rel => exact ⟨k + 1, by have := HLT.out; omega, by go_num⟩
              case measure => simp [intOf]; have := HLT.out; omega)
          · obtain rfl : k = xs.length := by omega
            clear HTR2 HCY
            go_wp2_with fail
            refine HLF.out.mono ?_
            rintro e w5 ⟨⟨vl, rfl, hvl⟩, K5⟩
            obtain ⟨AL, CL, rfl, hlL, hcl⟩ := hvl.cells
            have HCL := Lib.hid hcl
            have HC5 := Lib.hid (fun j hj => Keep.cell (T := []) K5 (HCX.out j hj) (by simp))
            have KF5 := KF4.trans K5
            clear hcl hvl HLF HCX g0 g1
            go_wp2
            go_loop [13] (fun i => ∃ k : Nat, k ≤ l.length ∧ i = .int .i64 k) (fun i => l.length - (intOf i).toNat)
            case atStart => exact ⟨0, by omega, rfl⟩
            case round =>
              obtain ⟨k, hk, rfl⟩ := hrel
              by_cases hlt : k < l.length
              · have hlt' : (k : Int) < (l.length : Int) := by omega
                have HLT := Lib.hid hlt
                obtain ⟨bl, ol, rfl, hcl⟩ := HCL.out (by omega)
                have e0 := hcl k hlt
                obtain ⟨z0, z1, z2⟩ := HLL.out l[k] (List.getElem_mem _)
                generalize l[k] = z at e0 z0 z1 z2
                obtain ⟨q, rfl⟩ : ∃ q : Nat, z = q := ⟨z.toNat, by omega⟩
                have hq : q < xs.length := by omega
                have r0 := HC5.out q hq
                have hqt : xs[q] = true := by
                  rw [Int.toNat_natCast, List.getElem?_eq_getElem hq] at z2
                  exact Option.some.inj z2
                rw [hqt] at r0
                clear hcl hqt z2 HLL HC5
                go_wp2
                go_round
                case rel => exact ⟨k + 1, by have := HLT.out; omega, by go_num⟩
                case measure => simp [intOf]; have := HLT.out; omega
              · obtain rfl : k = l.length := by omega
                go_wp2
                go_ret
                exact ⟨rfl, KF5⟩
end Go.Proofs.YtacihjabkiedcaaGreatDoor
namespace Go.Proofs.YtacihjabkiedcaaGreatDoor
open Go Go.RowKit Go.MapKept

set_option maxHeartbeats 2000000 in
theorem ints_any (b0 b1 : Nat) (v u : Value) (bs cs : List Int) (w : World) (H : IntV w b0 v bs) (G : IntV w b1 u cs) :
    Calls Tryz.prog 28 #[v, u] w fun e w' => e = .returned (.bool (decide (bs = cs))) ∧ Keep [] w w' := by
  obtain ⟨A, C, rfl, hbl, hc⟩ := H.cells
  obtain ⟨B, D, rfl, hcl, hd⟩ := G.cells
  have HH := Lib.hid hc; clear hc H
  have GG := Lib.hid hd; clear hd G
  by_cases hl : bs.length = cs.length
  · have hlb : ((bs.length : Int) != (cs.length : Int)) = false := by simp [hl]
    have HL := Lib.hid hl
    have hl2 : (cs.length : Int) = (bs.length : Int) := by omega
    clear hl
    go_enter Tryz.func28, Tryz.ntmps28
    go_wp2
    go_loopw [5] (fun i wr => ∃ k : Nat, k ≤ bs.length ∧ i = .int .i64 k ∧ Hid (∀ j (hj : j < k) (h1 : j < bs.length) (h2 : j < cs.length), bs[j] = cs[j]) ∧ Keep [] w wr) (fun i _ => bs.length - (intOf i).toNat)
    case atStart => exact ⟨0, by omega, rfl, Lib.hid (fun j hj => by omega), Keep.refl _ _⟩
    case round =>
      obtain ⟨k, hk, rfl, hno, Kr⟩ := hrel
      by_cases hlt : k < bs.length
      · have hlt' : (k : Int) < (bs.length : Int) := by omega
        have hltc : k < cs.length := by omega
        obtain ⟨b, o, rfl, hc⟩ := HH.out (by omega)
        obtain ⟨c, p, rfl, hd⟩ := GG.out (by omega)
        have e0 := Kr.cell (hc k hlt) (by simp)
        have e1 := Kr.cell (hd k hltc) (by simp)
        have HLT := Lib.hid hlt
        have HE : Hid (bs[k] = cs[k] → ∀ j (hj : j < k + 1) (h1 : j < bs.length) (h2 : j < cs.length), bs[j] = cs[j]) := Lib.hid (fun he j hj h1 h2 => by
          by_cases e : j = k
          · subst e; exact he
          · exact hno.out j (by omega) h1 h2)
        have HN : Hid (bs[k] ≠ cs[k] → decide (bs = cs) = false) := Lib.hid (fun hne => by simp; intro e; subst e; exact hne rfl)
        clear hc hd hno
        generalize bs[k] = x at e0 HE HN
        generalize cs[k] = y at e1 HE HN
        by_cases hxy : x = y
        · subst hxy
          have hq : (x != x) = false := by simp
          go_wp2
          go_quiet (fail)
          go_wp2
          go_roundw
          case rel => exact ⟨k + 1, by have := HLT.out; omega, by go_num, Lib.hid (HE.out (by simp)), Kr.drewN _⟩
          case measure => simp [intOf]; have := HLT.out; omega
        · have hq : (x != y) = true := by simpa using hxy
          have HX := Lib.hid hxy
          clear hxy
          go_wp2
          go_quiet (fail)
          go_wp2
          go_ret
          rw [HN.out HX.out]
          exact ⟨rfl, Kr.drewN _⟩
      · have heq : decide (bs = cs) = true := by
          simp only [decide_eq_true_eq]
          exact List.ext_getElem HL.out (fun j h1 h2 => hno.out j (by omega) h1 h2)
        have HEQ := Lib.hid heq
        obtain rfl : k = bs.length := by omega
        clear heq hno
        go_wp2
        go_ret
        rw [HEQ.out]
        exact ⟨rfl, Kr⟩
  · have hlb : ((bs.length : Int) != (cs.length : Int)) = true := by simp; omega
    have hne : decide (bs = cs) = false := by simp; intro e; exact hl (by rw [e])
    rw [hne]
    clear hl hne
    go_enter Tryz.func28, Tryz.ntmps28
    go_wp2
    go_ret
    exact ⟨rfl, Keep.refl _ _⟩
end Go.Proofs.YtacihjabkiedcaaGreatDoor
namespace Go.Proofs.YtacihjabkiedcaaGreatDoor
open Go Go.RowKit Go.MapKept

theorem IntV.keep {w w' : World} {base : Nat} {v : Value} {xs : List Int} {S : List Nat} (h : IntV w base v xs) (K : Keep S w w') (hS : ∀ b ∈ S, b < base) : IntV w' base v xs := by
  rcases h with h | ⟨b, o, C, h1, h2, h3, h4, h5, h6⟩
  · exact .inl h
  · refine .inr ⟨b, o, C, h1, h2, Nat.lt_of_lt_of_le h3 K.size, h4, h5, fun j hj => ?_⟩
    have hb := K.block b h3 (fun hb => by have := hS b hb; omega)
    obtain ⟨c1, c2⟩ := h6 j hj
    exact ⟨by rw [← c1]; simp only [World.cell?, hb], by rw [← c2]; simp only [World.frozen?, hb]⟩
structure Aw9F (g : GramS) : Prop where
  a : allR g.p = [false, true, false]
  b : leftsR g.p 0 = [1, 2]
  c : emptyR g.p [] = true
  d : g.p.length ≤ 1000
theorem aw9F : Aw9F g9 := ⟨r9a, r9b, r9c, by decide⟩
set_option maxRecDepth 20000 in
set_option maxHeartbeats 2000000 in
theorem awake9_any (w : World) : Calls Tryz.prog 26 #[] w fun e w' => e = .returned (.bool true) ∧ Keep [] w w' := by
  have hf := fun w => file_known [] t9 f9 w (by simp) text9.size text9.no1 text9.no2 text9.lex text9.parse
  have ho := text9.of
  have hA := aw9F
  generalize f9 = f at hf ho
  generalize g9 = g at ho hA
  have HF := Lib.hid hf
  have HO := Lib.hid ho
  have HA := Lib.hid hA
  clear hf ho hA
  go_enter Tryz.func26, Tryz.ntmps26
  go_wp2_with fail
  refine (HF.out _).mono ?_
  rintro e w1 ⟨K1, row, rfl, hfile⟩
  clear HF
  obtain ⟨A1, C1, D1, E1, rfl, hk1, hr1⟩ := hfile
  have KF := (Keep.refl [] w1).alloc (.cells #[.slice A1 f.keys.length C1, .slice D1 f.rules.length E1] 67)
  have hcall := of_known [] 3 f g #[.slice A1 f.keys.length C1, .slice D1 f.rules.length E1] _ HO.out (by simp) ⟨_, _, _, _, rfl, SlOf.move hk1 strRow_stab (by omega) KF (by simp) (fun x hx => .inl hx), SlOf.move hr1 ruleAt_stab (by omega) KF (by simp) (fun x hx => .inl hx)⟩
  have HC := Lib.hid hcall; clear hcall hk1 hr1
  have hmv : ∀ (x y z : Value) (w : World), (Instr.extract (.tuple #[x, y, z]) 0).run Tryz.prog w = .ok x w := fun _ _ _ _ => rfl
  have hmv1 : ∀ (x y z : Value) (w : World), (Instr.extract (.tuple #[x, y, z]) 1).run Tryz.prog w = .ok y w := fun _ _ _ _ => rfl
  have hmv2 : ∀ (x y z : Value) (w : World), (Instr.extract (.tuple #[x, y, z]) 2).run Tryz.prog w = .ok z w := fun _ _ _ _ => rfl
  go_wp2_with fail
  refine HC.out.mono ?_
  rintro e w2 ⟨row2, rfl, hg, K2⟩
  clear HC
  obtain ⟨A2, C2, D2, E2, rfl, hP, hK⟩ := hg
  have K3 := (Keep.refl [] w2).alloc (.cells #[.slice A2 g.p.length C2, .slice D2 g.keys.length E2] 25)
  have B3 := Blk.new w2 #[.slice A2 g.p.length C2, .slice D2 g.keys.length E2] 25
  have hP3 : Prods [] _ (.slice A2 g.p.length C2) g.p := SlOf.move hP prodRow_stab (by omega) K3 (by simp) (fun x hx => .inl hx)
  have KS : Keep [] w _ := (((K1.trans KF).trans K2).trans K3)
  clear K1 KF K2 hP hK
  go_wp2_with fail
  refine (all_nulls [] A2 D2 C2 g.keys.length E2 g.p _ hP3 (by simp)).mono ?_
  rintro e w4 ⟨⟨v, rfl, hbv⟩, K4⟩
  rw [HA.out.a] at hbv
  have K5 := (Keep.refl [] w4).alloc (.cells #[.bool false, .bool true, .bool false] 4)
  have hbv5 := hbv.keep K5 (by simp)
  have hlit : BoolV (w4.alloc (.cells #[.bool false, .bool true, .bool false] 4)) w4.heap.size (.slice (some ⟨w4.heap.size, 0, none⟩) 3 3) [false, true, false] := .inr ⟨by simp, _, rfl, Blk.new w4 #[.bool false, .bool true, .bool false] 4, Nat.le_refl _⟩
  have hcall := bools_any _ _ _ _ _ _ hbv5 (hlit.mono K4.size) (by simp) (by simp)
  have hdec : decide ([false, true, false] = [false, true, false]) = true := by decide
  rw [hdec] at hcall
  have HC := Lib.hid hcall; clear hcall hbv5 hlit hbv hdec
  go_wp2_with fail
  refine HC.out.mono ?_
  rintro e w6 ⟨rfl, K6⟩
  clear HC
  have K46 := (K4.trans K5).trans K6
  have B6 := B3.keep K46 (by simp)
  have b6 := B6.cell
  have hP6 : Prods [] w6 (.slice A2 g.p.length C2) g.p := SlOf.move hP3 prodRow_stab (by omega) K46 (by simp) (fun x hx => .inl hx)
  have KS6 := KS.trans K46
  clear K4 K5 K6 K46 KS B3 hP3
  go_wp2_with fail
  refine (lefts_any A2 D2 C2 g.keys.length E2 0 [] g.p w6 hP6 (by simp) (by have := HA.out.d; omega)).mono ?_
  rintro e w7 ⟨⟨v7, rfl, hv7⟩, K7⟩
  rw [HA.out.b] at hv7
  have K8 := (Keep.refl [] w7).alloc (.cells #[.int .i64 1, .int .i64 2] 3)
  have hv8 : IntV (w7.alloc (.cells #[.int .i64 1, .int .i64 2] 3)) w6.heap.size v7 [1, 2] := hv7.keep K8 (by simp)
  have hlit : IntV (w7.alloc (.cells #[.int .i64 1, .int .i64 2] 3)) w7.heap.size (.slice (some ⟨w7.heap.size, 0, none⟩) 2 2) [1, 2] := .inr ⟨_, _, _, rfl, Nat.le_refl _, by simp, by simp, by simp, fun j hj => by
    have B := Blk.new w7 #[.int .i64 1, .int .i64 2] 3
    have h1 := B.cell j
    have h2 := B.frozen j
    have hj' : j < 2 := by simpa using hj
    match j, hj' with
    | 0, _ => exact ⟨by simp, by simp⟩
    | 1, _ => exact ⟨by simp, by simp⟩⟩
  have hcall := ints_any _ _ _ _ _ _ _ hv8 hlit
  have hdec : decide (([1, 2] : List Int) = [1, 2]) = true := by decide
  rw [hdec] at hcall
  have HC := Lib.hid hcall; clear hcall hv7 hv8 hlit hdec
  go_wp2_with fail
  refine HC.out.mono ?_
  rintro e w9 ⟨rfl, K9⟩
  clear HC
  have K79 := (K7.trans K8).trans K9
  have B9 := B6.keep K79 (by simp)
  have b9 := B9.cell
  have hP9 : Prods [] w9 (.slice A2 g.p.length C2) g.p := SlOf.move hP6 prodRow_stab (by omega) K79 (by simp) (fun x hx => .inl hx)
  have KS9 := KS6.trans K79
  have hem := empty_any A2 D2 none C2 g.keys.length E2 0 [] g.p [] w9 hP9 (by simp) (SlOf.nil _ _ _)
  rw [HA.out.c] at hem
  have HE := Lib.hid hem
  clear K7 K8 K9 K79 KS6 B6 hP6 b6 hem
  go_wp2_with fail
  refine HE.out.mono ?_
  rintro e w10 ⟨rfl, K10⟩
  have KF := KS9.trans K10
  clear b9 HE
  go_wp2
  go_ret
  exact ⟨rfl, KF⟩
end Go.Proofs.YtacihjabkiedcaaGreatDoor
