/- The reference's words of layer 9: the walks of Empty, Lefts. -/
import Derived.Test.YtbpidoiellcccaaGreatDoorK29
import Derived.Test.YtbpidoiellcccaaGreatDoorK22
set_option linter.unusedVariables false
set_option linter.unusedSimpArgs false
namespace Go.Proofs.YtbpidoiellcccaaGreatDoor
open Go Go.RowKit Go.MapKept
/-- Lists that rise, of the same numbers, are the same. -/
theorem rise_eq : ∀ (xs ys : List Int), xs.Pairwise (fun a b => a < b) → ys.Pairwise (fun a b => a < b) → (∀ z, z ∈ xs ↔ z ∈ ys) → xs = ys
  | [], [], _, _, _ => rfl
  | [], y :: ys, _, _, h => absurd ((h y).2 List.mem_cons_self) (by simp)
  | x :: xs, [], _, _, h => absurd ((h x).1 List.mem_cons_self) (by simp)
  | x :: xs, y :: ys, hx, hy, h => by
    rw [List.pairwise_cons] at hx hy
    have e : x = y := by
      rcases List.mem_cons.1 ((h x).1 List.mem_cons_self) with h1 | h1
      · exact h1
      · rcases List.mem_cons.1 ((h y).2 List.mem_cons_self) with h2 | h2
        · exact h2.symm
        · have := hx.1 y h2
          have := hy.1 x h1
          omega
    subst e
    rw [rise_eq xs ys hx.2 hy.2 (fun z => ?_)]
    constructor
    · intro hz
      rcases List.mem_cons.1 ((h z).1 (List.mem_cons_of_mem _ hz)) with h1 | h1
      · subst h1; have := hx.1 z hz; omega
      · exact h1
    · intro hz
      rcases List.mem_cons.1 ((h z).2 (List.mem_cons_of_mem _ hz)) with h1 | h1
      · subst h1; have := hy.1 z hz; omega
      · exact h1
/-- Those of the first k that are in M. -/
def upTo (M : List Int) (k : Nat) : List Int := ((List.range k).filter fun (i : Nat) => decide ((i : Int) ∈ M)).map fun (i : Nat) => (i : Int)
theorem upTo_succ (M : List Int) (k : Nat) : upTo M (k + 1) = upTo M k ++ (if (k : Int) ∈ M then [(k : Int)] else []) := by
  unfold upTo
  rw [List.range_succ, List.filter_append, List.map_append]
  congr 1
  by_cases h : (k : Int) ∈ M <;> simp [h]
theorem upTo_len (M : List Int) (k : Nat) : (upTo M k).length ≤ k := by
  unfold upTo
  rw [List.length_map]
  exact Nat.le_trans (List.length_filter_le _ _) (by simp)
theorem upTo_mem (M : List Int) (k : Nat) (z : Int) : z ∈ upTo M k ↔ z ∈ M ∧ 0 ≤ z ∧ z < k := by
  unfold upTo
  simp only [List.mem_map, List.mem_filter, List.mem_range, decide_eq_true_eq]
  constructor
  · rintro ⟨i, ⟨h1, h2⟩, rfl⟩
    exact ⟨h2, by omega, by omega⟩
  · rintro ⟨h1, h2, h3⟩
    exact ⟨z.toNat, ⟨by omega, by rw [Int.toNat_of_nonneg h2]; exact h1⟩, Int.toNat_of_nonneg h2⟩
theorem upTo_rise (M : List Int) (k : Nat) : (upTo M k).Pairwise (fun a b => a < b) := by
  unfold upTo
  rw [List.pairwise_map]
  refine List.Pairwise.imp (fun h => ?_) (List.Pairwise.filter _ List.pairwise_lt_range)
  omega
theorem upTo_lefts (M : List Int) (n : Nat) (h : ∀ z ∈ M, 0 ≤ z ∧ z < n) : upTo M n = compI (sortI M) := by
  refine rise_eq _ _ (upTo_rise _ _) (compI_strict _ (sortI_sorted M)) (fun z => ?_)
  rw [upTo_mem]
  have hs : ∀ z, z ∈ sortI M ↔ z ∈ M := fun z => by unfold sortI; exact List.mem_mergeSort
  constructor
  · intro hz
    exact compI_mem _ _ ((hs z).2 hz.1)
  · intro hz
    have := (hs z).1 ((compI_sub _).2 z hz)
    exact ⟨this, h z this⟩
/-- What the reference's Lefts hands back. -/
theorem leftsAll_in {ps : List ProdS} (hg : gmay ps = true) (n : Nat) (hn : n < ps.length) (L : List Int) : ∀ z ∈ leftsAll L ps[n].a, 0 ≤ z ∧ z < ps.length := by
  intro z hz
  unfold leftsAll at hz
  obtain ⟨a, ha, hz⟩ := List.mem_flatMap.1 hz
  unfold leftsTo at hz
  obtain ⟨i, hi, hz⟩ := List.mem_flatMap.1 hz
  have hi' : i < a.length := List.mem_range.1 hi
  rw [List.getElem?_eq_getElem hi'] at hz
  simp only at hz
  split at hz
  · rename_i hc
    simp at hz
    subst hz
    exact gmay_sym hg _ (List.getElem_mem hn) a ha _ (List.getElem_mem hi') hc.1
  · simp at hz
theorem bl_nil (n : Nat) : bl n [] = List.replicate n false := by
  refine List.ext_getElem (by simp [bl]) (fun i h1 h2 => ?_)
  simp [bl]
set_option maxRecDepth 20000 in
set_option maxHeartbeats 8000000 in
theorem lefts9_any (S : List Nat) (A K : Option Addr) (C m D : Nat) (n : Int) (ps : List ProdS) (w : World) (HP : Prods S w (.slice A ps.length C) ps) (hS : ∀ b ∈ S, b < w.heap.size) :
    Calls Tryz.prog 52 #[.agg #[.slice A ps.length C, .slice K m D], .int .i64 n] w fun e w' => (∃ v, e = .returned v ∧ IntV w' w.heap.size v (leftsR ps n)) ∧ Keep [] w w' := by
  have K0 := (Keep.refl [] w).alloc (.cells #[.slice A ps.length C, .slice K m D] 25)
  have HP0 := HP.mv0 K0
  have B0 := Blk.new w #[.slice A ps.length C, .slice K m D] 25
  have HC := Lib.hid (all9_any S A K C m D ps _ HP0 (fun b hb => Nat.lt_of_lt_of_le (hS b hb) K0.size))
  have hlp := (SlOf.len HP).2.1
  have HPP := Lib.hid HP0
  have HSS := Lib.hid hS
  obtain ⟨R, hR⟩ : ∃ R, R = leftsR ps n := ⟨_, rfl⟩
  rw [← hR]
  have HRES := Lib.hid hR
  clear hR HP HP0 hS
  go_enter Tryz.func52, Tryz.ntmps52
  go_wp2_with fail
  refine HC.out.mono ?_
  rintro e w1 ⟨⟨v, rfl, hv⟩, K1⟩
  obtain ⟨V, F, rfl, hF, hc⟩ := hv.cells
  have hal : (all9R ps).length = if gmay ps = true then ps.length else 0 := by
    unfold all9R
    split
    · rw [rN_len]
    · rfl
  have B1 := B0.keep K1 (by simp)
  have b1 := B1.cell
  have HK01 := Lib.hid (K0.trans K1)
  have HP1 := Lib.hid (HPP.out.mv0 K1)
  by_cases hin : gmay ps = true ∧ 0 ≤ n ∧ n < ps.length
  · obtain ⟨hg, hn0, hn1⟩ := hin
    obtain ⟨n, rfl⟩ : ∃ k : Nat, n = k := ⟨n.toNat, by omega⟩
    have hn : n < ps.length := by omega
    obtain ⟨hl0, hl1⟩ := gmay_len hg
    rw [if_pos hg] at hal
    have hab : all9R ps = bl ps.length (emptyF ps) := by rw [all9_eq, allR, if_pos hg]
    have HBS := Lib.hid hc
    have hRr : R = upTo (leftsAll (emptyF ps) ps[n].a) ps.length := by
      rw [HRES.out, upTo_lefts _ _ (leftsAll_in hg n hn _)]
      unfold leftsR
      rw [if_pos ⟨hg, hn0, hn1⟩]
      simp [hn]
    have HRR := Lib.hid hRr
    have HOB := Lib.hid (fun l => (by rw [hab]; exact onlyB_bl ps l : onlyB (all9R ps) l = onlyF (emptyF ps) l))
    have hin2 := leftsAll_in hg n hn (emptyF ps)
    have HIN := Lib.hid (fun a (ha : a ∈ ps[n].a) i (hi : i < a.length) (h2 : a[i].k = 2) => gmay_sym hg _ (List.getElem_mem hn) a ha _ (List.getElem_mem hi) h2)
    have hd0 : decide ((n : Int) < 0) = false := by simp
    have hd1 : decide (ps.length ≤ n) = false := by simp; omega
    have hn1' : (n : Int) < (ps.length : Int) := by omega
    have HAB := Lib.hid hal
    obtain ⟨_, hal8, hl40⟩ := gmay_alt hg ps[n] (List.getElem_mem hn)
    have hmk := make_bools w1 ps.length (by omega)
    have KA := (Keep.refl [] w1).alloc (.cells (boolC (List.replicate ps.length false)) 4)
    have BL0 := Blk.new w1 (boolC (List.replicate ps.length false)) 4
    obtain ⟨W1, hW1⟩ : ∃ W, W = w1.alloc (.cells (boolC (List.replicate ps.length false)) 4) := ⟨_, rfl⟩
    have B1' := B1.keep KA (by simp)
    have hszw : w.heap.size < w1.heap.size := B1.lt
    rw [← hW1] at KA BL0 B1'
    have HP2 : Prods (w1.heap.size :: S) W1 (.slice A ps.length C) ps := SlOf.move HP1.out prodRow_stab (by omega) KA (by simp) (fun x hx => by
      rcases List.mem_cons.1 hx with rfl | hx
      · exact .inr (Nat.le_refl _)
      · exact .inl hx)
    have HBS1 : BsAt W1 V (all9R ps) := BsAt.keep hc KA
    have HW := Lib.hid hW1
    have HB1 := Lib.hid B1'
    have HKA := Lib.hid KA
    have HBB := Lib.hid HBS1
    obtain ⟨bp, op, A2, C2, N2, F2, rfl, hbp, e0, _, _, hA, _⟩ := HP2.pick n hn
    have HAl := Lib.hid hA
    have HE0 := Lib.hid e0
    have HLL := Lib.hid (⟨hal8, hl40⟩ : _ ∧ _)
    generalize ps[n].a = al at HAl HE0 HRR HLL HIN
    have hall := (SlOf.len HAl.out).2.1
    rw [hal] at hF ⊢
    have hT0 : Keep [w1.heap.size] W1 W1 ∧ Blk W1 w1.heap.size (boolC (bl ps.length (leftsAll (emptyF ps) (al.take 0)))) 4 := ⟨Keep.refl _ _, by
      have : leftsAll (emptyF ps) (al.take 0) = [] := by simp [leftsAll]
      rw [this, bl_nil]; exact BL0⟩
    have HT0 := Lib.hid hT0
    have hV : ∃ bv, V = some ⟨bv, 0, none⟩ ∧ bv ≠ w1.heap.size := by
      obtain ⟨bv, hbv, hcv⟩ := hc (by omega)
      refine ⟨bv, hbv, fun e => ?_⟩
      have := World.block_lt_of_cell? w1 _ (hcv 0 (by omega))
      simp only at this; omega
    obtain ⟨bv, rfl, hbv⟩ := hV
    clear hT0 hA e0 hc hv hin2 hab hal hal8 hl40 HP2 B1' KA BL0 HBS1 hW1 HC HPP HSS B1 B0 K0 K1 HBS hn0 hn1 hRr
    go_wp2
    rw [← HW.out]
    clear b1 hmk
    go_loopw [7] (fun i wr => ∃ j : Nat, j ≤ al.length ∧ i = .int .i64 j ∧ Keep [w1.heap.size] W1 wr ∧ Blk wr w1.heap.size (boolC (bl ps.length (leftsAll (emptyF ps) (al.take j)))) 4) (fun i _ => al.length - (intOf i).toNat)
    case atStart => exact ⟨0, by omega, rfl, HT0.out⟩
    case round =>
      clear HT0
      obtain ⟨j, hj, rfl, Kr, BRr⟩ := hrel
      have g0 := (HB1.out.keep Kr (by simp; omega)).cell 0
      have p0 := Keep.cell (T := [w1.heap.size]) Kr HE0.out (by simp; intro e; exact hbp (by simp [e]))
      by_cases hjl : j < al.length
      · have hjl' : (j : Int) < (al.length : Int) := by omega
        have HJL := Lib.hid hjl
        have hAr : Alts (w1.heap.size :: S) wr (.slice A2 al.length C2) al := SlOf.move HAl.out altRow_stab (by omega) Kr (fun x hx => .inl (by simp at hx; simp [hx])) (fun x hx => .inl hx)
        obtain ⟨b2, o2, A3, C3, rfl, _, f0, hS3⟩ := Alts.pick hAr j hjl
        have HSJ : Hid (leftsAll (emptyF ps) (al.take (j + 1)) = leftsAll (emptyF ps) (al.take j) ++ leftsTo (emptyF ps) al[j] al[j].length) := Lib.hid (leftsAll_succ _ al j hjl)
        have HIJ := Lib.hid (fun (i : Nat) (hi : i < al[j].length) (hk2 : al[j][i].k = 2) => HIN.out al[j] (List.getElem_mem hjl) i hi hk2)
        have h40 := HLL.out.2 al[j] (List.getElem_mem _)
        generalize leftsAll (emptyF ps) (al.take j) = M at BRr HSJ
        generalize al[j] = a at f0 hS3 HSJ HIJ h40
        have HS3 := Lib.hid hS3
        have HT1 : Hid (Keep [w1.heap.size] W1 wr ∧ Blk wr w1.heap.size (boolC (bl ps.length (M ++ leftsTo (emptyF ps) a 0))) 4) := Lib.hid ⟨Kr, by simpa [leftsTo] using BRr⟩
        have HKr := Lib.hid Kr
        clear hS3 hAr Kr BRr
        go_wp2
        clear g0 p0 f0
        obtain ⟨wo, rfl⟩ : ∃ wo : World, wo = wr := ⟨_, rfl⟩
        go_loopw [9] (fun i wr => ∃ t : Nat, t ≤ a.length ∧ i = .int .i64 t ∧ Keep [w1.heap.size] wo wr ∧ Blk wr w1.heap.size (boolC (bl ps.length (M ++ leftsTo (emptyF ps) a t))) 4) (fun i _ => a.length - (intOf i).toNat)
        case atStart => exact ⟨0, by omega, rfl, Keep.refl _ _, HT1.out.2⟩
        case round =>
          clear HT1
          obtain ⟨t, ht, rfl, Kt, BRt⟩ := hrel
          by_cases htl : t < a.length
          · have htl' : (t : Int) < (a.length : Int) := by omega
            have HTL := Lib.hid htl
            have hSt : Syms (w1.heap.size :: S) wr (.slice A3 a.length C3) a := SlOf.move HS3.out symRow_stab (by omega) Kt (fun x hx => .inl (by simp at hx; simp [hx])) (fun x hx => .inl hx)
            have htk := SlOf.take hSt t (by omega)
            have hBt : BsAt wr (some ⟨bv, 0, none⟩) (all9R ps) := fun h0 => by
              obtain ⟨b', hb', hc'⟩ := HBB.out h0
              simp only [Option.some.injEq, Addr.mk.injEq, and_true] at hb'
              subst hb'
              exact ⟨_, rfl, fun i hi => Keep.cell (T := [w1.heap.size]) (HKr.out.trans Kt) (hc' i hi) (by simpa using hbv)⟩
            have hca := only9_any (w1.heap.size :: S) A3 (some ⟨bv, 0, none⟩) C3 F (all9R ps) (a.take t) wr hBt htk
            rw [List.length_take, Nat.min_eq_left (by omega), HAB.out, HOB.out] at hca
            have HCA := Lib.hid hca
            obtain ⟨b3, o3, A4, C4, rfl, _, s0, _, s2, _⟩ := Syms.pick hSt t htl
            have HST : Hid (M ++ leftsTo (emptyF ps) a (t + 1) = (M ++ leftsTo (emptyF ps) a t) ++ (if a[t].k = 2 ∧ onlyF (emptyF ps) (a.take t) = true then [a[t].n] else [])) := Lib.hid ((congrArg (M ++ ·) (leftsTo_succ _ a t htl)).trans (List.append_assoc _ _ _).symm)
            have HII := Lib.hid (HIJ.out t htl)
            have hbl : (bl ps.length (M ++ leftsTo (emptyF ps) a t)).length = ps.length := by simp [bl]
            generalize M ++ leftsTo (emptyF ps) a t = M2 at BRt HST hbl
            generalize a[t] = sy at s0 s2 HST HII
            generalize onlyF (emptyF ps) (a.take t) = ob at HCA HST
            obtain ⟨sk, sr, sn⟩ := sy
            simp only at s0 s2
            have HBL := Lib.hid hbl
            clear hca hBt htk hSt hbl
            have hcap : a.length ≤ C3 := (SlOf.len HS3.out).2.2
            go_wp2_with fail
            refine HCA.out.mono ?_
            rintro e w5 ⟨rfl, rfl⟩
            clear HCA
            cases ob with
            | false =>
              have HFN : Hid (Keep [w1.heap.size] wo w5 ∧ Blk w5 w1.heap.size (boolC (bl ps.length (M ++ leftsTo (emptyF ps) a (t + 1)))) 4) := Lib.hid ⟨Kt, by rw [HST.out, if_neg (by rintro ⟨_, h⟩; cases h), List.append_nil]; exact BRt⟩
              clear Kt BRt
              go_wp2
              go_roundw
              case rel => exact ⟨t + 1, by have := HTL.out; omega, by go_num, HFN.out⟩
              case measure => simp [intOf]; have := HTL.out; omega
            | true =>
              by_cases h2 : sk = 2
              · subst h2
                obtain ⟨hs0, hs1⟩ : 0 ≤ sn ∧ sn < ps.length := HII.out rfl
                obtain ⟨z, rfl⟩ : ∃ z : Nat, sn = z := ⟨sn.toNat, by omega⟩
                have hz : z < ps.length := by omega
                have hz' : (z : Int) < (ps.length : Int) := by omega
                have r0 := BRt.cell z
                rw [boolC_at _ _ (by rw [HBL.out]; exact hz)] at r0
                generalize (bl ps.length M2)[z]'(by rw [HBL.out]; exact hz) = old at r0
                have rf := BRt.frozen z
                have hlb := BRt.lt
                have HFN : Hid (Keep [w1.heap.size] wo (w5.setCell ⟨w1.heap.size, z, none⟩ (.bool true)) ∧ Blk (w5.setCell ⟨w1.heap.size, z, none⟩ (.bool true)) w1.heap.size (boolC (bl ps.length (M ++ leftsTo (emptyF ps) a (t + 1)))) 4) := Lib.hid ⟨Kt.setCell (p := ⟨w1.heap.size, z, none⟩) (by simp) _, by rw [HST.out, if_pos ⟨rfl, rfl⟩, bl_add _ _ _ hz, ← boolC_set]; exact BRt.set z _⟩
                clear Kt BRt hs0 hs1
                go_wp2
                go_roundw
                case rel => exact ⟨t + 1, by have := HTL.out; omega, by go_num, HFN.out⟩
                case measure => simp [intOf]; have := HTL.out; omega
              · have h2b : (sk == 2) = false := by simpa using h2
                have HFN : Hid (Keep [w1.heap.size] wo w5 ∧ Blk w5 w1.heap.size (boolC (bl ps.length (M ++ leftsTo (emptyF ps) a (t + 1)))) 4) := Lib.hid ⟨Kt, by rw [HST.out, if_neg (by rintro ⟨h, _⟩; exact h2 h), List.append_nil]; exact BRt⟩
                clear Kt BRt h2
                go_wp2
                go_roundw
                case rel => exact ⟨t + 1, by have := HTL.out; omega, by go_num, HFN.out⟩
                case measure => simp [intOf]; have := HTL.out; omega
          · obtain rfl : t = a.length := by omega
            have HFN : Hid (Keep [w1.heap.size] W1 wr ∧ Blk wr w1.heap.size (boolC (bl ps.length (leftsAll (emptyF ps) (al.take (j + 1))))) 4) := Lib.hid ⟨HKr.out.trans Kt, by rw [HSJ.out]; exact BRt⟩
            clear Kt BRt
            go_wp2
            go_roundw
            case rel => exact ⟨j + 1, by have := HJL.out; omega, by go_num, HFN.out⟩
            case measure => simp [intOf]; have := HJL.out; omega
      · obtain rfl : j = al.length := by omega
        rw [List.take_length] at BRr
        generalize leftsAll (emptyF ps) al = M at BRr HRR
        have HBR := Lib.hid BRr
        have HKF := Lib.hid (HK01.out.trans (HKA.out.then Kr (fun x hx => by simp at hx; subst hx; exact .inr (Nat.le_refl _))))
        obtain ⟨i0, hi0, hz0, hz1, hz2⟩ := info_parts info_int
        clear Kr BRr
        go_wp2
        clear g0 p0
        obtain ⟨wo, rfl⟩ : ∃ wo : World, wo = wr := ⟨_, rfl⟩
        go_loopw [11, 12] (fun o i wr => ∃ t : Nat, t ≤ ps.length ∧ i = .int .i64 t ∧ GotAt wo o (upTo M t) wr) (fun _ i _ => ps.length - (intOf i).toNat)
        case atStart => exact ⟨0, by omega, rfl, OwnL.nil _ _ _ _ _, Keep.refl _ _⟩
        case round =>
          obtain ⟨t, ht, rfl, hO, Kt⟩ := hrel
          by_cases htl : t < ps.length
          · have htl' : (t : Int) < (ps.length : Int) := by omega
            have HTL := Lib.hid htl
            have r0 := (HBR.out.keep Kt (by simp)).cell t
            rw [boolC_at _ _ (by simp [bl]; exact htl)] at r0
            have hbt : (bl ps.length M)[t]'(by simp [bl]; exact htl) = decide ((t : Int) ∈ M) := by simp [bl]
            rw [hbt] at r0
            have hul := upTo_len M t
            obtain ⟨AO, CO, hvo⟩ := hO.slice
            subst hvo
            by_cases hmem : (t : Int) ∈ M
            · have HUS : Hid (upTo M (t + 1) = upTo M t ++ [(t : Int)]) := Lib.hid (by rw [upTo_succ, if_pos hmem])
              rw [decide_eq_true hmem] at r0
              generalize upTo M t = acc at hO HUS hul
              have HO := Lib.hid hO
              have HKt := Lib.hid Kt
              clear hmem hbt hO Kt
              go_wp2_with (at_builtin; refine Hid.out ?_)
              refine Lib.hid ?_
              refine wpList_append_data intRow_stab intRow_one rfl _ _ 26 rfl Tryz.underlying26 hi0 hz0 hz1 hz2 rfl (by omega) (S := []) (base := wo.heap.size) (v := .slice AO acc.length CO) (A := some ⟨wr.heap.size, 0, none⟩) (m := 1) (C := 1) (xs := acc) (ys := [(t : Int)]) rfl rfl (HO.out.move intRow_stab ((Keep.refl [] wr).alloc _) (by simp) (by simp))
                (one_int (Blk.new wr _ 3) (fun hx => by have := (HO.out.base _ (by simpa using hx)).2; omega)) (by simp; omega) (by simp; omega) (by have := HKt.out.size; simp; omega) ?_
              intro A9 C9 w9 O9 K9 n9
              have HFN : Hid (GotAt wo (.slice A9 (acc.length + [(t : Int)].length) C9) (upTo M (t + 1)) w9) := Lib.hid ⟨by rw [HUS.out]; exact O9, (HKt.out.alloc _).then K9 (fun x hx => .inr (HO.out.base x hx).1)⟩
              clear O9 K9 n9
              go_wp2
              go_roundw
              case rel => exact ⟨t + 1, by have := HTL.out; omega, by go_num, HFN.out⟩
              case measure => simp [intOf]; have := HTL.out; omega
            · have HFN : Hid (GotAt wo (.slice AO (upTo M t).length CO) (upTo M (t + 1)) wr) := Lib.hid (by rw [upTo_succ, if_neg hmem, List.append_nil]; exact ⟨hO, Kt⟩)
              rw [decide_eq_false hmem] at r0
              generalize (upTo M t).length = ul at HFN ⊢
              clear hmem hbt hO Kt
              go_wp2
              go_roundw
              case rel => exact ⟨t + 1, by have := HTL.out; omega, by go_num, HFN.out⟩
              case measure => simp [intOf]; have := HTL.out; omega
          · obtain rfl : t = ps.length := by omega
            have hul := upTo_len M ps.length
            have hgot : GotAt wo u11 (upTo M ps.length) wr := ⟨hO, Kt⟩
            have HFN : Hid (IntV wr w.heap.size u11 R ∧ Keep [] w wr) := Lib.hid ⟨by rw [HRR.out]; exact (hgot.ints (by omega)).low HKF.out.size, HKF.out.trans Kt⟩
            clear hO Kt hgot
            go_wp2
            go_ret
            exact ⟨⟨_, rfl, HFN.out.1⟩, HFN.out.2⟩
  · have hRn : R = [] := by
      rw [HRES.out]
      unfold leftsR
      rw [if_neg hin]
    have HR := Lib.hid hRn
    have hiv : IntV w1 w.heap.size (.slice none 0 0) R := by rw [hRn]; exact .inl ⟨rfl, none, 0, rfl⟩
    have HIV := Lib.hid hiv
    clear hRn hiv hc hv hF HC HPP HSS
    by_cases hn0 : n < 0
    · clear hin hal
      generalize (all9R ps).length = q
      go_wp2
      go_ret
      exact ⟨⟨_, rfl, HIV.out⟩, HK01.out⟩
    · have hn0' : 0 ≤ n := by omega
      have hle : ((all9R ps).length : Int) ≤ n := by
        rw [hal]
        split
        · rename_i hg
          by_cases h : n < ps.length
          · exact absurd ⟨hg, hn0', h⟩ hin
          · omega
        · simpa using hn0'
      clear hin hal hn0
      generalize (all9R ps).length = q at hle ⊢
      go_wp2
      go_ret
      exact ⟨⟨_, rfl, HIV.out⟩, HK01.out⟩
end Go.Proofs.YtbpidoiellcccaaGreatDoor
