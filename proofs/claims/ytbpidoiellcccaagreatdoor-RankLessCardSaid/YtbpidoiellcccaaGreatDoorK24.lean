/- Who waits for whom: the walk of of. -/
import Derived.Test.YtbpidoiellcccaaGreatDoorK22
import Derived.Deep.RegionLaw
import Derived.Deep.DeepCutAuto
import Derived.Deep.CutBlock
import Derived.Test.YtbpidoiellcccaaGreatDoorK23
import Derived.Test.YtbpidoiellcccaaGreatDoorK16
set_option linter.unusedVariables false
set_option linter.unusedSimpArgs false
namespace Go.Proofs.YtbpidoiellcccaaGreatDoor
open Go Go.RowKit Go.MapKept

theorem info_ints : (Tryz.prog.info? 26).map (fun i => (i.zero, i.size, i.bytes)) = some (some (.slice none 0 0), 1, 24) := by kernel_rfl
theorem make_ints (w : World) (n : Nat) (hn : n ≤ 1000000) : (Instr.makeSlice 26 (.int .i64 n) (.int .i64 n)).run Tryz.prog w = .ok (.slice (some ⟨w.heap.size, 0, none⟩) n n) (w.alloc (.cells (numC (List.replicate n 0)) 3)) := by
  obtain ⟨i0, hi0, hz0, hz1, hz2⟩ := info_parts info_int
  have h := run_make (P := Tryz.prog) (w := w) 26 3 i0 (.int .i64 0) Tryz.underlying26 hi0 hz0 .i64 .i64 n n (by omega) (by omega) (by rw [hz2]; omega) (by omega)
  rw [h, hz1]
  have e : madeCells (Value.int .i64 0).cells ((n : Int).toNat * 1) = numC (List.replicate n 0) := by
    apply Array.ext'
    have h1 : (madeCells (Value.int .i64 0).cells ((n : Int).toNat * 1)).toList = List.replicate ((n : Int).toNat * 1) (.int .i64 0) := toList_madeCells_one _ _
    rw [h1]
    simp [numC]
  rw [e]
  simp
theorem make_rows (w : World) (n : Nat) (hn : n ≤ 1000000) : (Instr.makeSlice 58 (.int .i64 n) (.int .i64 n)).run Tryz.prog w = .ok (.slice (some ⟨w.heap.size, 0, none⟩) n n) (w.alloc (.cells (List.replicate n noS).toArray 26)) := by
  obtain ⟨i0, hi0, hz0, hz1, hz2⟩ := info_parts info_ints
  have h := run_make (P := Tryz.prog) (w := w) 58 26 i0 (.slice none 0 0) Tryz.underlying58 hi0 hz0 .i64 .i64 n n (by omega) (by omega) (by rw [hz2]; omega) (by omega)
  rw [h, hz1]
  have e : madeCells (Value.slice none 0 0).cells ((n : Int).toNat * 1) = (List.replicate n noS).toArray := by
    apply Array.ext'
    have h1 : (madeCells (Value.slice none 0 0).cells ((n : Int).toNat * 1)).toList = List.replicate ((n : Int).toNat * 1) (.slice none 0 0) := toList_madeCells_one _ _
    rw [h1]
    simp
  rw [e]
  simp
/-- All blocks of a ranker. -/
def rkB (rb wb gb : Nat) (vs : List Value) : List Nat := rb :: wb :: gb :: vs.flatMap ownB
theorem mem_rkB {rb wb gb b : Nat} {vs : List Value} : b ∈ rkB rb wb gb vs ↔ b = rb ∨ b = wb ∨ b = gb ∨ ∃ k, k < vs.length ∧ b ∈ ownB (vs.getD k noS) := by
  unfold rkB
  simp only [List.mem_cons, List.mem_flatMap]
  constructor
  · rintro (h | h | h | ⟨v, hv, hb⟩)
    · exact .inl h
    · exact .inr (.inl h)
    · exact .inr (.inr (.inl h))
    · obtain ⟨k, hk, rfl⟩ := List.getElem_of_mem hv
      exact .inr (.inr (.inr ⟨k, hk, by simpa [hk] using hb⟩))
  · rintro (h | h | h | ⟨k, hk, hb⟩)
    · exact .inl h
    · exact .inr (.inl h)
    · exact .inr (.inr (.inl h))
    · exact .inr (.inr (.inr ⟨vs[k], List.getElem_mem hk, by simpa [hk] using hb⟩))
theorem RkV.mem {w : World} {base rb wb gb : Nat} {vs : List Value} {N : Nat} {wt : List Int} {rg : List (List Int)} (h : RkV w base rb wb gb vs N wt rg) : ∀ b ∈ rkB rb wb gb vs, base ≤ b ∧ b < w.heap.size := by
  intro b hb
  have l1 := h.r.lt; have l2 := h.wk.lt; have l3 := h.gk.lt
  have lo := h.lo
  rcases mem_rkB.1 hb with rfl | rfl | rfl | ⟨k, hk, hb⟩
  · omega
  · omega
  · omega
  · exact (h.row k (by rw [← h.vl]; exact hk)).base b hb
theorem NumV.low {w : World} {base base' : Nat} {v : Value} {xs : List Int} (h : NumV w base v xs) (hb : base' ≤ base) : NumV w base' v xs := by
  refine .ofRow ?_
  obtain ⟨h1, h2⟩ := h.row
  refine ⟨h1, ?_⟩
  rcases h2 with h2 | ⟨g, cap, cur, e, h3, rest⟩
  · exact .inl h2
  · exact .inr ⟨g, cap, cur, e, by omega, rest⟩
theorem RkV.low {w : World} {base base' rb wb gb : Nat} {vs : List Value} {N : Nat} {wt : List Int} {rg : List (List Int)} (h : RkV w base rb wb gb vs N wt rg) (hb : base' ≤ base) : RkV w base' rb wb gb vs N wt rg :=
  ⟨h.r, h.wk, h.gk, h.wl, h.vl, h.gl, h.ne, by have := h.lo; omega, fun k hk => (h.row k hk).low hb, h.apart, h.out⟩
/-- From w to w' the ranker's blocks have turned alone. -/
def RkGo (base rb wb gb : Nat) (vs : List Value) (N : Nat) (wt : List Int) (rg : List (List Int)) (w w' : World) : Prop := ∃ vs', RkV w' base rb wb gb vs' N wt rg ∧ Keep (rkB rb wb gb vs) w w' ∧ ∀ b ∈ rkB rb wb gb vs', b ∈ rkB rb wb gb vs ∨ w.heap.size ≤ b
theorem RkGo.trans {base rb wb gb : Nat} {vs : List Value} {N : Nat} {wt wt' : List Int} {rg rg' : List (List Int)} {w w1 w2 : World} {vs1 : List Value} (h1 : Keep (rkB rb wb gb vs) w w1) (h2 : ∀ b ∈ rkB rb wb gb vs1, b ∈ rkB rb wb gb vs ∨ w.heap.size ≤ b) (h : RkGo base rb wb gb vs1 N wt' rg' w1 w2) : RkGo base rb wb gb vs N wt' rg' w w2 := by
  obtain ⟨vs2, k1, k2, k3⟩ := h
  exact ⟨vs2, k1, h1.then k2 h2, fun b hb => (k3 b hb).elim (h2 b) (fun h => .inr (Nat.le_trans h1.size h))⟩
theorem RkV.goR {w w' : World} {base rb wb gb : Nat} {vs : List Value} {N : Nat} {wt : List Int} {rg : List (List Int)} (h : RkV w base rb wb gb vs N wt rg) (k : Nat) (hk : k < N) {v : Value} {ys : List Int} (K : Keep (ownB (vs.getD k noS)) w w') (hN : NumV w' base v ys)
    (hv : ∀ b ∈ ownB v, b ∈ ownB (vs.getD k noS) ∨ w.heap.size ≤ b) : RkGo base rb wb gb vs N wt (rg.set k ys) w (w'.setCell ⟨gb, k, none⟩ v) := by
  have hvl := h.vl
  refine ⟨vs.set k v, h.setR k hk K hN hv, ?_, fun b hb => ?_⟩
  · exact (K.mono (fun b hb => .inl (mem_rkB.2 (.inr (.inr (.inr ⟨k, by omega, hb⟩)))))).setCell (p := ⟨gb, k, none⟩) (.inl (mem_rkB.2 (.inr (.inr (.inl rfl))))) v
  · rcases mem_rkB.1 hb with rfl | rfl | rfl | ⟨i, hi, hb⟩
    · exact .inl (mem_rkB.2 (.inl rfl))
    · exact .inl (mem_rkB.2 (.inr (.inl rfl)))
    · exact .inl (mem_rkB.2 (.inr (.inr (.inl rfl))))
    · rw [List.length_set] at hi
      rw [getD_set _ _ _ _ _ (by omega)] at hb
      by_cases e : i = k
      · rw [if_pos e] at hb
        exact (hv b hb).imp_left (fun h => mem_rkB.2 (.inr (.inr (.inr ⟨k, by omega, h⟩))))
      · rw [if_neg e] at hb
        exact .inl (mem_rkB.2 (.inr (.inr (.inr ⟨i, hi, hb⟩))))
/-- What of lays. -/
def RkAt (W : World) (base : Nat) (v : Value) (N : Nat) (wt : List Int) (rg : List (List Int)) (w : World) : Prop := ∃ rb wb gb vs, v = .pointer (some ⟨rb, 0, none⟩) ∧ RkV w base rb wb gb vs N wt rg ∧ Keep [] W w
theorem rk_new {w : World} {N base : Nat} {rb wb gb : Nat} (r : Blk w rb #[.slice (some ⟨wb, 0, none⟩) N N, .slice (some ⟨gb, 0, none⟩) N N] 103) (wk : Blk w wb (numC (List.replicate N 0)) 3) (gk : Blk w gb (Array.replicate N noS) 26)
    (ne : rb ≠ wb ∧ rb ≠ gb ∧ wb ≠ gb) (lo : base ≤ rb ∧ base ≤ wb ∧ base ≤ gb) : RkV w base rb wb gb (List.replicate N noS) N (List.replicate N 0) (List.replicate N []) := by
  have e1 : ∀ k, k < N → (List.replicate N noS).getD k noS = noS := fun k hk => by rw [List.getD_eq_getElem?_getD, List.getElem?_replicate, if_pos hk]; rfl
  have e2 : ∀ k, k < N → (List.replicate N ([] : List Int)).getD k [] = [] := fun k hk => by rw [List.getD_eq_getElem?_getD, List.getElem?_replicate, if_pos hk]; rfl
  rw [← List.toArray_replicate] at gk
  refine ⟨r, wk, gk, by simp, by simp, by simp, ne, lo, fun k hk => by rw [e1 k hk, e2 k hk]; exact NumV.nil _ _, fun i j hi _ _ b hb => ?_, fun i hi b hb => ?_⟩
  · rw [e1 i hi] at hb; simp [ownB, Value.ownBlock] at hb
  · rw [e1 i hi] at hb; simp [ownB, Value.ownBlock] at hb
theorem addAll_short (ps : List ProdS) (n k j : Nat) (L : List Int) (hn : L.Nodup) (hz : ∀ z ∈ L, 0 ≤ z ∧ z < ps.length) (hk : k < ps.length) : ((addAll (rightsR ps n) n (L.take j)).getD k []).length ≤ n + 1 := by
  have hl : (rightsR ps n).length = ps.length := by simp [rightsR]
  rw [addAll_at n _ _ k (hn.sublist (List.take_sublist _ _)) (by rw [hl]; exact fun z h => hz z (List.mem_of_mem_take h)) (by rw [hl]; exact hk)]
  have e2 : (rightsR ps n).getD k [] = ((List.range n).filter fun m => lfP ps m k).map fun (m : Nat) => (m : Int) := by simp [rightsR, hk]
  have h3 : ((List.range n).filter fun m => lfP ps m k).length ≤ n := by
    have := List.length_filter_le (fun m => lfP ps m k) (List.range n)
    simpa using this
  rw [e2, List.length_append, List.length_map]
  split <;> simp <;> omega
set_option maxRecDepth 20000 in
set_option maxHeartbeats 4000000 in
theorem of_rank (A K : Option Addr) (C m D : Nat) (ps : List ProdS) (w : World) (HP : Prods [] w (.slice A ps.length C) ps) (hN : ps.length ≤ 1000) :
    Calls Tryz.prog 22 #[.agg #[.slice A ps.length C, .slice K m D]] w fun e w' => ∃ v, e = .returned v ∧ RkAt w w.heap.size v ps.length (waitsR ps ps.length) (rightsR ps ps.length) w' := by
  have K0 := (Keep.refl [] w).alloc (.cells #[.slice A ps.length C, .slice K m D] 25)
  have HP0 : Prods [] _ (.slice A ps.length C) ps := SlOf.move HP prodRow_stab (by omega) K0 (by simp) (fun x hx => .inl hx)
  have B0 := Blk.new w #[.slice A ps.length C, .slice K m D] 25
  have b0 := B0.cell 0
  have HH := Lib.hid (⟨HP0, B0, K0⟩ : _ ∧ _ ∧ _)
  clear HP HP0 B0 K0
  generalize hnn : ps.length = N at *
  have HNN := Lib.hid hnn
  clear hnn
  have hmi := fun w => make_ints w N (by omega)
  have hmr := fun w => make_rows w N (by omega)
  go_enter Tryz.func22, Tryz.ntmps22
  go_upto_region 1 with fail
  have HK1 := Lib.hid (fun o1 o2 o3 => ((((Keep.refl [] (w.alloc (.cells #[.slice A N C, .slice K m D] 25))).alloc o1).alloc o2).alloc o3).drew)
  go_cut [3] from 8 to 17 (fun v wx => RkAt (w.alloc (.cells #[.slice A N C, .slice K m D] 25)) (w.heap.size + 1) v N (List.replicate N 0) (List.replicate N []) wx)
  case first =>
    go_region
    all_goals go_wp2_with fail
    all_goals go_meet
    · exact ⟨_, _, _, _, rfl, rk_new (Blk.new' _ _ _ (by simp)) (((Blk.new' _ _ _ (by simp)).alloc _).alloc _) ((Blk.new' _ _ _ (by simp)).alloc _) (by omega) (by omega), HK1.out _ _ _⟩
    · exact ⟨_, _, _, _, rfl, rk_new (Blk.new' _ _ _ (by simp)) ((Blk.new' _ _ _ (by simp)).alloc _) (((Blk.new' _ _ _ (by simp)).alloc _).alloc _) (by omega) (by omega), HK1.out _ _ _⟩
  case rest =>
    obtain ⟨rb, wb, gb, vs, rfl, HR, KC⟩ := hcut
    have b0 := (HH.out.2.1.keep KC (by simp)).cell 0
    have HST : Hid (∃ vs, RkV wc (w.heap.size + 1) rb wb gb vs N (waitsR ps 0) (rightsR ps 0) ∧ Keep [] (w.alloc (.cells #[.slice A N C, .slice K m D] 25)) wc) := Lib.hid ⟨vs, by rw [waitsR_zero, rightsR_zero, HNN.out]; exact HR, KC⟩
    clear HR KC
    go_wp2
    go_loopw [21] (fun iv wr => ∃ (n : Nat), iv = .int .i64 n ∧ n ≤ N ∧ Hid (∃ vs, RkV wr (w.heap.size + 1) rb wb gb vs N (waitsR ps n) (rightsR ps n) ∧ Keep [] (w.alloc (.cells #[.slice A N C, .slice K m D] 25)) wr)) (fun iv _ => N - (intOf iv).toNat)
    case atStart => exact ⟨0, rfl, by omega, HST⟩
    case round =>
      obtain ⟨n, rfl, hn, HI⟩ := hrel
      obtain ⟨wo, rfl⟩ : ∃ wo : World, wo = wr := ⟨_, rfl⟩
      clear HST b0
      obtain ⟨vs, HR, KR⟩ := HI.out
      by_cases hlt : n < N
      · have HP : Prods [] wo (.slice A N C) ps := by have := HH.out.1; exact SlOf.move this prodRow_stab (by omega) KR (by simp) (fun x hx => .inl hx)
        have hL := lefts_any A K C m D n [] ps wo (by rw [HNN.out]; exact HP) (by simp) (by rw [HNN.out]; omega)
        rw [HNN.out] at hL
        have hw1 := waitsR_succ ps n (by rw [HNN.out]; exact hlt)
        have hr1 := rightsR_succ ps n (by rw [HNN.out]; exact hlt)
        have hin : ∀ z ∈ leftsR ps n, 0 ≤ z ∧ z < N := by have := leftsR_in (ps := ps) (n := n); rw [HNN.out] at this; exact this
        have hnd := leftsR_nodup ps n
        generalize leftsR ps n = L at *
        have c0 := (HH.out.2.1.keep KR (by simp)).cell 0
        have c1 := (HH.out.2.1.keep KR (by simp)).cell 1
        have HL := Lib.hid hL
        have HRW := Lib.hid (⟨HR, KR⟩ : _ ∧ _)
        have HEQ := Lib.hid (⟨hw1, hr1, hin, hnd⟩ : _ ∧ _ ∧ _ ∧ _)
        have HLT := Lib.hid hlt
        clear HP hL hw1 hr1 hin hnd HR KR HI
        go_wp2_with fail
        refine HL.out.mono ?_
        rintro e w1 ⟨⟨v, rfl, HV⟩, K1⟩
        obtain ⟨AL, CL, rfl, hll, hc⟩ := HV.cells
        have R1 := HRW.out.1.keep K1 (by simp)
        have r0 := R1.r.cell 0
        have r1 := R1.r.cell 1
        have n0 := R1.wk.cell n
        rw [numC_at _ _ (by rw [R1.wl]; exact hlt)] at n0
        generalize nth (waitsR ps n) n = old at n0
        have f0 := R1.wk.frozen n
        have hlt2 : (n : Int) < (N : Int) := by omega
        have R2 := R1.setW n (L.length : Int)
        rw [← HEQ.out.1] at R2
        have K2 : Keep (rkB rb wb gb vs) w1 (w1.setCell ⟨wb, n, none⟩ (.int .i64 (L.length : Int))) := (Keep.refl _ w1).setCell (p := ⟨wb, n, none⟩) (.inl (mem_rkB.2 (.inr (.inl rfl)))) _
        have hmr := HRW.out.1.mem
        have hcc : 0 < L.length → ∃ b o, AL = some ⟨b, o, none⟩ ∧ b ∉ rkB rb wb gb vs ∧ b < w1.heap.size ∧ ∀ j (hj : j < L.length), w1.cell? ⟨b, o + j, none⟩ = some (.int .i64 (nth L j)) := fun h0 => by
          rcases HV with ⟨h, _⟩ | ⟨b, o, C', e, h1, h2, _, _, _⟩
          · rw [h] at h0; simp at h0
          · obtain ⟨b', o', e', hc'⟩ := hc h0
            simp only [Value.slice.injEq] at e
            obtain ⟨rfl, _, _⟩ := e
            simp only [Option.some.injEq, Addr.mk.injEq, and_true] at e'
            obtain ⟨rfl, rfl⟩ := e'
            refine ⟨b, o, rfl, fun hb => ?_, h2, fun j hj => ?_⟩
            · have := (hmr b hb).2; omega
            · rw [hc' j hj]; simp [nth, hj]
        have HS2 := Lib.hid (⟨vs, R2, K2, fun b hb => .inl hb⟩ : RkGo (w.heap.size + 1) rb wb gb vs N (waitsR ps (n + 1)) (addAll (rightsR ps n) n (L.take 0)) w1 (w1.setCell ⟨wb, n, none⟩ (.int .i64 (L.length : Int))))
        have HCC := Lib.hid hcc
        have HKK := Lib.hid (⟨K1, hll⟩ : _ ∧ _)
        have hln := hll
        clear hcc K2 R2 R1 hmr K1 HV hc HL
        generalize hlz : L.length = ll at *
        have HLZ := Lib.hid hlz
        clear hlz
        go_wp2
        go_loopw [37] (fun jv wr => ∃ (j : Nat), jv = .int .i64 j ∧ j ≤ ll ∧ Hid (RkGo (w.heap.size + 1) rb wb gb vs N (waitsR ps (n + 1)) (addAll (rightsR ps n) n (L.take j)) w1 wr)) (fun jv _ => ll - (intOf jv).toNat)
        case atStart => exact ⟨0, rfl, by omega, HS2⟩
        case round =>
          obtain ⟨j, rfl, hj, HG⟩ := hrel
          by_cases hjl : j < ll
          · obtain ⟨vs2, G, KG, NG⟩ := HG.out
            obtain ⟨bl, ol, rfl, hbn, hbl, hcl⟩ := HCC.out (by omega)
            have e0 := KG.cell (hcl j hjl) hbn
            have hzr : 0 ≤ nth L j ∧ nth L j < N := by
              have hjL : j < L.length := by rw [HLZ.out]; exact hjl
              exact HEQ.out.2.2.1 _ (by simp [nth, hjL])
            have hsn := addAll_snoc (rightsR ps n) n L j (by rw [HLZ.out]; exact hjl)
            obtain ⟨k, hk⟩ : ∃ k : Nat, nth L j = k := ⟨(nth L j).toNat, by omega⟩
            rw [hk] at e0 hsn hzr
            rw [Int.toNat_natCast] at hsn
            have hkN : k < N := by omega
            have hrow := G.row k hkN
            have hsh := addAll_short ps n k j L HEQ.out.2.2.2 (by rw [HNN.out]; exact HEQ.out.2.2.1) (by rw [HNN.out]; exact hkN)
            generalize hrg : addAll (rightsR ps n) n (L.take j) = rg at *
            generalize hrk : rg.getD k [] = rk at *
            generalize hwt : waitsR ps (n + 1) = wt at *
            have hvk : ∃ Ak Ck, vs2.getD k noS = .slice Ak rk.length Ck := hrow.slice
            obtain ⟨Ak, Ck, hvk⟩ := hvk
            have hrl : rk.length ≤ 100000 := by omega
            clear hsh
            have q0 := G.r.cell 1
            have q1 := G.gk.cell k
            have q2 := G.gk.frozen k
            have q3 : vs2.toArray[k]? = some (.slice Ak rk.length Ck) := by
              rw [← hvk]
              have : k < vs2.length := by rw [G.vl]; exact hkN
              simp [this]
            rw [q3] at q1
            have Q3 := Lib.hid q3
            clear q3
            rw [hvk] at hrow
            have hbk := hrow.base
            have hgl := G.lo
            have hrz := KG.size
            have HG2 := Lib.hid (⟨G, KG, NG, hrow, hvk, hsn, hbk⟩ : _ ∧ _ ∧ _ ∧ _ ∧ _ ∧ _ ∧ _)
            clear G KG NG hrow hvk hsn hbk hcl hk r0 r1 n0 f0 HS2 HG
            generalize hrkl : rk.length = rl at *
            have HRL := Lib.hid hrkl
            clear hrkl
            obtain ⟨i0, hi0, hz0, hz1, hz2⟩ := info_parts info_int
            have hgbo : gb ∉ ownB (.slice Ak rl Ck) := fun h => by have := HG2.out.1.out k hkN gb (by rw [HG2.out.2.2.2.2.1]; exact h); exact this.2.2 rfl
            have hrbo : rb ∉ ownB (.slice Ak rl Ck) := fun h => by have := HG2.out.1.out k hkN rb (by rw [HG2.out.2.2.2.2.1]; exact h); exact this.1 rfl
            have a1 : ∀ o : Obj, (wr.alloc o).cell? ⟨gb, k, none⟩ = some (.slice Ak rl Ck) := fun o => Keep.cell ((Keep.refl [] wr).alloc o) q1 (by simp)
            have a2 : ∀ o : Obj, (wr.alloc o).cell? ⟨rb, 1, none⟩ = some (.slice (some ⟨gb, 0, none⟩) N N) := fun o => Keep.cell ((Keep.refl [] wr).alloc o) (by rw [q0]; rfl) (by simp)
            have KA : ∀ o : Obj, Keep [] wr (wr.alloc o) := fun o => (Keep.refl [] wr).alloc o
            have hsz1 : w.heap.size + 1 ≤ wr.heap.size := by have := HG2.out.1.r.lt; omega
            go_upto_block 3 with fail
            go_cut [7] from 39 to 56 (fun _ wx => RkGo (w.heap.size + 1) rb wb gb vs2 N wt (rg.set k (rk ++ [(n : Int)])) wr wx)
            case first =>
              go_upto_region 10 with fail
              go_region_law (refine step_append_data intRow_stab intRow_one rfl _ _ 26 rfl Tryz.underlying26 hi0 hz0 hz1 hz2 rfl (by omega) (S := []) (base := w.heap.size + 1) (v := .slice Ak rl Ck) (A := some ⟨wr.heap.size, 0, none⟩) (m := 1) (C := 1) (xs := rk) (ys := [(n : Int)]) rfl rfl (HG2.out.2.2.2.1.keep (T := []) (w := wr) (by first | exact KA _ | exact (KA _).drew | exact (KA _).drew.drew | exact ((KA _).drew.drew).drew) (by simp)) (one_int (Blk.new wr #[.int .i64 n] 3) (fun hx => by have := (HG2.out.2.2.2.2.2.2 _ (by simpa using hx)).2; omega)) (by have := HRL.out; simp; omega) (by have := HRL.out; simp; omega) (by simp; omega) ?_; intro A9 C9 w9 O9 K9 n9; have g9 : Blk w9 gb vs2.toArray 26 := (K9.block gb (by have := HG2.out.1.gk.lt; simp; omega) hgbo).trans (HG2.out.1.gk.alloc (.cells #[.int .i64 n] 3)); have p9 := g9.cell k; have f9 := g9.frozen k; rw [Q3.out] at p9; have h9 : Blk w9 rb #[.slice (some ⟨wb, 0, none⟩) N N, .slice (some ⟨gb, 0, none⟩) N N] 103 := (K9.block rb (by have := HG2.out.1.r.lt; simp; omega) hrbo).trans (HG2.out.1.r.alloc (.cells #[.int .i64 n] 3)); have s9 := h9.cell 1)
              all_goals
                simp only [List.length_cons, List.length_nil, Nat.zero_add] at O9 n9
                have KV : Keep (ownB (vs2.getD k noS)) wr w9 := by
                  rw [HG2.out.2.2.2.2.1]
                  exact Keep.then (b := _) (by first | exact (KA _).mono (by simp) | exact (KA _).drew.mono (by simp) | exact (KA _).drew.drew.mono (by simp)) K9 (fun b hb => .inl hb)
                have hgo : RkGo (w.heap.size + 1) rb wb gb vs2 N wt (rg.set k (rk ++ [(n : Int)])) wr (w9.setCell ⟨gb, k, none⟩ (.slice A9 (rk.length + 1) C9)) := 
                  HG2.out.1.goR k hkN KV (NumV.of O9) (fun b hb => by
                    rw [HG2.out.2.2.2.2.1]
                    exact (n9 b hb).imp_right (fun h => by rw [h]; simp))
                have HGO := Lib.hid hgo
                clear O9 K9 n9 g9 p9 f9 h9 s9 KV hgo
                go_wp2_with fail
                go_meet
                exact HGO.out
            case rest =>
              have HGO : Hid (RkGo (w.heap.size + 1) rb wb gb vs N wt (addAll (rightsR ps n) n (L.take (j + 1))) w1 wc) := Lib.hid (by
                rw [HG2.out.2.2.2.2.2.1]
                exact RkGo.trans (wt := wt) (rg := rg) HG2.out.2.1 HG2.out.2.2.1 hcut)
              clear hcut
              go_wp2
              go_roundw
              case rel => exact ⟨j + 1, by go_num, by omega, HGO⟩
              case measure => simp [intOf]; omega
          · obtain rfl : j = ll := by omega
            have HRL : Hid (∃ vs, RkV wr (w.heap.size + 1) rb wb gb vs N (waitsR ps (n + 1)) (rightsR ps (n + 1)) ∧ Keep [] (w.alloc (.cells #[.slice A N C, .slice K m D] 25)) wr) := Lib.hid (by
              obtain ⟨vs2, g1, g2, g3⟩ := HG.out
              refine ⟨vs2, ?_, (HRW.out.2.trans HKK.out.1).then g2 (fun b hb => .inr ?_)⟩
              · rw [HEQ.out.2.1]
                have e : L.take j = L := by rw [← HLZ.out, List.take_length]
                rw [e] at g1
                exact g1
              · have := (HRW.out.1.mem b hb).1
                simp; omega)
            clear HG HS2 r0 r1 n0 f0
            go_wp2
            go_roundw
            case rel => exact ⟨n + 1, by go_num, by have := HLT.out; omega, HRL⟩
            case measure => simp [intOf]; have := HLT.out; omega
      · obtain rfl : n = N := by omega
        have HF := Lib.hid (⟨rb, wb, gb, vs, rfl, by rw [HNN.out]; exact HR.low (by omega), HH.out.2.2.trans KR⟩ : RkAt w w.heap.size (.pointer (some ⟨rb, 0, none⟩)) n (waitsR ps ps.length) (rightsR ps ps.length) wo)
        clear HR KR HI hlt
        rw [HNN.out] at HF
        go_wp2
        go_ret
        exact ⟨_, rfl, HF.out⟩
end Go.Proofs.YtbpidoiellcccaaGreatDoor
namespace Go.Proofs.YtbpidoiellcccaaGreatDoor
open Go Go.RowKit Go.MapKept

/-- The first rounds' world. -/
def Ord1 (ps : List ProdS) (W : World) (n : Nat) (wr : World) : Prop := ∃ v a, HeapV wr W.heap.size W.heap.size v a ∧ FillI ps n a ∧ Keep [] W wr
/-- The second rounds' world. -/
def Ord2 (ps : List ProdS) (wb : Nat) (W : World) (o : List Int) (vo : Value) (wr : World) : Prop :=
  ∃ v a S, HeapV wr W.heap.size W.heap.size v a ∧ PileI ps S a ∧ NumV wr W.heap.size vo o ∧ (∀ b ∈ ownB vo, b ∉ W.heap.size :: ownB v) ∧ RnkTo (lfP ps) (allS ps) o S ∧ Blk wr wb (numC (waitsS ps S)) 3 ∧ Keep [wb] W wr
/-- The inner rounds' world. -/
def Ord3 (ps : List ProdS) (wb : Nat) (W : World) (S : Nat → Bool) (n : Nat) (D : List Int) (v0 : Value) (w5 wr : World) : Prop :=
  ∃ v a wt, HeapV wr W.heap.size W.heap.size v a ∧ TellI ps S n D a wt ∧ Blk wr wb (numC wt) 3 ∧ Keep (wb :: W.heap.size :: ownB v0) w5 wr ∧ ∀ b ∈ ownB v, b ∈ ownB v0 ∨ w5.heap.size ≤ b
theorem Ord1.put {ps : List ProdS} {W : World} {n : Nat} {wr w' : World} {v : Value} {a : List Int} (HV : HeapV wr W.heap.size W.heap.size v a) (hF : FillI ps n a) (K : Keep [] W wr) (h0 : waitF ps (allS ps) n = 0) (h : HeapGo W.heap.size W.heap.size v wr w' (fun ys => ys.Perm (a ++ [(n : Int)]))) : Ord1 ps W (n + 1) w' := by
  obtain ⟨v', ys, V', o', K', p'⟩ := h
  refine ⟨v', ys, V', hF.put p' h0, K.then K' (fun b hb => .inr ?_)⟩
  rcases List.mem_cons.1 hb with h | h
  · omega
  · exact (HV.num.base b h).1
set_option maxRecDepth 20000 in
set_option maxHeartbeats 4000000 in
theorem rankOrder_any (ps : List ProdS) (base rb wb gb : Nat) (vs : List Value) (W : World) (HR : RkV W base rb wb gb vs ps.length (waitsR ps ps.length) (rightsR ps ps.length)) (hN : ps.length ≤ 1000) :
    Calls Tryz.prog 23 #[.pointer (some ⟨rb, 0, none⟩)] W fun e w' => (∃ v o, e = .returned v ∧ NumV w' W.heap.size v o ∧ RnkRel (lfP ps) (allS ps) o) ∧ Keep [wb] W w' := by
  have hmf : ∀ (fn : Fn) (first cap : Array Value) (w : World), (Instr.makeFunc fn first cap).run Tryz.prog w = .ok (.func fn first cap) w := fun _ _ _ _ => rfl
  obtain ⟨i0, hi0, hz0, hz1, hz2⟩ := info_parts info_int
  have r0 := HR.r.cell 0
  have r1 := HR.r.cell 1
  have l1 := HR.r.lt; have l2 := HR.wk.lt; have l3 := HR.gk.lt
  have hne := HR.ne
  have HH := Lib.hid HR
  clear HR
  generalize hnn : ps.length = N at *
  have HNN := Lib.hid hnn
  clear hnn
  go_enter Tryz.func23, Tryz.ntmps23
  go_wp2
  go_loopw [17] (fun iv wr => ∃ (n : Nat), iv = .int .i64 n ∧ n ≤ N ∧ Hid (Ord1 ps W n wr)) (fun iv _ => N - (intOf iv).toNat)
  case atStart =>
    refine ⟨0, rfl, by omega, Lib.hid ⟨noS, [], ⟨Blk.new W #[noS] 60, NumV.nil _ _, by simp [ownB, Value.ownBlock], by simp, fun c h0 hc => by simp at hc⟩, FillI.zero ps, (Keep.refl [] W).alloc _⟩⟩
  case round =>
    obtain ⟨n, rfl, hn, HI⟩ := hrel
    obtain ⟨v, a, HV, hF, KR⟩ := HI.out
    by_cases hlt : n < N
    · have c0 := (HH.out.wk.keep KR (by simp)).cell n
      rw [numC_at _ _ (by rw [HH.out.wl]; exact hlt), ← HNN.out, ← waitsS_all, nth_waitsS _ _ _ (by rw [HNN.out]; exact hlt)] at c0
      have HLT := Lib.hid hlt
      have hlt2 : (n : Int) < (N : Int) := by omega
      have hal : a.length < 99999 := by have := hF.2.1; omega
      have HFF := Lib.hid (⟨HV, hF, KR⟩ : _ ∧ _ ∧ _)
      have hsz := KR.size
      by_cases hz : waitF ps (allS ps) n = 0
      · rw [hz] at c0
        have HPU := Lib.hid (pilePut_any W.heap.size W.heap.size v a n wr HV hal hsz)
        have HZ := Lib.hid hz
        clear HV hF KR HI hz
        go_wp2_with fail
        refine HPU.out.mono ?_
        rintro e w2 ⟨rfl, H2⟩
        have HN := Lib.hid (Ord1.put HFF.out.1 HFF.out.2.1 HFF.out.2.2 HZ.out H2)
        clear H2 HPU
        go_wp2
        go_roundw
        case rel => exact ⟨n + 1, by go_num, by have := HLT.out; omega, HN⟩
        case measure => simp [intOf]; have := HLT.out; omega
      · have hz2 : ((waitF ps (allS ps) n : Int) == 0) = false := by simp; exact hz
        have HN : Hid (Ord1 ps W (n + 1) wr) := Lib.hid ⟨v, a, HV, hF.skip hz, KR⟩
        generalize waitF ps (allS ps) n = c at c0 hz2
        clear HV hF KR HI hz
        go_wp2
        go_roundw
        case rel => exact ⟨n + 1, by go_num, by have := HLT.out; omega, HN⟩
        case measure => simp [intOf]; have := HLT.out; omega
    · obtain rfl : n = N := by omega
      have hP : PileI ps (allS ps) a := by rw [← HNN.out] at hF; exact hF.done
      have HST : Hid (Ord2 ps wb W [] noS wr) := Lib.hid ⟨v, a, allS ps, HV, hP, NumV.nil _ _, by simp [ownB, Value.ownBlock], .nil, by rw [waitsS_all, HNN.out]; exact HH.out.wk.keep KR (by simp), KR.mono (by simp)⟩
      clear HV hF KR HI hP hlt
      obtain ⟨N, rfl⟩ : ∃ N, N = n := ⟨_, rfl⟩
      go_wp2
      go_loopw [7] (fun ov wr => ∃ (o : List Int) (m : Nat), Hid (Ord2 ps wb W o ov wr) ∧ Hid (o.length + m = N) ∧ m ≤ N) (fun ov _ => N - (match ov with | .slice _ k _ => k | _ => 0))
      case atStart => exact ⟨[], N, HST, Lib.hid (by simp), Nat.le_refl _⟩
      case round =>
        obtain ⟨o, m, HI, HM, hmn⟩ := hrel
        obtain ⟨wo, rfl⟩ : ∃ wo : World, wo = wr := ⟨_, rfl⟩
        obtain ⟨v, a, S, HV, hP, NO, ob, hT, hW, KR⟩ := HI.out
        obtain ⟨Av, Cv, rfl⟩ := HV.num.slice
        obtain ⟨Ao, Co, rfl⟩ := NO.slice
        have hsub : ∀ k, S k = true → k < ps.length := fun k hk => by have := hT.sub k hk; simpa [allS] using this
        have hal := hP.len hsub
        rw [HNN.out] at hal
        have HLE := Lib.hid (len_any W.heap.size Av a.length Cv wo HV.box)
        by_cases h0 : a.length = 0
        · have ha0 : a = [] := List.eq_nil_of_length_eq_zero h0
          subst ha0
          have HF := Lib.hid (⟨NO, hT.end hP.none, KR⟩ : _ ∧ _ ∧ _)
          clear HV hP NO ob hT hW KR HI hsub hal h0
          generalize o.length = ol at *
          rw [List.length_nil] at HLE
          go_wp2_with fail
          refine HLE.out.mono ?_
          rintro e w4 ⟨rfl, K4⟩
          have HG := Lib.hid (⟨HF.out.1.keep K4 (by simp), HF.out.2.1, HF.out.2.2.trans (K4.mono (by simp))⟩ : _ ∧ _ ∧ _)
          clear K4 HF HLE
          go_wp2
          go_ret
          exact ⟨⟨_, _, rfl, HG.out.1, HG.out.2.1⟩, HG.out.2.2⟩
        · have hap : 0 < a.length := by omega
          have hlen : o.length < N := by
            have h1 := hT.len (N := N) (fun k hk => by simpa [allS, HNN.out] using hk)
            have h2 := cntB_le N (allS ps)
            obtain ⟨q, _, hq⟩ := (hP.2 _).1 (show nth a 0 ∈ a by simp [nth, hap])
            have h3 := cntB_del N (f := S) (by have := hsub q hq.1; rw [HNN.out] at this; exact this) hq.1
            omega
          have h0p : (0 : Int) < (a.length : Int) := by omega
          have HI2 := Lib.hid (⟨HV, hP, NO, ob, hT, hW, KR⟩ : _ ∧ _ ∧ _ ∧ _ ∧ _ ∧ _ ∧ _)
          clear HV hP NO ob hT hW KR HI hsub
          generalize hoz : o.length = ol at *
          have HOZ := Lib.hid hoz
          have HAL := Lib.hid (⟨hap, hal⟩ : _ ∧ _)
          clear hoz hap h0
          go_wp2_with fail
          refine HLE.out.mono ?_
          rintro e w4 ⟨rfl, K4⟩
          have hTK := pileTake_any W.heap.size W.heap.size _ a w4 (HI2.out.1.keep K4 (by simp)) HAL.out.1
          generalize hx : nth a 0 = x at hTK
          have HX := Lib.hid hx
          have HTK := Lib.hid hTK
          have HK4 := Lib.hid K4
          clear hTK K4 HLE hx
          go_wp2_with fail
          refine HTK.out.mono ?_
          rintro e w5 ⟨rfl, v5, b5, V5, o5, K5, p5, m5⟩
          obtain ⟨n, hxn, hrd, hls⟩ := HI2.out.2.1.least HAL.out.1 (by rw [HX.out]; exact m5)
          rw [HX.out] at hxn
          subst hxn
          have H5 := Lib.hid (⟨V5, o5, K5, p5, hrd, hls⟩ : _ ∧ _ ∧ _ ∧ _ ∧ _ ∧ _)
          clear V5 o5 K5 p5 m5 HTK hrd hls
          go_wp2_with (at_builtin; refine Hid.out ?_)
          refine Lib.hid ?_
          have K6 := (Keep.refl [] w5).alloc (.cells #[.int .i64 (n : Int)] 3)
          have hs4 := HK4.out.size
          have hs5 := H5.out.2.2.1.size
          have hbo := HI2.out.2.2.1.base
          have hsw := HI2.out.2.2.2.2.2.2.size
          have hbv := HI2.out.1.num.base
          have N5 : NumV w5 W.heap.size (.slice Ao ol Co) o := (HI2.out.2.2.1.keep HK4.out (by simp)).keep H5.out.2.2.1 (fun b hb hv => HI2.out.2.2.2.1 b hv hb)
          have d5 : ∀ b ∈ ownB (.slice Ao ol Co), b ∉ W.heap.size :: ownB v5 := fun b hv hb => by
            rcases List.mem_cons.1 hb with h | h
            · exact HI2.out.2.2.2.1 b hv (by simp [h])
            · rcases H5.out.2.1 b h with h | h
              · exact HI2.out.2.2.2.1 b hv (by simp [h])
              · have := (hbo b hv).2; omega
          refine wpList_append_data intRow_stab intRow_one rfl _ _ 26 rfl Tryz.underlying26 hi0 hz0 hz1 hz2 rfl (by omega) (S := []) (base := W.heap.size) (v := .slice Ao ol Co) (A := some ⟨w5.heap.size, 0, none⟩) (m := 1) (C := 1) (xs := o) (ys := [(n : Int)]) rfl rfl
            (N5.keep K6 (by simp)) (one_int (Blk.new w5 _ 3) (fun hx => by have := (hbo _ (by simpa using hx)).2; omega)) (by have := HOZ.out; simp; omega) (by have := HOZ.out; simp; omega) (by simp; omega) ?_
          intro A9 C9 w9 O9 K9 n9
          rw [HOZ.out] at O9 n9 ⊢
          have V9 := (H5.out.1.keep K6 (by simp)).keep K9 d5
          have hb5 := V9.num.base
          have d9 : ∀ b ∈ ownB (.slice A9 (ol + [(n : Int)].length) C9), b ∉ W.heap.size :: ownB v5 := fun b hv hb => by
            rcases n9 b hv with h | h
            · exact d5 b h hb
            · have h1 := H5.out.1.num.base
              have h2 := H5.out.1.box.lt
              simp at h
              rcases List.mem_cons.1 hb with h3 | h3
              · omega
              · have := (h1 b h3).2; omega
          have hpv : ∀ b ∈ W.heap.size :: ownB (.slice Av a.length Cv), W.heap.size ≤ b := fun b hb => by
            rcases List.mem_cons.1 hb with h | h
            · omega
            · exact (hbv b h).1
          have hpv5 : ∀ b ∈ W.heap.size :: ownB v5, W.heap.size ≤ b := fun b hb => by
            rcases List.mem_cons.1 hb with h | h
            · omega
            · exact (hb5 b h).1
          have KW9 : Keep [wb] W w9 := (((HI2.out.2.2.2.2.2.2.trans (HK4.out.mono (by simp))).then H5.out.2.2.1 (fun b hb => .inr (hpv b hb))).trans (K6.mono (by simp))).then K9 (fun b hb => .inr (hbo b hb).1)
          have W9 : Blk w9 wb (numC (waitsS ps S)) 3 := (((HI2.out.2.2.2.2.2.1.keep HK4.out (by simp)).keep H5.out.2.2.1 (fun hb => by have := hpv _ hb; omega)).keep K6 (by simp)).keep K9 (fun hb => by have := (hbo _ hb).1; omega)
          have hnN : n < N := by
            have := HI2.out.2.2.2.2.1.sub n H5.out.2.2.2.2.1.1
            simp [allS] at this
            rw [HNN.out] at this
            exact this
          have r9 := (HH.out.r.keep KW9 (by simp; omega)).cell 1
          have r9a := (HH.out.r.keep KW9 (by simp; omega)).cell 0
          have hrow := (HH.out.row n hnN).keep KW9 (fun b hb hv => (HH.out.out n hnN b hv).2.1 (by simpa using hb))
          rw [← HNN.out, rightL_at ps n (by rw [HNN.out]; exact hnN)] at hrow
          have hrlt : ∀ b ∈ ownB (vs.getD n noS), b < W.heap.size ∧ b ≠ wb := fun b hb => ⟨((HH.out.row n hnN).base b hb).2, (HH.out.out n hnN b hb).2.1⟩
          have g9 := (HH.out.gk.keep KW9 (by simp; omega)).cell n
          have hvl : n < vs.length := by rw [HH.out.vl]; exact hnN
          have e9 : vs.toArray[n]? = some (vs.getD n noS) := by simp [hvl]
          rw [e9] at g9
          clear e9
          generalize vs.getD n noS = rv at g9 hrow hrlt
          obtain ⟨Ar, Cr, rfl⟩ := hrow.slice
          have hrll := rightL_len ps n
          rw [HNN.out] at hrll
          have hrc : ∀ j, j < (rightL ps n).length → ∃ g, Ar = some ⟨g, 0, none⟩ ∧ g < W.heap.size ∧ g ≠ wb ∧ w9.cell? ⟨g, j, none⟩ = some (.int .i64 (nth (rightL ps n) j)) := fun j hj => by
            obtain ⟨g, C', e, _, _, _, _, _, hc⟩ := hrow.at (by omega)
            simp only [Value.slice.injEq] at e
            obtain ⟨rfl, _, _⟩ := e
            have := hrlt g (mem_ownB.2 rfl)
            exact ⟨g, rfl, this.1, this.2, hc j hj⟩
          have HST3 : Hid (Ord3 ps wb W S n ((rightL ps n).take 0) v5 w9 w9) := Lib.hid ⟨v5, b5, _, V9, by simpa using TellI.start HI2.out.2.1 H5.out.2.2.2.1, W9, Keep.refl _ _, fun b hb => .inl hb⟩
          have H9 := Lib.hid (⟨NumV.of O9, d9, KW9, hrc, hpv5⟩ : _ ∧ _ ∧ _ ∧ _ ∧ _)
          have hnN2 : (n : Int) < (N : Int) := by omega
          have HRL := Lib.hid hrll
          generalize hrl : (rightL ps n).length = rl at *
          have HRZ := Lib.hid hrl
          clear O9 K9 n9 V9 hb5 d9 hpv KW9 W9 hrow hrlt hvl hrc hpv5 hbo hbv N5 d5 K6 hrl
          go_wp2
          go_loopw [43] (fun jv wr => ∃ (j : Nat), jv = .int .i64 j ∧ j ≤ rl ∧ Hid (Ord3 ps wb W S n ((rightL ps n).take j) v5 w9 wr)) (fun jv _ => rl - (intOf jv).toNat)
          case atStart => exact ⟨0, rfl, by omega, HST3⟩
          case round =>
            obtain ⟨j, rfl, hj, HJ⟩ := hrel
            obtain ⟨v', a', wt, V', hT', W', K', n'⟩ := HJ.out
            by_cases hjl : j < rl
            · obtain ⟨g, rfl, hgW, hgw, hgc⟩ := H9.out.2.2.2.1 j hjl
              have KJ : Keep [wb] W wr := H9.out.2.2.1.then K' (fun b hb => by
                rcases List.mem_cons.1 hb with h | h
                · exact .inl (by simp [h])
                · exact .inr (H9.out.2.2.2.2 b h))
              have ec := K'.cell hgc (fun hb => by
                rcases List.mem_cons.1 hb with h | h
                · exact hgw h
                · have := H9.out.2.2.2.2 g h; omega)
              have hjr : j < (rightL ps n).length := by rw [HRZ.out]; exact hjl
              obtain ⟨k, hk, hkn⟩ := (rightL_mem _).1 (show nth (rightL ps n) j ∈ rightL ps n by simp [nth, hjr])
              have htk : (rightL ps n).take (j + 1) = (rightL ps n).take j ++ [(k : Int)] := by
                rw [List.take_succ_eq_append_getElem hjr, ← hk]
                simp [nth, hjr]
              have hkD : (k : Int) ∉ (rightL ps n).take j := fun hm => by
                have hnd := (rightL_nodup ps n).sublist (List.take_sublist (j + 1) _)
                rw [htk, List.nodup_append] at hnd
                exact hnd.2.2 _ hm _ (by simp) rfl
              rw [hk] at ec
              have hSn := H5.out.2.2.2.2.1.1
              have hval := hT'.val hSn hkn hkD
              have hkN : k < N := by have := (lfP_lt hkn).1; rw [HNN.out] at this; exact this
              have hsub : ∀ k, S k = true → k < ps.length := fun k hk => by have := HI2.out.2.2.2.2.1.sub k hk; simpa [allS] using this
              have hlen' := hT'.len hsub (fun z hz => by
                obtain ⟨q, rfl, hq⟩ := (rightL_mem _).1 (List.mem_of_mem_take hz)
                exact ⟨q, rfl, (lfP_lt hq).1⟩)
              rw [HNN.out] at hlen'
              have hwl : wt.length = N := by rw [hT'.1]; simp [HNN.out]
              have wk := W'.cell k
              rw [numC_at _ _ (by rw [hwl]; exact hkN), hval] at wk
              have wf := W'.frozen k
              have hcb : waitF ps (del S n) k ≤ 1000 := by
                unfold waitF
                have h1 := List.countP_le_length (p := fun z => del S n z.toNat) (l := leftsR ps k)
                have h2 := nodup_short ps.length (leftsR ps k) (leftsR_nodup ps k) leftsR_in
                rw [HNN.out] at h2
                omega
              have q0 := (HH.out.r.keep KJ (by simp; omega)).cell 0
              have hkN2 : (k : Int) < (N : Int) := by omega
              have hwp : ∀ b ∈ W.heap.size :: ownB v', W.heap.size ≤ b := fun b hb => by
                rcases List.mem_cons.1 hb with h | h
                · omega
                · exact (V'.num.base b h).1
              have KS : ∀ u, Keep [wb] wr (wr.setCell ⟨wb, k, none⟩ u) := fun u => (Keep.refl [wb] wr).setCell (p := ⟨wb, k, none⟩) (by simp) u
              have BS : Blk (wr.setCell ⟨wb, k, none⟩ (.int .i64 (waitF ps (del S n) k : Int))) wb (numC (wt.set k (waitF ps (del S n) k : Int))) 3 := by have := W'.set k (.int .i64 (waitF ps (del S n) k : Int)); rw [numC_set] at this; exact this
              have VS := V'.keep (KS (.int .i64 (waitF ps (del S n) k : Int))) (fun b hb => by simp at hb; subst hb; exact fun h => by have := hwp _ h; omega)
              have hszr := KJ.size
              have HJ2 := Lib.hid (⟨hT', K', n', BS, VS, htk, hkD, hkn, hSn, KS, hwp⟩ : _ ∧ _ ∧ _ ∧ _ ∧ _ ∧ _ ∧ _ ∧ _ ∧ _ ∧ _ ∧ _)
              clear hT' K' n' V' W' BS VS htk hkD hval hgc hgw hgW hjr HJ HST3 r9 r9a g9 hsub hwl hwp KJ KS
              by_cases hc0 : waitF ps (del S n) k = 0
              · have hput := pilePut_any W.heap.size W.heap.size v' a' k _ HJ2.out.2.2.2.2.1 (by omega) (by simp; omega)
                rw [hc0] at wk hput
                have HPU := Lib.hid hput
                have HC0 := Lib.hid hc0
                clear hput hc0
                go_wp2_with fail
                refine HPU.out.mono ?_
                rintro e w8 ⟨rfl, v8, ys, V8, o8, K8, p8⟩
                have HN : Hid (Ord3 ps wb W S n ((rightL ps n).take (j + 1)) v5 w9 w8) := Lib.hid (by
                  obtain ⟨hT', K', n', BS, VS, htk, hkD, hkn, hSn, KS, hwp⟩ := HJ2.out
                  have hz := hT'.put hSn hkn hkD HC0.out p8
                  rw [HC0.out] at hz BS
                  refine ⟨v8, ys, _, V8, by rw [htk]; exact hz, BS.keep K8 (fun hb => by have := hwp _ hb; omega), ?_, fun b hb => ?_⟩
                  · refine (K'.then (KS _) (fun b hb => .inl (by simp at hb; simp [hb]))).then K8 (fun b hb => ?_)
                    rcases List.mem_cons.1 hb with h | h
                    · exact .inl (by simp [h])
                    · exact (n' b h).imp_left (fun h => List.mem_cons_of_mem _ (List.mem_cons_of_mem _ h))
                  · rcases o8 b hb with h | h
                    · exact n' b h
                    · have := K'.size
                      simp at h
                      exact .inr (by omega))
                clear V8 o8 K8 p8 HPU
                go_wp2
                go_roundw
                case rel => exact ⟨j + 1, by go_num, by omega, HN⟩
                case measure => simp [intOf]; omega
              · have hcz : ((waitF ps (del S n) k : Int) == 0) = false := by simp; exact hc0
                have HN : Hid (Ord3 ps wb W S n ((rightL ps n).take (j + 1)) v5 w9 (wr.setCell ⟨wb, k, none⟩ (.int .i64 (waitF ps (del S n) k : Int)))) := Lib.hid (by
                  obtain ⟨hT', K', n', BS, VS, htk, hkD, hkn, hSn, KS, hwp⟩ := HJ2.out
                  have hz := hT'.skip hSn hkn hkD hc0
                  refine ⟨v', a', _, VS, by rw [htk]; exact hz, BS, ?_, n'⟩
                  exact K'.then (KS _) (fun b hb => .inl (by simp at hb; simp [hb])))
                generalize waitF ps (del S n) k = c at wk hcz hcb HN
                clear hc0
                go_wp2
                go_roundw
                case rel => exact ⟨j + 1, by go_num, by omega, HN⟩
                case measure => simp [intOf]; omega
            · obtain rfl : j = rl := by omega
              have HN : Hid (Ord2 ps wb W (o ++ [(n : Int)]) (.slice A9 (ol + [(n : Int)].length) C9) wr) := Lib.hid (by
                have e : (rightL ps n).take j = rightL ps n := by rw [← HRZ.out, List.take_length]
                rw [e] at hT'
                obtain ⟨hw, hpp⟩ := hT'.done H5.out.2.2.2.2.1 HI2.out.2.2.2.2.1
                rw [hw] at W'
                refine ⟨v', a', del S n, V', hpp, H9.out.1.keep K' (fun b hb hv => ?_), fun b hv hb => ?_, .snoc HI2.out.2.2.2.2.1 H5.out.2.2.2.2.1 H5.out.2.2.2.2.2, W', H9.out.2.2.1.then K' (fun b hb => ?_)⟩
                · rcases List.mem_cons.1 hb with h | h
                  · have := (H9.out.1.base b hv).1; omega
                  · exact H9.out.2.1 b hv h
                · rcases List.mem_cons.1 hb with h | h
                  · exact H9.out.2.1 b hv (by simp [h])
                  · rcases n' b h with h | h
                    · exact H9.out.2.1 b hv (by simp [h])
                    · have := (H9.out.1.base b hv).2; omega
                · rcases List.mem_cons.1 hb with h | h
                  · exact .inl (by simp [h])
                  · exact .inr (H9.out.2.2.2.2 b h))
              have HMM : Hid ((o ++ [(n : Int)]).length + (m - 1) = N) := Lib.hid (by have h1 := HOZ.out; have h2 := HM.out; simp; omega)
              have HOL : Hid (ol < N) := Lib.hid hlen
              clear hT' K' n' V' W' HJ HST3 r9 r9a g9
              go_wp2
              go_roundw
              case rel => exact ⟨_, m - 1, HN, HMM, by omega⟩
              case measure => have := HOL.out; simp; omega
end Go.Proofs.YtbpidoiellcccaaGreatDoor
namespace Go.Proofs.YtbpidoiellcccaaGreatDoor
open Go Go.RowKit Go.MapKept

/-- What Order answers. -/
def OrdIs (ps : List ProdS) (r : List Int) (b : Bool) : Prop :=
  (gmay ps = false ∧ r = [] ∧ b = false) ∨ (gmay ps = true ∧ ∃ r', RnkRel (lfP ps) (allS ps) r' ∧ ((r'.length < ps.length ∧ r = [] ∧ b = false) ∨ (¬ r'.length < ps.length ∧ r = r' ∧ b = true)))
theorem OrdIs.same {ps : List ProdS} {r t : List Int} {b c : Bool} (h : OrdIs ps r b) (k : OrdIs ps t c) : r = t ∧ b = c := by
  rcases h with ⟨h0, rfl, rfl⟩ | ⟨h0, r', h1, h2⟩ <;> rcases k with ⟨k0, rfl, rfl⟩ | ⟨k0, t', k1, k2⟩
  · exact ⟨rfl, rfl⟩
  · rw [h0] at k0; cases k0
  · rw [h0] at k0; cases k0
  · obtain rfl := h1.same k1
    rcases h2 with ⟨h2, rfl, rfl⟩ | ⟨h2, rfl, rfl⟩ <;> rcases k2 with ⟨k2, rfl, rfl⟩ | ⟨k2, rfl, rfl⟩
    · exact ⟨rfl, rfl⟩
    · exact absurd h2 k2
    · exact absurd k2 h2
    · exact ⟨rfl, rfl⟩
theorem OrdIs.len {ps : List ProdS} {r : List Int} {b : Bool} (h : OrdIs ps r b) : r.length ≤ 60 := by
  rcases h with ⟨_, rfl, _⟩ | ⟨h0, r', h1, h2⟩
  · simp
  · have hl := gmay_len h0
    have := (h1.few (N := ps.length) (fun n k h => lfP_lt h)).1
    rcases h2 with ⟨_, rfl, _⟩ | ⟨_, rfl, _⟩
    · simp
    · omega
set_option maxRecDepth 20000 in
set_option maxHeartbeats 4000000 in
theorem orderR_rank (A K : Option Addr) (C m D : Nat) (ps : List ProdS) (w : World) (HP : Prods [] w (.slice A ps.length C) ps) :
    Calls Tryz.prog 11 #[.agg #[.slice A ps.length C, .slice K m D]] w fun e w' => (∃ v r b, e = .returned (.tuple #[v, .bool b]) ∧ NumV w' w.heap.size v r ∧ OrdIs ps r b) ∧ Keep [] w w' := by
  have K0 := (Keep.refl [] w).alloc (.cells #[.slice A ps.length C, .slice K m D] 25)
  have HP0 : Prods [] _ (.slice A ps.length C) ps := SlOf.move HP prodRow_stab (by omega) K0 (by simp) (fun x hx => .inl hx)
  have B0 := Blk.new w #[.slice A ps.length C, .slice K m D] 25
  have HMY := Lib.hid (may_any [] (.slice A ps.length C) (.slice K m D) ps _ HP0)
  have HH := Lib.hid (⟨HP0, B0, K0⟩ : _ ∧ _ ∧ _)
  have b0 := B0.cell 0
  have b1 := B0.cell 1
  clear HP HP0 B0 K0
  cases hg : gmay ps with
  | false =>
    have HG := Lib.hid hg
    generalize hnn : ps.length = N at *
    go_enter Tryz.func11, Tryz.ntmps11
    go_wp2_with fail
    refine HMY.out.mono ?_
    rintro e w1 ⟨rfl, K1⟩
    rw [hg]
    have HK := Lib.hid (HH.out.2.2.trans K1)
    clear HMY K1 b0 b1
    go_wp2
    go_ret2
    exact ⟨⟨_, _, _, rfl, NumV.nil _ _, .inl ⟨HG.out, rfl, rfl⟩⟩, HK.out⟩
  | true =>
    have hgl := gmay_len hg
    have HG := Lib.hid hg
    generalize hnn : ps.length = N at *
    have HNN := Lib.hid hnn
    clear hnn
    go_enter Tryz.func11, Tryz.ntmps11
    go_wp2_with fail
    refine HMY.out.mono ?_
    rintro e w1 ⟨rfl, K1⟩
    rw [hg]
    have b10 := (HH.out.2.1.keep K1 (by simp)).cell 0
    have b11 := (HH.out.2.1.keep K1 (by simp)).cell 1
    have hOF := of_rank A K C m D ps w1 (by rw [HNN.out]; exact SlOf.move HH.out.1 prodRow_stab (by omega) K1 (by simp) (fun x hx => .inl hx)) (by rw [HNN.out]; omega)
    rw [HNN.out] at hOF
    have HOF := Lib.hid hOF
    have HK1 := Lib.hid K1
    clear hOF K1 HMY b0 b1 hg
    go_wp2_with fail
    refine HOF.out.mono ?_
    rintro e w2 ⟨v, rfl, rb, wb, gb, vs, rfl, HR, K2⟩
    have hRO := rankOrder_any ps w1.heap.size rb wb gb vs w2 (by rw [HNN.out]; exact HR) (by rw [HNN.out]; omega)
    have hlo := HR.lo
    have HRO := Lib.hid hRO
    have HK2 := Lib.hid K2
    clear HR K2 hRO HOF
    go_wp2_with fail
    refine HRO.out.mono ?_
    rintro e w3 ⟨⟨v, o, rfl, NO, hR⟩, K3⟩
    obtain ⟨Ao, Co, rfl⟩ := NO.slice
    have hs1 := HK1.out.size
    simp at hs1
    have hs2 := HK2.out.size
    have K23 : Keep [] w1 w3 := HK2.out.then K3 (fun b hb => by simp at hb; subst hb; exact .inr hlo.2.1)
    have KF := (HH.out.2.2.trans HK1.out).trans K23
    have b3 := ((HH.out.2.1.keep HK1.out (by simp)).keep K23 (by simp)).cell 0
    have hfew := (hR.few (N := ps.length) (fun n k h => lfP_lt h)).1
    rw [HNN.out] at hfew
    have HF := Lib.hid (⟨NO.low (by omega), hR, KF⟩ : NumV w3 w.heap.size (.slice Ao o.length Co) o ∧ _ ∧ _)
    clear NO hR K3 K23 KF HRO b10 b11
    generalize hol : o.length = ol at *
    have HOL := Lib.hid hol
    clear hol
    by_cases hlt : ol < N
    · have hlt2 : (ol : Int) < (N : Int) := by omega
      have HLT := Lib.hid hlt
      clear hlt
      go_wp2
      go_ret2
      exact ⟨⟨_, _, _, rfl, NumV.nil _ _, .inr ⟨HG.out, o, HF.out.2.1, .inl ⟨by rw [HOL.out, HNN.out]; exact HLT.out, rfl, rfl⟩⟩⟩, HF.out.2.2⟩
    · have hlt2 : ¬ (ol : Int) < (N : Int) := by omega
      have HLT := Lib.hid hlt
      clear hlt
      go_wp2
      go_ret2
      exact ⟨⟨_, _, _, rfl, HF.out.1, .inr ⟨HG.out, o, HF.out.2.1, .inr ⟨by rw [HOL.out, HNN.out]; exact HLT.out, rfl, rfl⟩⟩⟩, HF.out.2.2⟩
end Go.Proofs.YtbpidoiellcccaaGreatDoor
