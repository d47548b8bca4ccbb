/- Ranges in order that are picked out of a set's own: the walk of pick, of Norm. -/
import Derived.Test.YtmfjddhckblbhaaGreatDoorM13
set_option linter.unusedVariables false
set_option linter.unusedSimpArgs false
namespace Go.Proofs.YtmfjddhckblbhaaGreatDoor
open Go Go.RowKit Go.MapKept Go.Shelf
attribute [local go_sem] Oper.semAt_some

set_option maxRecDepth 20000 in
set_option maxHeartbeats 4000000 in
theorem pickH_any (S : List Nat) (A : Option Addr) (n C : Nat) (l : List Rng) (w : World) (H : SlOf RngRow S w 2 (.slice A n C) l) (hl : l.length ≤ 100000) (is : Int → Bool)
    (hp : ∀ W', Keep [] w W' → ∀ x, Calls Tryz.prog 59 #[.slice A n C, .int .i64 x] W' fun e w'' => e = .returned (.bool (is x)) ∧ Keep [] W' w'') :
    Calls Tryz.prog 60 #[.func (.func 59) #[.slice A n C] #[], .slice A n C] w fun e w' => ∃ v, e = .returned v ∧ OwnL RngRow [] w' w.heap.size 44 2 v (pickF is (bordF l) ((bordF l).length - 1)) ∧ Keep [] w w' := by
  have HP := Lib.hid hp
  have hmf : ∀ (fn : Fn) (first cap : Array Value) (w : World), (Instr.makeFunc fn first cap).run Tryz.prog w = .ok (.func fn first cap) w := fun _ _ _ _ => rfl
  have KA := ((Keep.refl [] w).alloc (.cells #[.func (.func 59) #[.slice A n C] #[]] 56)).alloc (.cells #[.slice none 0 0] 22)
  have BA := (Blk.new' w #[.func (.func 59) #[.slice A n C] #[]] 56 (b := w.heap.size) rfl).alloc (.cells #[.slice none 0 0] 22)
  have BB := Blk.new' (w.alloc (.cells #[.func (.func 59) #[.slice A n C] #[]] 56)) #[.slice none 0 0] 22 (b := w.heap.size + 1) (by simp)
  have HBD := Lib.hid (borders_any S A n C l _ (SlOf.move H rngRow_stab (by omega) KA (by simp) (fun x hx => .inl hx)) hl)
  have HK := Lib.hid (⟨KA, BA, BB⟩ : _ ∧ _ ∧ _)
  clear H KA BA BB hp
  refine (callsIn_wide (n := 9)).1 ?_
  refine callsIn_of_wp_marks Tryz.func60 rfl trivial ?_ rfl
  simp only [Tryz.ntmps60, List.size_toArray, List.length_cons, List.length_nil, Nat.reduceAdd, Nat.reduceSub, Array.replicate_succ, Array.replicate_zero, List.push_toArray, List.append_toArray, List.nil_append, List.cons_append]
  gi_wp2_with fail
  refine ⟨trivial, (callsIn_wide.2 HBD.out).mono ?_⟩
  rintro e w5 ⟨⟨ob, v, rfl, Bo, hIV, hob⟩, K5⟩
  have B5 := HK.out.2.1.keep K5 (by simp)
  have Q5 := HK.out.2.2.keep K5 (by simp)
  have K05 := HK.out.1.trans K5
  have hz5 := K5.size
  simp only [World.size_alloc] at hob hz5 hIV
  obtain ⟨A', C', hv, hm, hr⟩ := hIV.cells
  subst hv
  have HCL : Hid (∀ k W, PkAt w5 (w.heap.size + 1) is (bordF l) k W → Blk W ob #[.slice A' (bordF l).length C'] 125 ∧ ∃ b o, A' = some ⟨b, o, none⟩ ∧ ∀ j (h : j < (bordF l).length), W.cell? ⟨b, o + j, none⟩ = some (.int .i64 (bordF l)[j])) := Lib.hid (by
    rintro k W ⟨v, B, O, K, _⟩
    refine ⟨Bo.keep K (by simp; omega), ?_⟩
    obtain ⟨A2, C2, hv2, _, hr2⟩ := (hIV.keepB K (by simp)).cells
    simp only [Value.slice.injEq, true_and] at hv2
    obtain ⟨rfl, rfl⟩ := hv2
    exact hr2 (bordF_first l).1)
  have HF := Lib.hid (⟨B5, Q5, K05, Bo, hIV, hob, hz5⟩ : _ ∧ _ ∧ _ ∧ _ ∧ _ ∧ _ ∧ _)
  clear B5 Q5 K05 Bo hIV hob hz5 K5 HBD HK hr
  gi_wp2_with fail
  obtain ⟨hi0, hi1, hiz⟩ : w.heap.size < w5.heap.size ∧ w.heap.size + 1 < w5.heap.size ∧ ob < w5.heap.size := ⟨by have := HF.out.2.2.2.2.2.2; omega, by have := HF.out.2.2.2.2.2.2; omega, HF.out.2.2.2.1.lt⟩
  obtain ⟨i0, hi2, hz0, hz1, hz2⟩ := info_parts info_rng
  have HN5 := Lib.hid (⟨hi0, hi1, hiz⟩ : _ ∧ _ ∧ _)
  refine range_inv ((bordF l).length - 1) (fun k => #[.int .i64 ((bordF l).getD k 0), .int .i64 ((bordF l).getD (k + 1) 0 - 1)]) (PkAt w5 (w.heap.size + 1) is (bordF l))
    (fun k => { tmps := #[.func (.func 59) #[.slice A n C] #[], .slice A n C, .pointer (some ⟨w.heap.size, 0, none⟩), undef, .slice none 0 0, .pointer (some ⟨w.heap.size + 1, 0, none⟩), .int .i64 ((bordF l).getD k 0), .int .i64 ((bordF l).getD (k + 1) 0 - 1), undef, .slice A n C,
      .func (.func 103) #[] #[.pointer (some ⟨ob, 0, none⟩)], .int .i64 ((bordF l).getD k 0), .int .i64 ((bordF l).getD (k + 1) 0 - 1),
      undef, undef, undef, undef, undef, undef, undef, undef, undef, undef, undef, undef, undef, undef, undef, undef, undef, undef, undef, undef, undef, undef, undef, undef, undef, undef, undef, undef, undef, undef, undef], defers := [] })
    (gf := 103) (lb := #[.pointer (some ⟨ob, 0, none⟩)]) (fun k W l o h1 h2 h => h.put hi1 h1 h2) (by omega) rfl (enters_of Tryz.func103 (by kernel_rfl) rfl) (fun _ => rfl) ?h0 ?assign ?body ?seq ?done
  case h0 =>
    intro o
    exact ⟨_, (HF.out.2.1.alloc _).alloc _, OwnL.nil _ _ _ _ _, ((Keep.refl _ _).alloc _).alloc _, by simp⟩
  case assign =>
    intro l x W K _ hK
    gi_wp2
    exact hK
  case seq =>
    intro l0 B W hB hY hN hBW
    have hlen := (bordF_last l).1
    refine (bord1_any 8 l0 ob A' C' (bordF l) (PkAt w5 (w.heap.size + 1) is (bordF l)) hlen hm (fun z hz => pts_in l z ((bordF_mem l z).1 hz)) HCL.out (fun k W h => h.drew) B hB (by omega) hY W hN hBW)
  case done =>
    intro Db W hD hN hK
    obtain ⟨v, Bv, Ov, Kv, zv⟩ := hN
    have q0 := Bv.cell 0
    have HFIN : Hid (OwnL RngRow [] (W.putObj Db (.deferred none)) w.heap.size 44 2 v (pickF is (bordF l) ((bordF l).length - 1)) ∧ Keep [] w (W.putObj Db (.deferred none))) := Lib.hid ⟨((Ov.putD hK).move (S' := []) (T := []) rngRow_stab (Keep.refl [] _) (by simp) (by simp)).lower (by omega), HF.out.2.2.1.then (Kv.put hD) (fun x hx => by simp at hx; subst hx; right; omega)⟩
    clear Ov Kv Bv
    gi_wp2
    refine ⟨by simp, .inl ⟨_, _, rfl, run_takeDeferred hK, ?_⟩⟩
    exact ⟨_, results_tmp rfl _ _ _, v, rfl, HFIN.out⟩
  case body =>
    intro l0 k W hk hN
    obtain ⟨v, Bv, Ov, Kv, zv⟩ := hN
    have hx : 0 ≤ (bordF l).getD k 0 ∧ (bordF l).getD k 0 ≤ 1114112 := by rw [getD_at (by omega)]; exact pts_in l _ ((bordF_mem l _).1 (List.getElem_mem _))
    have hsu : pickF is (bordF l) (k + 1) = pickStep is (pickF is (bordF l) k) ((bordF l).getD k 0) ((bordF l).getD (k + 1) 0 - 1) := rfl
    have hle := pickF_len is (bordF l) k
    have hcall := HP.out W (HF.out.2.2.1.then Kv (fun x hx => by simp at hx; subst hx; right; omega)) ((bordF l).getD k 0)
    dsimp only
    generalize (bordF l).getD k 0 = x at hx hsu hcall ⊢
    generalize (bordF l).getD (k + 1) 0 - 1 = up at hsu ⊢
    have HSU := Lib.hid hsu
    have HC := Lib.hid hcall
    generalize pickF is (bordF l) k = R at Ov hle HSU
    have f0 := (HF.out.1.keep Kv (by simp)).cell 0
    have HOB := Lib.hid (⟨Bv, Ov, Kv, zv⟩ : _ ∧ _ ∧ _ ∧ _)
    have hw1 : IntKind.i64.wrap (x - 1) = x - 1 := IntWalk.i64_in _ (by omega)
    clear hsu hcall Bv Ov Kv zv
    gi_wp2_with fail
    refine ⟨trivial, (CallsIn.inRound l0 (callsIn_wide.2 HC.out)).mono ?_⟩
    rintro e w1 ⟨rfl, K1⟩
    obtain ⟨Bv, Ov, Kv, zv⟩ := HOB.out
    have HB1 := Lib.hid (⟨Bv.keep K1 (by simp), Ov.move rngRow_stab K1 (by simp) (fun x hx => .inl hx), Kv.trans (K1.mono (by simp)), K1, Nat.le_trans zv K1.size⟩ : _ ∧ _ ∧ _ ∧ _ ∧ _)
    clear Bv Ov Kv K1 zv HOB HC f0
    cases hxi : is x with
    | false =>
      have HFN : Hid (PkAt w5 (w.heap.size + 1) is (bordF l) (k + 1) w1) := Lib.hid (by
        obtain ⟨a, b, c, d, e⟩ := HB1.out
        exact ⟨v, a, by rw [HSU.out, pickStep, if_neg (by simp [hxi])]; exact b, c, e⟩)
      clear hxi
      gi_wp2
      exact ⟨HFN.out, [], HB1.out.2.2.2.1, by simp, by simp⟩
    | true =>
      rcases eq_nil_or_snoc R with rfl | ⟨R', r, rfl⟩
      · have HST : Hid (pickF is (bordF l) (k + 1) = [] ++ [⟨x, up⟩]) := Lib.hid (by rw [HSU.out, pickStep, if_pos hxi]; rfl)
        obtain ⟨Bv, Ov, Kv, K1, zv⟩ := HB1.out
        obtain ⟨A2, C2, rfl⟩ := Ov.slice
        have c0 := Bv.cell 0
        clear Bv Ov Kv K1 zv hxi HSU
        gi_wp2_with (gi_at_builtin; refine Hid.out ?_)
        refine Lib.hid ?_
        have KB := (Keep.refl [] w1).alloc (.cells #[.int .i64 x, .int .i64 up] 44)
        obtain ⟨Bv, Ov, Kv, K1, zv⟩ := HB1.out
        refine wpListIn_append_data rngRow_stab rngRow_one rfl _ _ 22 rfl Tryz.underlying22 hi2 hz0 hz1 hz2 rfl (by omega) (S := [w.heap.size + 1]) (base := w5.heap.size + 2) (v := .slice A2 ([] : List Rng).length C2) (A := some ⟨w1.heap.size, 0, none⟩) (m := 1) (C := 1) (xs := ([] : List Rng)) (ys := [⟨x, up⟩]) rfl rfl
          (Ov.move rngRow_stab KB (by simp) (fun x hx => .inl hx)) (one_rng (Blk.new' _ _ 44 rfl) (fun hx => by rcases List.mem_append.1 hx with hx | hx; have := (Ov.base _ hx).2; omega; have := Kv.size; simp at hx; omega)) (by simp) (by simp) (by simp; omega) ?_
        intro A9 C9 w9 O9 K9 n9
        have BV9 := (Bv.keep KB (by simp)).keep K9 (fun hx => by have := (Ov.base _ hx).1; omega)
        have hnb9 : w.heap.size + 1 ∉ ownB (.slice A9 (([] : List Rng).length + [(⟨x, up⟩ : Rng)].length) C9) := fun hx => by
          have := (O9.base _ hx).1
          omega
        have c9 := BV9.cell
        have f9 := BV9.frozen
        have l9 := BV9.lt
        have KS := (Keep.refl [w.heap.size + 1] w9).setCell (p := ⟨w.heap.size + 1, 0, none⟩) (.inl (by simp)) (.slice A9 (([] : List Rng).length + [(⟨x, up⟩ : Rng)].length) C9)
        have HFN : Hid (PkAt w5 (w.heap.size + 1) is (bordF l) (k + 1) (w9.setCell ⟨w.heap.size + 1, 0, none⟩ (.slice A9 (([] : List Rng).length + [(⟨x, up⟩ : Rng)].length) C9)) ∧ ∃ T, Keep T W (w9.setCell ⟨w.heap.size + 1, 0, none⟩ (.slice A9 (([] : List Rng).length + [(⟨x, up⟩ : Rng)].length) C9)) ∧ w5.heap.size ∉ T ∧ w5.heap.size + 1 ∉ T) := Lib.hid ⟨⟨_, by simpa using BV9.set 0 _, by
              rw [HST.out]
              exact O9.move rngRow_stab KS (fun x hx => .inl ⟨hx, by simp at hx; subst hx; exact hnb9⟩) (fun x hx => .inl hx),
            ((Kv.then KB (by simp)).then K9 (fun x hx => .inr (by have := (Ov.base x hx).1; omega))).then KS (fun x hx => .inl hx), by have := K9.size; simp at this; simp; omega⟩,
            (w.heap.size + 1) :: ownB (.slice A2 ([] : List Rng).length C2), (((K1.mono (by simp)).then KB (by simp)).then K9 (fun x hx => .inl (List.mem_cons_of_mem _ hx))).then KS (fun x hx => .inl (by simp at hx; simp [hx])),
            fun hx => by
              rcases List.mem_cons.1 hx with hx | hx
              · have := HN5.out; omega
              · have := (Ov.base _ hx).1; omega, fun hx => by
              rcases List.mem_cons.1 hx with hx | hx
              · have := HN5.out; omega
              · have := (Ov.base _ hx).1; omega⟩
        clear O9 K9 n9 BV9 KS KB hnb9 Bv Ov Kv K1 zv
        simp only [List.length_cons, List.length_nil, Nat.zero_add, Nat.reduceAdd] at HFN ⊢
        gi_wp2
        exact HFN.out

      · obtain ⟨lo, hi⟩ := r
        obtain ⟨Bv, Ov, Kv, K1, zv⟩ := HB1.out
        obtain ⟨A2, C2, rfl⟩ := Ov.slice
        obtain ⟨g, rfl, hg1, hg2⟩ := Ov.form (by simp)
        obtain ⟨b, o, hbo, _, e0, e1⟩ := rngSl_pick (Ov.read rngRow_stab (S' := []) (by simp) (by simp)) R'.length (by simp)
        simp only [Option.some.injEq, Addr.mk.injEq, and_true] at hbo
        obtain ⟨rfl, rfl⟩ := hbo
        rw [show (R' ++ [(⟨lo, hi⟩ : Rng)])[R'.length]'(by simp) = ⟨lo, hi⟩ by simp] at e1
        simp only [Nat.zero_add] at e1
        have ff := Ov.frozen (by simp) (R'.length * 2 + 1)
        have c0 := Bv.cell 0
        have hln : (R' ++ [(⟨lo, hi⟩ : Rng)]).length = R'.length + 1 := by simp
        have hle2 : R'.length ≤ 1000000 := by simp at hle; omega
        have hw2 : IntKind.i64.wrap ((R'.length : Int) + 1 - 1) = R'.length := by rw [show (R'.length : Int) + 1 - 1 = R'.length by omega]; exact IntWalk.i64_in _ (by omega)
        have hw3 : IntKind.i64.wrap (R'.length : Int) = R'.length := IntWalk.i64_in _ (by omega)
        have hw4 : IntKind.i64.wrap (((R'.length + 1 : Nat) : Int) - 1) = R'.length := by rw [show ((R'.length + 1 : Nat) : Int) - 1 = R'.length by omega]; exact IntWalk.i64_in _ (by omega)
        by_cases hh : hi = x - 1
        · subst hh
          have HST : Hid (pickF is (bordF l) (k + 1) = R' ++ [⟨lo, up⟩]) := Lib.hid (by rw [HSU.out, pickStep, if_pos hxi]; simp)
          have KS := (Keep.refl [g] w1).setCell (p := ⟨g, R'.length * 2 + 1, none⟩) (.inl (by simp)) (.int .i64 up)
          have HFN : Hid (PkAt w5 (w.heap.size + 1) is (bordF l) (k + 1) (w1.setCell ⟨g, R'.length * 2 + 1, none⟩ (.int .i64 up)) ∧ ∃ T, Keep T W (w1.setCell ⟨g, R'.length * 2 + 1, none⟩ (.int .i64 up)) ∧ w5.heap.size ∉ T ∧ w5.heap.size + 1 ∉ T) := Lib.hid ⟨⟨_, Bv.keep KS (by simp; omega), by
              rw [HST.out]
              have hst := OwnL.store rngRow_stab Ov R'.length 1 (.int .i64 up) ⟨lo, up⟩ (by simp) (by omega) (fun row hr h => by
                rw [show (R' ++ [(⟨lo, x - 1⟩ : Rng)])[R'.length]'(by simp) = ⟨lo, x - 1⟩ by simp] at h
                have h' : row = #[.int .i64 lo, .int .i64 (x - 1)] := h
                rw [h']; rfl)
              rw [show (R' ++ [(⟨lo, x - 1⟩ : Rng)]).set R'.length ⟨lo, up⟩ = R' ++ [⟨lo, up⟩] by simp] at hst
              exact hst, Kv.then KS (fun x hx => by simp at hx; subst hx; right; omega), by simpa using zv⟩, [g], (K1.mono (by simp)).then KS (fun x hx => .inl hx), by simp; omega, by simp; omega⟩
          clear Bv Ov Kv K1 zv hxi HSU KS
          rw [hln] at c0
          gi_wp2
          exact HFN.out
        · have HST : Hid (pickF is (bordF l) (k + 1) = (R' ++ [⟨lo, hi⟩]) ++ [⟨x, up⟩]) := Lib.hid (by rw [HSU.out, pickStep, if_pos hxi]; simp [hh])
          clear Bv Ov Kv K1 zv hxi HSU
          rw [hln] at c0
          gi_wp2_with (gi_at_builtin; refine Hid.out ?_)
          refine Lib.hid ?_
          have KB := (Keep.refl [] w1).alloc (.cells #[.int .i64 x, .int .i64 up] 44)
          obtain ⟨Bv, Ov, Kv, K1, zv⟩ := HB1.out
          refine wpListIn_append_data rngRow_stab rngRow_one rfl _ _ 22 rfl Tryz.underlying22 hi2 hz0 hz1 hz2 rfl (by omega) (S := [w.heap.size + 1]) (base := w5.heap.size + 2) (v := .slice (some ⟨g, 0, none⟩) (R' ++ [(⟨lo, hi⟩ : Rng)]).length C2) (A := some ⟨w1.heap.size, 0, none⟩) (m := 1) (C := 1) (xs := (R' ++ [(⟨lo, hi⟩ : Rng)])) (ys := [⟨x, up⟩]) (congrArg (fun n => Value.slice (some ⟨g, 0, none⟩) n C2) hln.symm) rfl
            (Ov.move rngRow_stab KB (by simp) (fun x hx => .inl hx)) (one_rng (Blk.new' _ _ 44 rfl) (fun hx => by rcases List.mem_append.1 hx with hx | hx; have := (Ov.base _ hx).2; omega; have := Kv.size; simp at hx; omega)) (by simp; simp at hle; omega) (by simp; simp at hle; omega) (by simp; omega) ?_
          intro A9 C9 w9 O9 K9 n9
          have BV9 := (Bv.keep KB (by simp)).keep K9 (fun hx => by have := (Ov.base _ hx).1; omega)
          have hnb9 : w.heap.size + 1 ∉ ownB (.slice A9 ((R' ++ [(⟨lo, hi⟩ : Rng)]).length + [(⟨x, up⟩ : Rng)].length) C9) := fun hx => by
            have := (O9.base _ hx).1
            omega
          have c9 := BV9.cell
          have f9 := BV9.frozen
          have l9 := BV9.lt
          have KS := (Keep.refl [w.heap.size + 1] w9).setCell (p := ⟨w.heap.size + 1, 0, none⟩) (.inl (by simp)) (.slice A9 ((R' ++ [(⟨lo, hi⟩ : Rng)]).length + [(⟨x, up⟩ : Rng)].length) C9)
          have HFN : Hid (PkAt w5 (w.heap.size + 1) is (bordF l) (k + 1) (w9.setCell ⟨w.heap.size + 1, 0, none⟩ (.slice A9 ((R' ++ [(⟨lo, hi⟩ : Rng)]).length + [(⟨x, up⟩ : Rng)].length) C9)) ∧ ∃ T, Keep T W (w9.setCell ⟨w.heap.size + 1, 0, none⟩ (.slice A9 ((R' ++ [(⟨lo, hi⟩ : Rng)]).length + [(⟨x, up⟩ : Rng)].length) C9)) ∧ w5.heap.size ∉ T ∧ w5.heap.size + 1 ∉ T) := Lib.hid ⟨⟨_, by simpa using BV9.set 0 _, by
                rw [HST.out]
                have h9 := O9.move (S' := [w.heap.size + 1]) rngRow_stab KS (fun x hx => .inl ⟨hx, by simp at hx; subst hx; exact hnb9⟩) (fun x hx => .inl hx)
                simp only [hln, List.length_cons, List.length_nil, Nat.zero_add, Nat.reduceAdd] at h9 ⊢
                exact h9,
              ((Kv.then KB (by simp)).then K9 (fun x hx => .inr (by have := (Ov.base x hx).1; omega))).then KS (fun x hx => .inl hx), by have := K9.size; simp at this; simp; omega⟩,
              (w.heap.size + 1) :: ownB (.slice (some ⟨g, 0, none⟩) (R' ++ [(⟨lo, hi⟩ : Rng)]).length C2), (((K1.mono (by simp)).then KB (by simp)).then K9 (fun x hx => .inl (List.mem_cons_of_mem _ hx))).then KS (fun x hx => .inl (by simp at hx; simp [hx])),
              fun hx => by
                rcases List.mem_cons.1 hx with hx | hx
                · have := HN5.out; omega
                · have := (Ov.base _ hx).1; omega, fun hx => by
                rcases List.mem_cons.1 hx with hx | hx
                · have := HN5.out; omega
                · have := (Ov.base _ hx).1; omega⟩
          clear O9 K9 n9 BV9 KS KB hnb9 Bv Ov Kv K1 zv
          simp only [hln, List.length_cons, List.length_nil, Nat.zero_add, Nat.reduceAdd] at HFN ⊢
          gi_wp2
          exact HFN.out
/-- Ranges, so that they are in order. -/
def normR (l : List Rng) : List Rng := pickF (fun n => hasR l n) (bordF l) ((bordF l).length - 1)
theorem norm_any (S : List Nat) (A : Option Addr) (n C : Nat) (l : List Rng) (w : World) (H : SlOf RngRow S w 2 (.slice A n C) l) (hl : l.length ≤ 100000) :
    Calls Tryz.prog 89 #[.slice A n C] w fun e w' => ∃ v, e = .returned v ∧ OwnL RngRow [] w' w.heap.size 44 2 v (normR l) ∧ Keep [] w w' := by
  have hmf : ∀ (fn : Fn) (first cap : Array Value) (w : World), (Instr.makeFunc fn first cap).run Tryz.prog w = .ok (.func fn first cap) w := fun _ _ _ _ => rfl
  have HP := Lib.hid (pickH_any S A n C l w H hl (fun z => hasR l z) (fun W' K' x => (has_any S A n C l x W' (SlOf.move H rngRow_stab (by omega) K' (by simp) (fun x hx => .inl hx)))))
  clear H
  unfold normR
  generalize pickF (fun n => hasR l n) (bordF l) ((bordF l).length - 1) = R at HP ⊢
  go_enter Tryz.func89, Tryz.ntmps89
  go_wp2_with fail
  refine HP.out.mono ?_
  rintro e w6 ⟨v6, rfl, O6, K6⟩
  obtain ⟨A6, C6, rfl⟩ := O6.slice
  go_wp2
  go_ret
  exact ⟨_, rfl, O6, K6⟩
end Go.Proofs.YtmfjddhckblbhaaGreatDoor
