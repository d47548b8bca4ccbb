/- A file's rules as nonterminals: the walk. -/
import Derived.Test.YtbpidoiellcccaaGreatDoorK13
import Derived.Test.YtbpidoiellcccaaGreatDoorK11
import Derived.Test.YtbpidoiellcccaaGreatDoorK1
import Derived.Test.YtbpidoiellcccaaGreatDoorK7
import Derived.Laws.MakeOwn
import Derived.BigQuiet
import Derived.IntWalk
set_option linter.unusedVariables false
set_option linter.unusedSimpArgs false
namespace Go.Proofs.YtbpidoiellcccaaGreatDoor
open Go Go.RowKit Go.MapKept

set_option maxRecDepth 20000 in
set_option maxHeartbeats 4000000 in
theorem of_any (S0 : List Nat) (d : Nat) (f : FileS) (row : Array Value) (w : World) (hS0 : ∀ b ∈ S0, b < w.heap.size) (hm : f.rules.length ≤ 60) (hm0 : 0 < f.rules.length) (hkl : f.keys.length ≤ 1000000) (H : FileAt S0 w f row) (hnd : (f.rules.map RuleS.name).Nodup) (hnt : ∀ r ∈ f.rules, r.nt.length ≤ 1000000)
    (hok : ∀ r ∈ f.rules, (altP r.e).length ≤ 1000000 ∧ ∀ x ∈ altP r.e, okF d x = true ∧ wtF d x ≤ 1000000) (hbad : (rulesF (pieceF (f.rules.map RuleS.name) d) f.rules f.rules.length ⟨f.rules.map prod0, none⟩).bad = none) :
    Calls Tryz.prog 21 #[.agg row] w (OfPost S0 w ⟨(rulesF (pieceF (f.rules.map RuleS.name) d) f.rules f.rules.length ⟨f.rules.map prod0, none⟩).p, f.keys⟩) := by
  obtain ⟨A, C, B, D, rfl, hk, hr⟩ := H
  have hmm := @run_makeMap Tryz.prog
  have K0 : Keep [] w (ofW0 f A B C D w) := ((((Keep.refl [] w).alloc _).alloc _).alloc _).alloc _
  have BF : Blk (ofW0 f A B C D w) w.heap.size #[.slice A f.keys.length C, .slice B f.rules.length D] 49 := (((Blk.new w _ _).alloc _).alloc _).alloc _
  have BG : Blk (ofW0 f A B C D w) (w.heap.size + 1) gramZ 25 := ((Blk.new' (w.alloc (.cells #[.slice A f.keys.length C, .slice B f.rules.length D] 49)) gramZ 25 (b := w.heap.size + 1) (by simp)).alloc _).alloc _
  have BM : MapB (ofW0 f A B C D w) (w.heap.size + 1 + 1) (nameE []) 0 := by
    have h := (MapB.new (ofW1 f A B C D w) #[] 0).alloc (.cells #[.map (some (w.heap.size + 1 + 1)), .slice none 0 0, .pointer none] 93)
    rw [ofW1_size] at h
    exact h
  have BK : Blk (ofW0 f A B C D w) (w.heap.size + 1 + 1 + 1) #[.map (some (w.heap.size + 1 + 1)), .slice none 0 0, .pointer none] 93 := Blk.new' ((ofW1 f A B C D w).alloc (.map #[] 0)) _ _ (by simp [ofW1_size])
  have hT0 : OfAt S0 f A B C D w 0 (ofW0 f A B C D w) := ⟨.slice none 0 0, K0, ⟨⟨_, BK, rfl⟩, OwnL.nil _ _ _ _ _, OwnL.nil _ _ _ _ _, BM, by simp, by simp, fun x hx => by rcases List.mem_cons.1 hx with h | hx; (simp [ofW0, ofW1_size]; omega); rcases List.mem_cons.1 hx with h | hx; (simp [ofW0, ofW1_size]; omega); rcases List.mem_cons.1 hx with h | hx; (simp [ofW0, ofW1_size]; omega); rcases List.mem_cons.1 hx with h | hx; (simp [ofW0, ofW1_size]; omega); (have := hS0 x hx; simp [ofW0, ofW1_size]; omega), by simp [ofW0, ofW1_size]⟩,
    SlOf.move hk strRow_stab (by omega) K0 (by simp) (fun x hx => by simp [ownB, Value.ownBlock] at hx; rcases hx with h | h | h | h | h; (right; omega); (right; omega); (right; omega); (right; omega); exact .inl h), SlOf.move hr ruleAt_stab (by omega) K0 (by simp) (fun x hx => by simp [ownB, Value.ownBlock] at hx; rcases hx with h | h | h | h | h; (right; omega); (right; omega); (right; omega); (right; omega); exact .inl h), BF, BG⟩
  have HT0 := Lib.hid hT0; clear hT0 BM BK BF BG K0 hk hr
  have HND := Lib.hid hnd; clear hnd
  have HNT := Lib.hid hnt; clear hnt
  have HOK := Lib.hid hok; clear hok
  have HBAD := Lib.hid hbad; clear hbad
  go_enter Tryz.func21, Tryz.ntmps21
  go_wp2
  go_loopw [18] (fun i wr => ∃ k : Nat, k ≤ f.rules.length ∧ i = .int .i64 k ∧ OfAt S0 f A B C D w k wr) (fun i _ => f.rules.length - (intOf i).toNat)
  case atStart => exact ⟨0, by omega, rfl, HT0.out⟩
  case round =>
    obtain ⟨k, hk, rfl, pvk, K1, H1, hk1, hr1, BF, BG⟩ := hrel
    clear HT0
    by_cases hlt : k < f.rules.length
    · have hlt' : (k : Int) < (f.rules.length : Int) := by omega
      have HLT := Lib.hid hlt
      have hr1' := hr1
      obtain ⟨_, _, hveq, _, hc2⟩ := SlOf.at hr1'
      simp only [Value.slice.injEq, true_and] at hveq
      obtain ⟨rfl, rfl⟩ := hveq
      obtain ⟨b, o, rfl, hb, hc⟩ := hc2 (by omega)
      obtain ⟨prow, hz, hcell, hR⟩ := hc k hlt
      have hR' := hR
      obtain ⟨k', t', A', n', C', B', m', D', a', N', x', F', rfl, hpart, hrng⟩ := hR'
      have hrng' := hrng
      obtain ⟨_, _, hv, _⟩ := hrng'
      simp only [Value.slice.injEq, List.length_map] at hv
      obtain ⟨rfl, rfl, rfl⟩ := hv
      have e0 := hcell 0 (by omega)
      have e1 := hcell 1 (by omega)
      have e2 := hcell 2 (by omega)
      have e3 := hcell 3 (by omega)
      have e4 := hcell 4 (by omega)
      have e5 := hcell 5 (by omega)
      have e6 := hcell 6 (by omega)
      have e7 := hcell 7 (by omega)
      have e8 := hcell 8 (by omega)
      clear hcell hc2 hc hr1' hz
      simp at e0 e1 e2 e3 e4 e5 e6 e7 e8
      have hna : nameAt ((f.rules.take k).map RuleS.name) f.rules[k].name = none := by
        have := nameAt_none (f.rules.map RuleS.name) k (by simpa using hlt) HND.out
        rw [List.getElem_map] at this
        rw [List.map_take]; exact this
      have hnt1 := HNT.out f.rules[k] (List.getElem_mem _)
      have htk : f.rules.take (k + 1) = f.rules.take k ++ [f.rules[k]] := List.take_succ_eq_append_getElem hlt
      have hnl : ((f.rules.take k).map RuleS.name).length = k := by simp; omega
      generalize f.rules[k] = rk at e0 e1 e2 e3 e4 e5 e6 e7 e8 hna hnt1 htk hpart hrng hR
      generalize hnm : (f.rules.take k).map RuleS.name = names at H1 hna hnl
      have HNM := Lib.hid hnm; clear hnm
      have HTK := Lib.hid htk; clear htk
      have H1base := Lib.hid H1.base
      have KA := (Keep.refl [] wr).alloc (.cells #[.string rk.name, .int .i64 rk.marks, .int .i64 k', .string t', .slice A' n' C', .slice B' m' D', .int .i64 a', .slice N' rk.nt.length F', .int .i64 rk.a] 87)
      have H2 := H1.keep KA
      have BR := Blk.new wr #[.string rk.name, .int .i64 rk.marks, .int .i64 k', .string t', .slice A' n' C', .slice B' m' D', .int .i64 a', .slice N' rk.nt.length F', .int .i64 rk.a] 87
      have H2b := H2.box
      obtain ⟨bv, hB, hbv⟩ := H2b
      have hbv : bv = .pointer none := hbv
      subst hbv
      have c0 := hB.cell 0
      have hlk : ∀ n, (Instr.lookup 90 (.map (some (w.heap.size + 1 + 1))) (.string rk.name) true).run Tryz.prog (World.drewN (wr.alloc (.cells #[.string rk.name, .int .i64 rk.marks, .int .i64 k', .string t', .slice A' n' C', .slice B' m' D', .int .i64 a', .slice N' rk.nt.length F', .int .i64 rk.a] 87)) n) = .ok (.tuple #[.int .i64 0, .bool false]) (World.drewN (wr.alloc (.cells #[.string rk.name, .int .i64 rk.marks, .int .i64 k', .string t', .slice A' n' C', .slice B' m' D', .int .i64 a', .slice N' rk.nt.length F', .int .i64 rk.a] 87)) n) := fun n => by
        have := name_look (World.drewN _ n) (w.heap.size + 1 + 1) names _ rk.name (H2.map.drewN n)
        rw [hna] at this
        exact this
      go_wp2
      go_quiet (fail)
      have H3 := H2.keep ((Keep.refl [] _).drewN nq)
      have BR3 := BR.drewN nq
      have KW := KA.drewN nq
      have hR3 := ruleAt_stab _ _ _ _ _ _ _ hR KW (by simp) (fun x hx => .inl hx)
      have hrng3 : Rngs _ _ (.slice N' rk.nt.length F') rk.nt := Sl.move hrng (by omega) KW (by simp) (fun x hx => .inl hx)
      clear H2 hB BR KA H1 hR hrng hpart c0 hlk e0 e1 e2 e3 e4 e5 e6 e7 e8
      go_wp2
      generalize World.drewN _ nq = W3 at H3 BR3 KW hR3 hrng3 ⊢
      have H3b := H3.box
      obtain ⟨bv, hB, hbv⟩ := H3b
      have hbv : bv = .pointer none := hbv
      subst hbv
      have c0 := hB.cell 0
      have r0 := BR3.cell 0
      go_still_tail 7, (by kernel_rfl)
      obtain ⟨W4, hmu, hM4, K4⟩ := nupd W3.drew (w.heap.size + 1 + 1) names rk.name H3.map hna
      rw [hnl] at hmu
      have H4 := (H3.keep ((Keep.refl [] _).drew)).named hM4 K4 (by simp) (by omega)
      have hlr := BR3.lt
      have hwr := K1.size
      have hsz3 := KW.size
      have BR4 := BR3.drew.keep K4 (by have := H3.base; have := H3.map.lt; have h2 := H3.map; simp; intro e; rw [e] at BR3; unfold Blk at BR3; unfold MapB at h2; rw [h2] at BR3; cases BR3)
      have hrng4 : Rngs _ _ (.slice N' rk.nt.length F') rk.nt := Sl.move hrng3 (by omega) ((((Keep.refl [] W3).drew).mono (S' := [w.heap.size + 1 + 1]) (by simp)).trans K4) (fun x hx => .inl (by simp at hx; simp [hx])) (fun x hx => .inl hx)
      have HK1 := Lib.hid hk1
      have HR1 := Lib.hid hr1
      have KW4 := ((KW.drew).mono (S' := [w.heap.size + 1 + 1]) (by simp)).trans K4
      clear c0 r0 hB
      go_wp2_with fail
      clear hmu
      have hN4 : (names ++ [rk.name]).length ≤ 61 := by simp; omega
      have hcall := rngClone_any _ (.slice N' rk.nt.length F') rk.nt W4.drew (Sl.move hrng4 (by omega) ((Keep.refl [] W4).drew) (by simp) (fun x hx => .inl hx)) hnt1
      have HC := Lib.hid hcall; clear hcall
      have B4 := BR4.drew
      have r1 := B4.cell 1
      have r3 := B4.cell 3
      have r7 := B4.cell 7
      have H4b := H4.box
      obtain ⟨bv4, hB4, hbv4⟩ := H4b
      have hbv4 : bv4 = .pointer none := hbv4
      subst hbv4
      have m1 := hB4.drew.cell 1
      have hlk1 : ((f.rules.take k).map prod0).length = k := by simp; omega
      generalize hps : (f.rules.take k).map prod0 = ps at H4 hlk1
      have HPS := Lib.hid hps; clear hps
      have hlk2 : ps.length ≤ 60 := by omega
      have HLK1 := Lib.hid hlk1; clear hlk1
      have HNL := Lib.hid hnl; clear hnl
      obtain ⟨A8, C8, hv8⟩ := H4.prods.slice
      subst hv8
      have hbs := H4.base
      obtain ⟨i0, hi0, hz0, hz1, hz2⟩ := info_parts info_prod
      go_wp2
      go_region_law (first
        | (go_simp; go_at_call 46; refine HC.out.mono ?_; rintro e W5 ⟨⟨A9, C9, rfl, hA9⟩, K5⟩; have H5 := (H4.keep ((Keep.refl [] _).drew)).keep K5; have BM5 := (hB4.drew).keep K5 (by simp); have m5 := BM5.cell; have l5 := BM5.lt; have f5 := BM5.frozen; have B5 := B4.keep K5 (by simp); have r5 := B5.cell; obtain ⟨rows, hlr5, hown, hel⟩ := H5.prods; have hsz5 := K5.size; dsimp only)
        | (refine step_append_lies _ (by rfl) _ _ _ (by rfl) (w.heap.size + 1 + 1 + 1 + 1) 41 i0 (.agg #[.slice none 0 0, .int .i64 0, .slice none 0 0]) 3 56 Tryz.underlying22 hi0 hz0 hz1 hz2 rfl (by omega) (.slice A8 ps.length C8) ps.length _ (by rfl) (hown.alloc _) ⟨W5.heap.size, 0, none⟩ 1 1 [.slice none 0 0, .int .i64 rk.marks, .slice A9 rk.nt.length C9] (by rfl) rfl (World.news_of_block (Blk.new' _ #[.slice none 0 0, .int .i64 rk.marks, .slice A9 rk.nt.length C9] _ rfl)) (by simp [Value.oneCell']) (by decide) (by unfold maxLen; omega) (by omega) (by simp; simp at hsz5; omega) _ rfl ?_; intro g cap w7 O7 G7 W7 L7; have BM7 := Blk.grown (BM5.alloc _) G7 (fun e => by have := (H4.prods.base _ (mem_own e)).1; omega); have cM7 := BM7.cell; have fM7 := BM7.frozen))
      all_goals
        have K67 := (Keep.refl [] W5).alloc (.cells #[.slice none 0 0, .int .i64 rk.marks, .slice A9 rk.nt.length C9] 41)
        have hx5 : ProdRow (ownB (.slice A8 ps.length C8) ++ (ownB (.slice none 0 0) ++ ((w.heap.size + 1 + 1 + 1) :: (w.heap.size + 1 + 1) :: (w.heap.size + 1) :: w.heap.size :: S0))) W5 (prod0 rk) #[.slice none 0 0, .int .i64 rk.marks, .slice A9 rk.nt.length C9] :=
          ⟨none, 0, A9, C9, rfl, SlOf.nil _ _ _, hA9 _ (fun b hb => H4.all b (by simp [ownB, Value.ownBlock] at hb ⊢; exact hb))⟩
        obtain ⟨H8, K8, hp8⟩ := (H5.keep K67).pushProd rows hlr5 (fun i hi hi' => ⟨(hel i hi hi').1, prodRow_stab _ _ _ _ _ _ _ (hel i hi hi').2 K67 (by simp) (fun x hx => .inl hx)⟩) (prodRow_stab _ _ _ _ _ _ _ hx5 K67 (by simp) (fun x hx => .inl hx)) rfl O7 G7 W7
        have hTK := HTK.out
        have KT : Keep ((w.heap.size + 1 + 1 + 1) :: (w.heap.size + 1 + 1) :: ownB (.slice A8 ps.length C8)) wr (w7.setCell ⟨w.heap.size + 1 + 1 + 1, 1, none⟩ (.slice (some ⟨g, 0, none⟩) (ps.length + 1) cap)) :=
          ((((KW4.drew).mono (by simp)).trans (K5.mono (by simp))).trans (K67.mono (by simp))).trans (K8.mono (fun x hx => .inl (by simp at hx ⊢; rcases hx with h | h <;> simp [h])))
        have hfin := of_push S0 f A (some ⟨b, o, none⟩) C D w wr W4 _ k (.slice A8 ps.length C8) (.slice (some ⟨g, 0, none⟩) (ps.length + 1) cap) _ (fun x hx => by simp at hx; rcases hx with h | h | h <;> simp [h]) K1 KT (fun b hb => (H4.prods.base b hb).1) (by have h1 := H1base.out; exact h1) HK1.out HR1.out BF BG (fun b hb => by
            rcases hp8 b hb with h | h
            · exact .inl h
            · exact .inr (by have h1 := KW4.size; have h2 := K5.size; simp at h h2; omega)) (by
            rw [hTK, List.map_append, List.map_append, HNM.out, HPS.out]
            exact H8)
        have HFIN := Lib.hid hfin
        clear hfin KT H8 K8 hx5 K67 hTK hp8 O7 G7 W7 L7 hel hown
        go_wp2
        go_roundw
        case rel => exact ⟨k + 1, by have := HLT.out; omega, by go_num, HFIN.out⟩
        case measure => simp [intOf]; have := HLT.out; omega
    · obtain rfl : k = f.rules.length := by omega
      rw [List.take_length] at H1
      have hT2 : OfAt2 S0 d f A B C D w 0 wr := ⟨pvk, K1, H1, hk1, hr1, BF, BG⟩
      have HT2 := Lib.hid hT2; clear hT2
      have b1 := BF.cell 1
      clear H1 hk1 hr1
      have hm0' : ((f.rules.length : Int) == 0) = false := beq_eq_false_iff_ne.2 (by omega)
      have hm60' : decide ((60 : Int) < (f.rules.length : Int)) = false := by simp; omega
      go_wp2
      go_loopw [74] (fun i wr => ∃ k : Nat, k ≤ f.rules.length ∧ i = .int .i64 k ∧ OfAt2 S0 d f A B C D w k wr) (fun i _ => f.rules.length - (intOf i).toNat)
      case atStart => exact ⟨0, by omega, rfl, HT2.out⟩
      case round =>
        clear HT2 BF BG b1 K1
        obtain ⟨k, hk, rfl, pvk, K1, H1, hk1, hr1, BF, BG⟩ := hrel
        by_cases hlt : k < f.rules.length
        · have hlt' : (k : Int) < (f.rules.length : Int) := by omega
          have HLT := Lib.hid hlt
          have HQS : Hid (rulesF (pieceF (f.rules.map RuleS.name) d) f.rules (k + 1) ⟨f.rules.map prod0, none⟩ = if (rulesF (pieceF (f.rules.map RuleS.name) d) f.rules k ⟨f.rules.map prod0, none⟩).bad = none then ruleF (pieceF (f.rules.map RuleS.name) d) (rulesF (pieceF (f.rules.map RuleS.name) d) f.rules k ⟨f.rules.map prod0, none⟩) k f.rules[k].e else rulesF (pieceF (f.rules.map RuleS.name) d) f.rules k ⟨f.rules.map prod0, none⟩) := Lib.hid (by
            simp only [rulesF]; rw [List.getElem?_eq_getElem hlt]; rfl)
          have hpn := rulesF_p (f.rules.map RuleS.name) d f.rules ⟨f.rules.map prod0, none⟩ k
          rw [List.length_map] at hpn
          have hp60 := rulesF_60 (f.rules.map RuleS.name) d f.rules ⟨f.rules.map prod0, none⟩ (by simpa using hm) k
          have hok1 := HOK.out f.rules[k] (List.getElem_mem _)
          have hr1' := hr1
          obtain ⟨_, _, hveq, _, hc2⟩ := SlOf.at hr1'
          simp only [Value.slice.injEq, true_and] at hveq
          obtain ⟨rfl, rfl⟩ := hveq
          obtain ⟨b, o, rfl, hb, hc⟩ := hc2 (by omega)
          obtain ⟨prow, hz, hcell, hR⟩ := hc k hlt
          have hR' := hR
          obtain ⟨k', t', A', n', C', B', m', D', a', N', x', F', rfl, hpart, hrng⟩ := hR'
          have e0 := hcell 0 (by omega)
          have e1 := hcell 1 (by omega)
          have e2 := hcell 2 (by omega)
          have e3 := hcell 3 (by omega)
          have e4 := hcell 4 (by omega)
          have e5 := hcell 5 (by omega)
          have e6 := hcell 6 (by omega)
          have e7 := hcell 7 (by omega)
          have e8 := hcell 8 (by omega)
          clear hcell hc2 hc hr1' hz hR hrng
          simp at e0 e1 e2 e3 e4 e5 e6 e7 e8
          generalize f.rules[k] = rk at e0 e1 e2 e3 e4 e5 e6 e7 e8 hpart hok1 HQS
          generalize hq : rulesF (pieceF (f.rules.map RuleS.name) d) f.rules k ⟨f.rules.map prod0, none⟩ = q at H1 HQS hpn hp60
          clear hq
          have KA := (Keep.refl [] wr).alloc (.cells #[.string rk.name, .int .i64 rk.marks, .int .i64 k', .string t', .slice A' n' C', .slice B' m' D', .int .i64 a', .slice N' x' F', .int .i64 rk.a] 87)
          have H2 := H1.keep KA
          have hk2 := SlOf.move (S' := ownB pvk ++ ((w.heap.size + 1 + 1 + 1) :: (w.heap.size + 1 + 1) :: (w.heap.size + 1) :: w.heap.size :: S0)) hk1 strRow_stab (by omega) KA (by simp) (fun x hx => .inl hx)
          have hr2 := SlOf.move (S' := ownB pvk ++ ((w.heap.size + 1 + 1 + 1) :: (w.heap.size + 1 + 1) :: (w.heap.size + 1) :: w.heap.size :: S0)) hr1 ruleAt_stab (by omega) KA (by simp) (fun x hx => .inl hx)
          have HK2 := Lib.hid hk2
          have HR2 := Lib.hid hr2
          have BF2 := BF.keep KA (by simp)
          have BG2 := BG.keep KA (by simp)
          have H2b := H2.box
          obtain ⟨bv, hB, hbv⟩ := H2b
          have c2 := hB.cell 2
          have c2' : (wr.alloc (.cells #[.string rk.name, .int .i64 rk.marks, .int .i64 k', .string t', .slice A' n' C', .slice B' m' D', .int .i64 a', .slice N' x' F', .int .i64 rk.a] 87)).cell? ⟨w.heap.size + 1 + 1 + 1, 2, none⟩ = some bv := c2
          clear c2 hk2 hr2
          cases hbd : q.bad with
          | some x =>
            rw [hbd] at hbv
            obtain ⟨bb, rfl, _, _⟩ := hbv
            have hqq : ∀ (b : Nat) (w : World), (binOp .eql 91 (.pointer (some ⟨b, 0, none⟩)) (.pointer none)).run Tryz.prog w = .ok (.bool false) w := fun _ _ => by kernel_rfl
            have HBD := Lib.hid hbd; clear hbd
            have hfin : OfAt2 S0 d f A (some ⟨b, o, none⟩) C D w (k + 1) (wr.alloc (.cells #[.string rk.name, .int .i64 rk.marks, .int .i64 k', .string t', .slice A' n' C', .slice B' m' D', .int .i64 a', .slice N' x' F', .int .i64 rk.a] 87)) :=
              ⟨pvk, K1.trans KA, by rw [HQS.out, if_neg (by rw [HBD.out]; simp)]; exact H2, HK2.out, HR2.out, BF2, BG2⟩
            have HFIN := Lib.hid hfin; clear hfin
            go_wp2
            go_roundw
            case rel => exact ⟨k + 1, by have := HLT.out; omega, by go_num, HFIN.out⟩
            case measure => simp [intOf]; have := HLT.out; omega
          | none =>
            rw [hbd] at hbv
            have hbv : bv = .pointer none := hbv
            subst hbv
            have hqq : ∀ (w : World), (binOp .eql 91 (.pointer none) (.pointer none)).run Tryz.prog w = .ok (.bool true) w := fun _ => by kernel_rfl
            have HBD := Lib.hid hbd; clear hbd
            have hcall := frule_any _ _ _ _ _ pvk q d k rk.e _ _ (by omega) (by omega) hok1.1 (fun x _ st l => pieceF_p _ d st l x) (fun S x hx => piece_ok S _ _ _ _ d x (hok1.2 x hx).1) (fun x hx => (hok1.2 x hx).2) H2 (partAt_stab _ _ _ _ _ _ _ hpart KA (by simp) (fun x hx => .inl hx))
            have HC := Lib.hid hcall; clear hcall hok1 hpart
            go_wp2_with fail
            refine HC.out.mono ?_
            rintro e w3 ⟨K3, pv3, rfl, H3, hp3⟩
            have hT3 : ∀ x ∈ (w.heap.size + 1 + 1 + 1) :: ownB pvk, x ∈ ownB pvk ++ ((w.heap.size + 1 + 1 + 1) :: (w.heap.size + 1 + 1) :: (w.heap.size + 1) :: w.heap.size :: S0) ∨ (wr.alloc (.cells #[.string rk.name, .int .i64 rk.marks, .int .i64 k', .string t', .slice A' n' C', .slice B' m' D', .int .i64 a', .slice N' x' F', .int .i64 rk.a] 87)).heap.size ≤ x := fun x hx => .inl (by simp at hx ⊢; rcases hx with h | h <;> simp [h])
            have hS3 : ∀ x ∈ ownB pv3 ++ ((w.heap.size + 1 + 1 + 1) :: (w.heap.size + 1 + 1) :: (w.heap.size + 1) :: w.heap.size :: S0), x ∈ ownB pvk ++ ((w.heap.size + 1 + 1 + 1) :: (w.heap.size + 1 + 1) :: (w.heap.size + 1) :: w.heap.size :: S0) ∨ (wr.alloc (.cells #[.string rk.name, .int .i64 rk.marks, .int .i64 k', .string t', .slice A' n' C', .slice B' m' D', .int .i64 a', .slice N' x' F', .int .i64 rk.a] 87)).heap.size ≤ x := fun x hx => by
              rcases List.mem_append.1 hx with h | h
              · rcases hp3 x h with h | h
                · exact .inl (List.mem_append.2 (.inl h))
                · exact .inr h
              · exact .inl (List.mem_append.2 (.inr h))
            have hpb := fun b hb => (H2.prods.base b hb).1
            have hfin : OfAt2 S0 d f A (some ⟨b, o, none⟩) C D w (k + 1) w3 :=
              ⟨pv3, (K1.trans KA).then K3 (fun x hx => .inr (by rcases List.mem_cons.1 hx with h | h; omega; have := hpb x h; omega)), by rw [HQS.out, if_pos HBD.out]; exact H3, SlOf.move HK2.out strRow_stab (by omega) K3 hT3 hS3, SlOf.move HR2.out ruleAt_stab (by omega) K3 hT3 hS3,
                BF2.keep K3 (fun hx => by rcases List.mem_cons.1 hx with h | h; omega; have := hpb _ h; omega), BG2.keep K3 (fun hx => by rcases List.mem_cons.1 hx with h | h; omega; have := hpb _ h; omega)⟩
            have HFIN := Lib.hid hfin; clear hfin
            clear hT3 hS3 hpb
            go_wp2
            go_roundw
            case rel => exact ⟨k + 1, by have := HLT.out; omega, by go_num, HFIN.out⟩
            case measure => simp [intOf]; have := HLT.out; omega
        · obtain rfl : k = f.rules.length := by omega
          have HBq := HBAD.out
          have HG60 := rulesF_60 (f.rules.map RuleS.name) d f.rules ⟨f.rules.map prod0, none⟩ (by simpa using hm) f.rules.length
          generalize hq : rulesF (pieceF (f.rules.map RuleS.name) d) f.rules f.rules.length ⟨f.rules.map prod0, none⟩ = q at H1 HBq HG60
          have HQ := Lib.hid hq; clear hq
          obtain ⟨bv, hB, hbv⟩ := H1.box
          rw [HBq] at hbv
          have hbv : bv = .pointer none := hbv
          subst hbv
          clear HBq
          have hqq : ∀ (w : World), (binOp .neq 91 (.pointer none) (.pointer none)).run Tryz.prog w = .ok (.bool false) w := fun _ => by kernel_rfl
          have c1 := hB.cell 1
          have c2 := hB.cell 2
          have c2' : wr.cell? ⟨w.heap.size + 1 + 1 + 1, 2, none⟩ = some (.pointer none) := c2
          have b0 := BF.cell 0
          clear c2 hr1
          have hcall := strClone_any _ _ f.keys wr.drew (strs_back (SlOf.move hk1 strRow_stab (by omega) ((Keep.refl [] wr).drew) (by simp) (fun x hx => .inl hx))) hkl
          have HC := Lib.hid hcall; clear hcall hk1
          have hSl : ∀ b ∈ S0, b < wr.heap.size := fun b hb => Nat.lt_of_lt_of_le (hS0 b hb) K1.size
          obtain ⟨Ap, Cp, hpv⟩ := H1.prods.slice
          subst hpv
          go_wp2
          go_region_law (first
            | (go_simp; go_at_call 48; refine HC.out.mono ?_; rintro e W5 ⟨⟨A9, C9, rfl, hA9⟩, K5⟩; have BM5 := (hB.drew).keep K5 (by simp); have m5 := BM5.cell; have l5 := BM5.lt; have f5 := BM5.frozen; have B5 := (BF.drew).keep K5 (by simp); have r5 := B5.cell; have G5 := (BG.drew).keep K5 (by simp); unfold gramZ at G5; have g5 := G5.cell; have gf5 := G5.frozen; have gl5 := G5.lt; dsimp only))
          all_goals
            have KD := ((Keep.refl [] wr).drew).trans K5
            have KS := ((Keep.refl [w.heap.size + 1] W5).setCell (p := ⟨w.heap.size + 1, 0, none⟩) (by simp) (.slice (Ap) q.p.length Cp)).setCell (p := ⟨w.heap.size + 1, 1, none⟩) (by simp) (.slice A9 f.keys.length C9)
            have hlo : ∀ b ∈ ownB (.slice Ap q.p.length Cp), w.heap.size ≤ b := fun b hb => by have := (H1.prods.base b hb).1; omega
            have hP : Prods ((w.heap.size + 1) :: S0) W5 (.slice Ap q.p.length Cp) q.p := SlOf.move (S := (w.heap.size + 1) :: S0) (H1.prods.read prodRow_stab (fun b hb => .inl (by simp [ownB, Value.ownBlock] at hb ⊢; rcases hb with h | h <;> simp [h])) (fun b hb hb' => by
              have h1 := (H1.prods.base b hb).1
              rcases List.mem_cons.1 hb' with h | h
              · omega
              · have := hS0 b h; omega)) prodRow_stab (by omega) KD (by simp) (fun x hx => .inl hx)
            have hP2 : Prods S0 _ (.slice Ap q.p.length Cp) q.p := SlOf.move hP prodRow_stab (by omega) KS (fun x hx => .inl (by simp at hx; simp [hx])) (fun x hx => .inl (by simp [hx]))
            have hK2 : SlOf StrRow S0 _ 1 (.slice A9 f.keys.length C9) f.keys := SlOf.move (S := (w.heap.size + 1) :: S0) (strs_fwd (hA9 _ (fun b hb => by
              have hw := K1.size
              have hl := BG.lt
              rcases List.mem_cons.1 hb with h | h
              · simp; omega
              · have := hSl b h; simpa using this))) strRow_stab (by omega) KS (fun x hx => .inl (by simp at hx; simp [hx])) (fun x hx => .inl (by simp [hx]))
            have KF := (K1.trans KD).then KS (fun x hx => .inr (by simp at hx; omega))
            have BGF : Blk ((W5.setCell ⟨w.heap.size + 1, 0, none⟩ (.slice Ap q.p.length Cp)).setCell ⟨w.heap.size + 1, 1, none⟩ (.slice A9 f.keys.length C9)) (w.heap.size + 1) #[.slice Ap q.p.length Cp, .slice A9 f.keys.length C9] 25 := by simpa using (G5.set 0 (.slice Ap q.p.length Cp)).set 1 (.slice A9 f.keys.length C9)
            have cF := BGF.cell
            have CF := Lib.hid cF
            have HP2 := Lib.hid hP2
            have HK2 := Lib.hid hK2
            have HKF := Lib.hid KF
            clear cF BGF KF hK2 hP2 hP hlo KS KD
            go_wp2
            have cF := CF.out
            exact bodyPost_ret (v := .tuple #[.agg #[.slice Ap q.p.length Cp, .slice A9 f.keys.length C9], .int .i64 0, .int .i64 0]) (by simp [results, Tryz.results21, go_sem, cF]) rfl ⟨_, rfl, by rw [HQ.out]; exact ⟨_, _, _, _, rfl, HP2.out, HK2.out⟩, HKF.out⟩
end Go.Proofs.YtbpidoiellcccaaGreatDoor
namespace Go.Proofs.YtbpidoiellcccaaGreatDoor
open Go Go.RowKit Go.MapKept

/-- What a known file comes to. -/
structure OfOK (d : Nat) (f : FileS) (g : GramS) : Prop where
  len : f.rules.length ≤ 60 ∧ 0 < f.rules.length ∧ f.keys.length ≤ 1000000
  nodup : (f.rules.map RuleS.name).Nodup
  nt : ∀ r ∈ f.rules, r.nt.length ≤ 1000000
  ok : ∀ r ∈ f.rules, (altP r.e).length ≤ 1000000 ∧ ∀ x ∈ altP r.e, okF d x = true ∧ wtF d x ≤ 1000000
  res : rulesF (pieceF (f.rules.map RuleS.name) d) f.rules f.rules.length ⟨f.rules.map prod0, none⟩ = ⟨g.p, none⟩
  keys : g.keys = f.keys
theorem of_known (S0 : List Nat) (d : Nat) (f : FileS) (g : GramS) (row : Array Value) (w : World) (h : OfOK d f g) (hS0 : ∀ b ∈ S0, b < w.heap.size) (H : FileAt S0 w f row) :
    Calls Tryz.prog 21 #[.agg row] w (OfPost S0 w g) := by
  have h1 := of_any S0 d f row w hS0 h.len.1 h.len.2.1 h.len.2.2 H h.nodup h.nt h.ok (by rw [h.res])
  rw [h.res] at h1
  obtain ⟨gp, gk⟩ := g
  have hk : gk = f.keys := h.keys
  subst hk
  exact h1
def okFile (d : Nat) (f : FileS) : Bool := f.rules.all fun r => decide ((altP r.e).length ≤ 1000000) && (altP r.e).all fun x => okF d x && decide (wtF d x ≤ 1000000)
theorem okFile_of {d : Nat} {f : FileS} (h : okFile d f = true) : ∀ r ∈ f.rules, (altP r.e).length ≤ 1000000 ∧ ∀ x ∈ altP r.e, okF d x = true ∧ wtF d x ≤ 1000000 := by
  intro r hr
  have h1 := List.all_eq_true.1 h r hr
  simp only [Bool.and_eq_true, decide_eq_true_eq, List.all_eq_true] at h1
  exact h1
/-- Text s is read as file f, of which g is made. -/
structure TextOK (d : Nat) (s : ByteArray) (f : FileS) (g : GramS) : Prop where
  size : s.size ≤ 3000
  no1 : s.data.toList.all (fun b => b.toNat != 91) = true
  no2 : s.data.toList.all (fun b => b.toNat != 60) = true
  lex : (lexR cN cN s (s.size + 1) 0 []).2.2 = 0
  parse : parseR s.size (lexR cN cN s (s.size + 1) 0 []).1 = .ok f
  of : OfOK d f g
end Go.Proofs.YtbpidoiellcccaaGreatDoor
namespace Go.Proofs.YtbpidoiellcccaaGreatDoor
open Go Go.RowKit Go.MapKept

/-- Block b is the set of these numbers. -/
def SetI (w : World) (b : Nat) (l : List Int) : Prop := ∃ es clk, MapB w b es clk ∧ es.toList.map (fun e => (e.key, e.val)) = l.map (fun n => (Value.int .i64 n, Value.bool true))
theorem eraseIdx_map {α β : Type} (f : α → β) : ∀ (l : List α) (i : Nat), (l.eraseIdx i).map f = (l.map f).eraseIdx i
  | [], _ => rfl
  | a :: l, 0 => rfl
  | a :: l, i + 1 => by simp [List.eraseIdx, eraseIdx_map f l i]
theorem SetI.keep {w w' : World} {S : List Nat} {b : Nat} {l : List Int} (h : SetI w b l) (K : Keep S w w') (hb : b ∉ S) : SetI w' b l := by
  obtain ⟨es, clk, h1, h2⟩ := h
  exact ⟨es, clk, h1.keep K hb, h2⟩
theorem SetI.lt {w : World} {b : Nat} {l : List Int} (h : SetI w b l) : b < w.heap.size := by
  obtain ⟨es, clk, h1, h2⟩ := h
  exact h1.lt
theorem SetI.drewN {w : World} {b : Nat} {l : List Int} (h : SetI w b l) (n : Nat) : SetI (w.drewN n) b l := h
theorem SetI.drew {w : World} {b : Nat} {l : List Int} (h : SetI w b l) : SetI w.drew b l := h
theorem SetI.new (w : World) (clk : Nat) : SetI (w.alloc (.map #[] clk)) w.heap.size [] := ⟨#[], clk, MapB.new w _ _, rfl⟩
/-- Where a number stands among entries. -/
theorem findI (x : Int) : ∀ (es : List MapEntry) (l : List Int) (i : Nat), es.map (fun e => (e.key, e.val)) = l.map (fun n => (Value.int .i64 n, Value.bool true)) →
    Instr.findNow (.int .i64) (.int .i64 x) es i = some (if x ∈ l then some (i + l.idxOf x, .bool true) else none)
  | [], l, i, h => by
    have : l = [] := by simpa using h.symm
    subst this
    rfl
  | e :: es, [], i, h => by simp at h
  | e :: es, n :: l, i, h => by
    simp only [List.map_cons, List.cons.injEq, Prod.mk.injEq] at h
    obtain ⟨⟨h1, h2⟩, h3⟩ := h
    have ih := findI x es l (i + 1) h3
    unfold Instr.findNow
    rw [h1]
    by_cases hx : x = n
    · subst hx
      simp [Instr.sameNow, h2]
    · have hb : (x == n) = false := by simpa using hx
      simp only [Instr.sameNow, if_true, hb, ih]
      have : (n == x) = false := by simpa using fun e => hx e.symm
      simp [hx, List.idxOf_cons, this]
      split
      · congr 2; omega
      · rfl
theorem set_look {w : World} {b : Nat} {l : List Int} (h : SetI w b l) (x : Int) : (Instr.lookup 110 (.map (some b)) (.int .i64 x) false).run Tryz.prog w = .ok (.bool (decide (x ∈ l))) w := by
  obtain ⟨es, clk, h1, h2⟩ := h
  rw [run_lookup_at Tryz.underlying110 Tryz.underlying3 (isKey_i64 x) h1 (findI x es.toList l 0 h2) (z := .bool false) (by kernel_rfl) false]
  by_cases hx : x ∈ l <;> simp [hx]
theorem set_add {w : World} {b : Nat} {l : List Int} (h : SetI w b l) (x : Int) : ∃ w1, (Instr.mapUpdate 110 (.map (some b)) (.int .i64 x) (.bool true)).run Tryz.prog w = .ok () w1 ∧ SetI w1 b (if x ∈ l then l else l ++ [x]) ∧ Keep [b] w w1 := by
  obtain ⟨es, clk, h1, h2⟩ := h
  have hf := findI x es.toList l 0 h2
  by_cases hx : x ∈ l
  · rw [if_pos hx] at hf ⊢
    have hlen : es.size = l.length := by have := congrArg List.length h2; simpa using this
    have hidx : l.idxOf x < l.length := List.idxOf_lt_length_of_mem hx
    have hk : ∀ e, es[l.idxOf x]? = some e → e.key = .int .i64 x ∧ e.val = .bool true := fun e he => by
      have h3 := congrArg (fun z => z[l.idxOf x]?) h2
      simp only [List.getElem?_map, Array.getElem?_toList, he, Option.map_some] at h3
      rw [List.getElem?_eq_getElem hidx] at h3
      simp only [Option.map_some, Option.some.injEq, Prod.mk.injEq, List.getElem_idxOf] at h3
      exact h3
    have hkey : ((es[0 + l.idxOf x]?).map (·.key)).getD (.int .i64 x) = .int .i64 x := by
      rw [Nat.zero_add]
      cases he : es[l.idxOf x]? with
      | none => rfl
      | some e => simp [(hk e he).1]
    have hrun : (Instr.mapUpdate 110 (.map (some b)) (.int .i64 x) (.bool true)).run Tryz.prog w = .ok () (setMap w b (es.modify (0 + l.idxOf x) fun e => { e with key := .int .i64 x, val := .bool true }) clk) := by
      unfold Instr.mapUpdate
      simp only [Sem.run_bind, run_underlying Tryz.underlying110, Result.andThen, MapKept.run_getObj_map h1, MapKept.run_checkKey Tryz.underlying3 (isKey_i64 x), MapKept.run_findKey Tryz.underlying3 hf, hkey, run_keyThatStays (isKey_i64 x), MapKept.run_setObj_map _ h1]
      rfl
    refine ⟨_, hrun, ⟨_, _, setMap_at h1 _ _, ?_⟩, setMap_keep (Keep.refl _ _) (by simp) _ _⟩
    rw [← h2]
    apply List.ext_getElem?
    intro j
    simp only [List.getElem?_map, Array.getElem?_toList, Array.getElem?_modify, Nat.zero_add]
    by_cases hj : l.idxOf x = j
    · subst hj
      simp only [if_true]
      cases he : es[l.idxOf x]? with
      | none => rfl
      | some e => simp [(hk e he).1, (hk e he).2]
    · simp [hj]
  · rw [if_neg hx] at hf ⊢
    refine ⟨_, run_mapUpdate_new Tryz.underlying110 Tryz.underlying3 (isKey_i64 x) h1 hf _, ⟨_, _, setMap_at h1 _ _, ?_⟩, setMap_keep (Keep.refl _ _) (by simp) _ _⟩
    simp [h2]
theorem set_del {w : World} {b : Nat} {l : List Int} (h : SetI w b l) (x : Int) (ty : TypeId) : ∃ w1, (Builtin.delete_ #[110, 3] ty #[.map (some b), .int .i64 x]).run Tryz.prog w = .ok (.tuple #[]) w1 ∧ SetI w1 b (l.erase x) ∧ Keep [b] w w1 := by
  obtain ⟨es, clk, h1, h2⟩ := h
  have hf := findI x es.toList l 0 h2
  by_cases hx : x ∈ l
  · rw [if_pos hx] at hf
    have hrun : (Builtin.delete_ #[110, 3] ty #[.map (some b), .int .i64 x]).run Tryz.prog w = .ok (.tuple #[]) (setMap w b (es.eraseIdxIfInBounds (0 + l.idxOf x)) clk) := by
      simp [Builtin.delete_, run_underlying Tryz.underlying110, MapKept.run_getObj_map h1, MapKept.run_checkKey Tryz.underlying3 (isKey_i64 x), MapKept.run_findKey Tryz.underlying3 hf, MapKept.run_setObj_map _ h1, Result.andThen, setMap]
    refine ⟨_, hrun, ⟨_, _, setMap_at h1 _ _, ?_⟩, setMap_keep (Keep.refl _ _) (by simp) _ _⟩
    have hlen : es.size = l.length := by have := congrArg List.length h2; simpa using this
    have hidx : l.idxOf x < l.length := List.idxOf_lt_length_of_mem hx
    unfold Array.eraseIdxIfInBounds
    rw [dif_pos (by omega), Array.toList_eraseIdx, Nat.zero_add]
    have e : l.erase x = l.eraseIdx (l.idxOf x) := List.erase_eq_eraseIdx_of_idxOf rfl
    rw [e, eraseIdx_map, eraseIdx_map, h2]
  · rw [if_neg hx] at hf
    have hrun : (Builtin.delete_ #[110, 3] ty #[.map (some b), .int .i64 x]).run Tryz.prog w = .ok (.tuple #[]) (setMap w b es clk) := by
      simp [Builtin.delete_, run_underlying Tryz.underlying110, MapKept.run_getObj_map h1, MapKept.run_checkKey Tryz.underlying3 (isKey_i64 x), MapKept.run_findKey Tryz.underlying3 hf, MapKept.run_setObj_map _ h1, Result.andThen, setMap]
    refine ⟨_, hrun, ⟨_, _, setMap_at h1 _ _, ?_⟩, setMap_keep (Keep.refl _ _) (by simp) _ _⟩
    rw [List.erase_of_not_mem hx]
    exact h2
theorem set_len {w : World} {b : Nat} {l : List Int} (h : SetI w b l) (ty : TypeId) : (Builtin.len_ #[110] ty #[.map (some b)]).run Tryz.prog w = .ok (.int .i64 l.length) w := by
  obtain ⟨es, clk, h1, h2⟩ := h
  have hlen : es.size = l.length := by have := congrArg List.length h2; simpa using this
  simp [Builtin.len_, run_underlying Tryz.underlying110, MapKept.run_getObj_map h1, Result.andThen, hlen, goInt]
end Go.Proofs.YtbpidoiellcccaaGreatDoor
namespace Go.Proofs.YtbpidoiellcccaaGreatDoor
open Go Go.RowKit Go.MapKept

/-- Behind an append of several elements. -/
theorem OwnL.appendL {α : Type} {R : List Nat → World → α → Array Value → Prop} {S : List Nat} {w w' : World} {base : Nat} {E : TypeId} {k g cap : Nat} {v : Value} {xs ys : List α} (rows : List (Array Value)) (h1 : rows.length = xs.length)
    (h3 : ∀ i (h : i < xs.length) (h' : i < rows.length), rows[i].size = k ∧ R (ownB v ++ S) w xs[i] rows[i]) (st : Stab R) (rows2 : List (Array Value)) (h2 : rows2.length = ys.length) (h4 : ∀ i (h : i < ys.length) (h' : i < rows2.length), rows2[i].size = k ∧ R (ownB v ++ S) w ys[i] rows2[i])
    (ho : w'.ownsRow base E k (.slice (some ⟨g, 0, none⟩) (xs.length + ys.length) cap) (xs.length + ys.length) (rows.flatMap Array.toList ++ rows2.flatMap Array.toList)) (hg : w.grownBy w' v.ownBlock) (hw : v.ownBlock = some g ∨ g = w.heap.size) :
    OwnL R S w' base E k (.slice (some ⟨g, 0, none⟩) (xs.length + ys.length) cap) (xs ++ ys) := by
  have K : Keep (ownB v) w w' := ⟨hg.os, hg.tape, hg.output, hg.size, fun b hb hs => hg.block b hb (fun e => hs (by simp [ownB, ← e]))⟩
  have hS : ∀ b ∈ ownB (.slice (some ⟨g, 0, none⟩) (xs.length + ys.length) cap) ++ S, b ∈ ownB v ++ S ∨ w.heap.size ≤ b := by
    intro b hb
    rcases List.mem_append.1 hb with hb | hb
    · have : b = g := by simpa [ownB, Value.ownBlock, eq_comm] using hb
      subst this
      rcases hw with hw | hw
      · exact .inl (by simp [ownB, hw])
      · exact .inr (by omega)
    · exact .inl (by simp [hb])
  have hT : ∀ b ∈ ownB v, b ∈ ownB v ++ S ∨ w.heap.size ≤ b := fun b hb => .inl (by simp [hb])
  refine ⟨rows ++ rows2, by simp [h1, h2], ?_, fun i hi hi' => ?_⟩
  · rw [List.length_append, List.flatMap_append]
    exact ho
  · by_cases e : i < rows.length
    · have e2 : (xs ++ ys)[i] = xs[i]'(by omega) := List.getElem_append_left (by omega)
      have e3 : (rows ++ rows2)[i] = rows[i] := List.getElem_append_left e
      rw [e2, e3]
      exact ⟨(h3 i (by omega) e).1, st _ _ _ _ _ _ _ (h3 i (by omega) e).2 K hT hS⟩
    · have hl : i - rows.length < ys.length := by simp at hi; omega
      have e2 : (xs ++ ys)[i] = ys[i - rows.length] := by rw [List.getElem_append_right (by omega)]; simp only [h1]
      have e3 : (rows ++ rows2)[i] = rows2[i - rows.length]'(by omega) := List.getElem_append_right (by omega)
      rw [e2, e3]
      exact ⟨(h4 _ hl (by omega)).1, st _ _ _ _ _ _ _ (h4 _ hl (by omega)).2 K hT hS⟩
def lens (l : List (List SymS)) : Nat := (l.map List.length).sum
theorem lens_take (l : List (List SymS)) (k : Nat) (h : k < l.length) : lens (l.take (k + 1)) = lens (l.take k) + l[k].length := by
  unfold lens
  rw [List.take_succ_eq_append_getElem h]
  simp only [List.map_append, List.sum_append, List.map_cons, List.map_nil, List.sum_cons, List.sum_nil, Nat.add_zero]
theorem lens_le (l : List (List SymS)) : ∀ k, lens (l.take k) ≤ lens l := by
  intro k
  unfold lens
  conv => rhs; rw [← List.take_append_drop k l]
  simp only [List.map_append, List.sum_append]
  omega
theorem flatten_len (l : List (List SymS)) : l.flatten.length = lens l := by simp [lens, List.length_flatten]
end Go.Proofs.YtbpidoiellcccaaGreatDoor
namespace Go.Proofs.YtbpidoiellcccaaGreatDoor
open Go Go.RowKit Go.MapKept

def boolC (bs : List Bool) : Array Value := (bs.map Value.bool).toArray
theorem boolC_at (bs : List Bool) (i : Nat) (h : i < bs.length) : (boolC bs)[i]? = some (.bool bs[i]) := by simp [boolC, h]
theorem boolC_set (bs : List Bool) (i : Nat) (b : Bool) : (boolC bs).setIfInBounds i (.bool b) = boolC (bs.set i b) := by
  apply Array.ext'
  simp [boolC, List.map_set]
theorem foldl_take {α β : Type} (f : β → α → β) (b : β) (l : List α) (k : Nat) (h : k < l.length) : (l.take (k + 1)).foldl f b = f ((l.take k).foldl f b) l[k] := by
  rw [List.take_succ_eq_append_getElem h, List.foldl_append]
  rfl
def falseN (w : World) (rb : Nat) : Nat := match w.heap[rb]? with
  | some (.cells cs _ _) => cs.toList.countP (fun v => match v with | .bool false => true | _ => false)
  | _ => 0
def entN (w : World) (mb : Nat) : Nat := match w.heap[mb]? with
  | some (.map es _) => es.size
  | _ => 0
def falses (bs : List Bool) : Nat := bs.countP (fun b => !b)
theorem falseN_of {w : World} {rb : Nat} {bs : List Bool} {T : TypeId} (h : Blk w rb (boolC bs) T) : falseN w rb = falses bs := by
  unfold Blk at h
  unfold falseN
  rw [h]
  simp only [boolC, falses, List.countP_map]
  congr 1
  funext b
  cases b <;> rfl
theorem entN_of {w : World} {mb : Nat} {l : List Int} (h : SetI w mb l) : entN w mb = l.length := by
  obtain ⟨es, clk, h1, h2⟩ := h
  have h3 := congrArg List.length h2
  unfold MapB at h1
  unfold entN
  rw [h1]
  simpa using h3
theorem falses_set : ∀ (bs : List Bool) (i : Nat), bs[i]? = some false → falses (bs.set i true) + 1 = falses bs
  | [], i, h => by simp at h
  | b :: bs, 0, h => by
    simp at h
    subst h
    simp [falses, List.countP_cons]
  | b :: bs, i + 1, h => by
    have ih := falses_set bs i (by simpa using h)
    simp only [falses, List.set_cons_succ, List.countP_cons] at ih ⊢
    omega
theorem gmay_sym {ps : List ProdS} (h : gmay ps = true) : ∀ p ∈ ps, ∀ a ∈ p.a, ∀ s ∈ a, s.k = 2 → 0 ≤ s.n ∧ s.n < ps.length := by
  unfold gmay at h
  simp only [Bool.and_eq_true, Bool.not_eq_true', List.any_eq_false] at h
  intro p hp a ha s hs hk
  have h1 := h.1.1 p hp
  unfold prodBad at h1
  simp only [Bool.not_eq_true, Bool.or_eq_false_iff, List.any_eq_false] at h1
  have h2 := h1.2 a ha
  unfold altOdd at h2
  simp only [Bool.not_eq_true, Bool.or_eq_false_iff, List.any_eq_false] at h2
  have h3 := h2.2 s hs
  unfold symBad at h3
  rw [if_neg (by omega), if_pos hk] at h3
  simp at h3
  omega
theorem gmay_lens {ps : List ProdS} (h : gmay ps = true) : ∀ p ∈ ps, lens p.a ≤ 1000000 := by
  unfold gmay at h
  simp only [Bool.and_eq_true, Bool.not_eq_true', List.any_eq_false] at h
  intro p hp
  have h1 := h.1.1 p hp
  unfold prodBad at h1
  simp only [Bool.not_eq_true, Bool.or_eq_false_iff, List.any_eq_false, decide_eq_false_iff_not] at h1
  have h8 : p.a.length ≤ 8 := by omega
  have h40 : ∀ a ∈ p.a, a.length ≤ 40 := fun a ha => by
    have h2 := h1.2 a ha
    unfold altOdd at h2
    simp only [Bool.not_eq_true, Bool.or_eq_false_iff, decide_eq_false_iff_not] at h2
    omega
  have : ∀ l : List (List SymS), (∀ a ∈ l, a.length ≤ 40) → lens l ≤ 40 * l.length := by
    intro l
    induction l with
    | nil => intro _; simp [lens]
    | cons a l ih =>
      intro hl
      have h1 := ih (fun b hb => hl b (List.mem_cons_of_mem _ hb))
      have h2 := hl a List.mem_cons_self
      simp only [lens, List.map_cons, List.sum_cons, List.length_cons] at h1 ⊢
      omega
  have := this p.a h40
  omega
theorem gmay_len {ps : List ProdS} (h : gmay ps = true) : 0 < ps.length ∧ ps.length ≤ 60 := by
  unfold gmay at h
  simp only [Bool.and_eq_true, decide_eq_true_eq] at h
  exact ⟨h.1.2, h.2⟩
theorem info_bool : (Tryz.prog.info? 4).map (fun i => (i.zero, i.size, i.bytes)) = some (some (.bool false), 1, 1) := by kernel_rfl
theorem make_bools (w : World) (n : Nat) (hn : n ≤ 1000000) : (Instr.makeSlice 35 (.int .i64 n) (.int .i64 n)).run Tryz.prog w = .ok (.slice (some ⟨w.heap.size, 0, none⟩) n n) (w.alloc (.cells (boolC (List.replicate n false)) 4)) := by
  obtain ⟨i0, hi0, hz0, hz1, hz2⟩ := info_parts info_bool
  have h := run_make (P := Tryz.prog) (w := w) 35 4 i0 (.bool false) Tryz.underlying35 hi0 hz0 .i64 .i64 n n (by omega) (by omega) (by rw [hz2]; omega) (by omega)
  rw [h, hz1]
  have e : madeCells (Value.bool false).cells ((n : Int).toNat * 1) = boolC (List.replicate n false) := by
    apply Array.ext'
    have h1 : (madeCells (Value.bool false).cells ((n : Int).toNat * 1)).toList = List.replicate ((n : Int).toNat * 1) (.bool false) := toList_madeCells_one _ _
    rw [h1]
    simp [boolC]
  rw [e]
  simp
/-- A row of bools of the call's own, or none. -/
def BoolV (w : World) (lo : Nat) (v : Value) (bs : List Bool) : Prop := (bs = [] ∧ v = .slice none 0 0) ∨ (bs ≠ [] ∧ ∃ rb, v = .slice (some ⟨rb, 0, none⟩) bs.length bs.length ∧ Blk w rb (boolC bs) 4 ∧ lo ≤ rb)
/-- A nonterminal's symbols that are nonterminals. -/
def Nt (ps : List ProdS) (m : Nat) (s : SymS) : Prop := ∃ p, ps[m]? = some p ∧ s ∈ p.a.flatten ∧ s.k = 2
theorem gmay_nt {ps : List ProdS} (h : gmay ps = true) (m : Nat) (s : SymS) (hs : Nt ps m s) : 0 ≤ s.n ∧ s.n < ps.length := by
  obtain ⟨p, hp, hs, h2⟩ := hs
  obtain ⟨a, ha, hs⟩ := List.mem_flatten.1 hs
  exact gmay_sym h p (List.mem_of_getElem? hp) a ha s hs h2
end Go.Proofs.YtbpidoiellcccaaGreatDoor
namespace Go.Proofs.YtbpidoiellcccaaGreatDoor
open Go Go.RowKit Go.MapKept

/-- A symbol that is not found empty. -/
def hard (L : List Int) (s : SymS) : Bool := !(decide (s.k = 2) && decide (s.n ∈ L))
/-- All symbols are found empty. -/
def onlyF (L : List Int) (l : List SymS) : Bool := !(l.any (hard L))
/-- The finder in memory. -/
structure FindAt (w : World) (fb mb : Nat) (A K : Option Addr) (n C m D : Nat) (L : List Int) : Prop where
  B : Blk w fb #[.slice A n C, .slice K m D, .map (some mb)] 116
  M : SetI w mb L
  ne : fb ≠ mb
theorem FindAt.keep {w w' : World} {S : List Nat} {fb mb : Nat} {A K : Option Addr} {n C m D : Nat} {L : List Int} (h : FindAt w fb mb A K n C m D L) (k : Keep S w w') (hf : fb ∉ S) (hm : mb ∉ S) : FindAt w' fb mb A K n C m D L :=
  ⟨h.B.keep k hf, h.M.keep k hm, h.ne⟩

set_option maxHeartbeats 2000000 in
theorem only1_any (qb fb mb : Nat) (A K : Option Addr) (n C m D : Nat) (L : List Int) (S : List Nat) (s : SymS) (row : Array Value) (w : World) (BQ : Blk w qb #[.pointer (some ⟨fb, 0, none⟩)] 71) (F : FindAt w fb mb A K n C m D L) (H : SymRow S w s row) :
    Calls Tryz.prog 60 #[.agg row, .pointer (some ⟨qb, 0, none⟩)] w fun e w' => e = .returned (.bool (hard L s)) ∧ Keep [] w w' := by
  obtain ⟨B, E, rfl, hR⟩ := H
  obtain ⟨sk, sr, sn⟩ := s
  have K0 := (Keep.refl [] w).alloc (.cells #[.int .i64 sk, .slice B sr.length E, .int .i64 sn] 43)
  have q0 := (BQ.keep K0 (by simp)).cell 0
  have F0 := F.keep K0 (by simp) (by simp)
  have f2 := F0.B.cell 2
  have hlk : ∀ n, _ := fun n => set_look (F0.M.drewN n) sn
  clear hR F F0 BQ
  by_cases h2 : sk = 2
  · subst h2
    have hres : hard L ⟨2, sr, sn⟩ = !(decide (sn ∈ L)) := by simp [hard]
    rw [hres]
    generalize decide (sn ∈ L) = bn at hlk ⊢
    clear hres
    go_enter Tryz.func60, Tryz.ntmps60
    go_wp2
    go_quiet (fail)
    go_wp2
    go_ret
    exact ⟨rfl, K0.drewN _⟩
  · have hres : hard L ⟨sk, sr, sn⟩ = true := by simp [hard, h2]
    rw [hres]
    have h2b : (sk == 2) = false := by simpa using h2
    have h2d : decide (sk = 2) = false := by simpa using h2
    clear hres hlk
    go_enter Tryz.func60, Tryz.ntmps60
    go_wp2
    go_quiet (fail)
    go_wp2
    go_ret
    exact ⟨rfl, K0.drewN _⟩
set_option maxHeartbeats 2000000 in
theorem only_any (fb mb : Nat) (A K : Option Addr) (n C m D : Nat) (L : List Int) (S : List Nat) (l : List SymS) (B : Option Addr) (E : Nat) (w : World) (F : FindAt w fb mb A K n C m D L) (H : Syms S w (.slice B l.length E) l) :
    Calls Tryz.prog 39 #[.pointer (some ⟨fb, 0, none⟩), .slice B l.length E] w fun e w' => e = .returned (.bool (onlyF L l)) ∧ Keep [] w w' := by
  have K0 := (Keep.refl [] w).alloc (.cells #[.pointer (some ⟨fb, 0, none⟩)] 71)
  have BQ := Blk.new w #[.pointer (some ⟨fb, 0, none⟩)] 71
  have F0 := F.keep K0 (by simp) (by simp)
  have hp : PredOn l SymRow S _ 60 #[.pointer (some ⟨w.heap.size, 0, none⟩)] (fun row => .agg row) (hard L) :=
    ⟨fun _ _ => by kernel_rfl, fun s hs' row w' K h => only1_any w.heap.size fb mb _ _ n C m D L S s row w' (BQ.keep K (by simp)) (F0.keep K (by simp) (by simp)) h⟩
  have hcall := symContainsOn_any S (.slice B l.length E) l _ _ _ _ (SlOf.move H symRow_stab (by omega) K0 (by simp) (fun x hx => .inl hx)) hp
  have HC := Lib.hid hcall
  have hmf : ∀ (fn : Fn) (first cap : Array Value) (w : World), (Instr.makeFunc fn first cap).run Tryz.prog w = .ok (.func fn first cap) w := fun _ _ _ _ => rfl
  clear hcall hp H F F0 BQ
  go_enter Tryz.func39, Tryz.ntmps39
  go_wp2_with fail
  refine HC.out.mono ?_
  rintro e w1 ⟨rfl, K1⟩
  go_wp2
  go_ret
  exact ⟨rfl, K0.trans K1⟩
end Go.Proofs.YtbpidoiellcccaaGreatDoor
namespace Go.Proofs.YtbpidoiellcccaaGreatDoor
open Go Go.RowKit Go.MapKept

/-- What a method that is taken as a value tells of the elements of a list. -/
def PredM (l : List (List SymS)) (S : List Nat) (w : World) (g : Nat) (rv : Value) (pr : List SymS → Bool) : Prop :=
  (∀ args w, (callFunc g args).run Tryz.prog w = .ok (.enter g args) w) ∧ ∀ x ∈ l, ∀ (row : Array Value) (w' : World), Keep [] w w' → AltRow S w' x row → Calls Tryz.prog g #[rv, row.getD 0 undef] w' fun e w'' => e = .returned (.bool (pr x)) ∧ Keep [] w' w''
set_option maxHeartbeats 2000000 in
theorem altIndexM_any (S : List Nat) (v : Value) (l : List (List SymS)) (g : Nat) (rv : Value) (pr : List SymS → Bool) (w : World) (H : SlOf AltRow S w 1 v l) (hp : PredM l S w g rv pr) :
    Calls Tryz.prog 58 #[v, .func (.func g) #[rv] #[]] w fun e w' => (∃ i : Int, e = .returned (.int .i64 i) ∧ decide (0 ≤ i) = l.any pr) ∧ Keep [] w w' := by
  obtain ⟨hg, hp⟩ := hp
  obtain ⟨A, C, rfl, hm, hr⟩ := SlOf.at H
  go_enter Tryz.func58, Tryz.ntmps58
  go_wp2
  go_loopw [5, 8] (fun _ i wr => ∃ k : Nat, k ≤ l.length ∧ i = .int .i64 k ∧ Hid (∀ j (hj : j < k) (hl : j < l.length), pr l[j] = false) ∧ Keep [] w wr) (fun _ i _ => l.length - (intOf i).toNat)
  case atStart => exact ⟨0, by omega, rfl, Lib.hid (fun j hj => by omega), Keep.refl _ _⟩
  case round =>
    obtain ⟨k, hk, rfl, hn, Kr⟩ := hrel
    by_cases hlt : k < l.length
    · have hlt' : (k : Int) < (l.length : Int) := by omega
      have HW : SlOf AltRow S wr 1 (.slice A l.length C) l := SlOf.move H altRow_stab (by omega) Kr (by simp) (fun x hx => .inl hx)
      obtain ⟨A2, C2, hv, _, hr2⟩ := SlOf.at HW
      simp only [Value.slice.injEq, true_and] at hv
      obtain ⟨rfl, rfl⟩ := hv
      obtain ⟨b, o, rfl, hb, hc⟩ := hr2 (by omega)
      obtain ⟨row, hz, hcell, hR⟩ := hc k hlt
      have hR' := hR
      obtain ⟨A3, C3, rfl, hR3⟩ := hR'
      have e0 := hcell 0 (by omega)
      have hcall := hp l[k] (List.getElem_mem _) _ wr Kr hR
      clear hr hr2 hc hcell hp HW hR hR3 H
      simp at e0
      have HLT := Lib.hid hlt
      go_wp2
      refine hcall.mono ?_
      rintro e w2 ⟨rfl, K2⟩
      have hlt := HLT.out
      cases hq : pr l[k]
      · have hn2 : Hid (∀ j (hj : j < k + 1) (hl : j < l.length), pr l[j] = false) := Lib.hid (fun j hj hl => by
          by_cases e : j = k
          · subst e; exact hq
          · exact hn.out j (by omega) hl)
        clear e0 hcall hn
        go_wp2
        go_roundw
        case rel => exact ⟨k + 1, by omega, by go_num, hn2, Kr.trans K2⟩
        case measure => simp [intOf]; omega
      · have hany : l.any pr = true := List.any_eq_true.2 ⟨l[k], List.getElem_mem _, hq⟩
        clear e0 hcall hn
        go_wp2
        go_ret
        exact ⟨⟨k, rfl, by rw [hany]; simp⟩, Kr.trans K2⟩
    · have hany : l.any pr = false := by
        rw [List.any_eq_false]
        intro x hx
        obtain ⟨j, hj, rfl⟩ := List.getElem_of_mem hx
        simp [hn.out j (by omega) hj]
      go_wp2
      go_ret
      exact ⟨⟨-1, rfl, by rw [hany]; rfl⟩, Kr⟩
set_option maxHeartbeats 2000000 in
theorem altContainsM_any (S : List Nat) (v : Value) (l : List (List SymS)) (g : Nat) (rv : Value) (pr : List SymS → Bool) (w : World) (H : SlOf AltRow S w 1 v l) (hp : PredM l S w g rv pr) :
    Calls Tryz.prog 37 #[v, .func (.func g) #[rv] #[]] w fun e w' => e = .returned (.bool (l.any pr)) ∧ Keep [] w w' := by
  go_enter Tryz.func37, Tryz.ntmps37
  go_wp2_with fail
  refine (altIndexM_any S v l g rv pr w H hp).mono ?_
  rintro e w1 ⟨⟨i, rfl, hi⟩, K⟩
  go_wp2
  go_ret
  exact ⟨by rw [← hi]; rfl, K⟩
end Go.Proofs.YtbpidoiellcccaaGreatDoor
namespace Go.Proofs.YtbpidoiellcccaaGreatDoor
open Go Go.RowKit Go.MapKept

def estep (ps : List ProdS) (q : List Int × Bool) (n : Nat) : List Int × Bool := match ps[n]? with
  | some p => if (n : Int) ∈ q.1 then q else if p.a.any (onlyF q.1) = true then (q.1 ++ [(n : Int)], true) else q
  | none => q
def epass (ps : List ProdS) (k : Nat) (q : List Int × Bool) : List Int × Bool := (List.range k).foldl (estep ps) q
theorem epass_succ (ps : List ProdS) (k : Nat) (q : List Int × Bool) : epass ps (k + 1) q = estep ps (epass ps k q) k := by
  unfold epass
  rw [List.range_succ, List.foldl_append]
  rfl
/-- Which of the first k are there. -/
def bl (k : Nat) (L : List Int) : List Bool := (List.range k).map (fun (n : Nat) => decide ((n : Int) ∈ L))
theorem bl_at (k : Nat) (L : List Int) (n : Nat) (h : n < k) : (bl k L)[n]? = some (decide ((n : Int) ∈ L)) := by
  simp [bl, h]
theorem bl_add (k : Nat) (L : List Int) (n : Nat) (_h : n < k) : bl k (L ++ [(n : Int)]) = (bl k L).set n true := by
  apply List.ext_getElem?
  intro j
  rw [List.getElem?_set]
  by_cases hj : j < k
  · rw [bl_at _ _ _ hj]
    by_cases e : n = j
    · subst e
      simp [bl, hj]
    · rw [if_neg e, bl_at _ _ _ hj]
      have : ¬(j : Int) = (n : Int) := by omega
      simp [this]
  · have h1 : (bl k (L ++ [(n : Int)]))[j]? = none := by rw [List.getElem?_eq_none]; simp [bl]; omega
    have h2 : (bl k L)[j]? = none := by rw [List.getElem?_eq_none]; simp [bl]; omega
    rw [h1, h2]
    split
    · rename_i e; omega
    · rfl
theorem bl_less (k : Nat) (L : List Int) (n : Nat) (h : n < k) (hn : (n : Int) ∉ L) : falses (bl k (L ++ [(n : Int)])) + 1 = falses (bl k L) := by
  rw [bl_add k L n h]
  exact falses_set _ _ (by rw [bl_at _ _ _ h]; simp [hn])
theorem epass_less (ps : List ProdS) (L : List Int) : ∀ k, (epass ps k (L, false)).2 = false ∧ (epass ps k (L, false)).1 = L ∨ (epass ps k (L, false)).2 = true ∧ falses (bl ps.length (epass ps k (L, false)).1) < falses (bl ps.length L)
  | 0 => .inl ⟨rfl, rfl⟩
  | k + 1 => by
    rw [epass_succ]
    have ih := epass_less ps L k
    generalize epass ps k (L, false) = q at ih
    obtain ⟨q1, q2⟩ := q
    unfold estep
    split
    · rename_i p hp
      have hk : k < ps.length := (List.getElem?_eq_some_iff.1 hp).1
      split
      · exact ih
      · rename_i hn
        split
        · have h1 := bl_less ps.length q1 k hk hn
          right
          refine ⟨rfl, ?_⟩
          simp only at ih ⊢
          rcases ih with ⟨_, h2⟩ | ⟨_, h2⟩
          · rw [h2] at h1 ⊢; omega
          · omega
        · exact ih
    · exact ih
def emptyL (ps : List ProdS) : Nat → List Int → List Int
  | 0, L => L
  | f + 1, L => if (epass ps ps.length (L, false)).2 = true then emptyL ps f (epass ps ps.length (L, false)).1 else (epass ps ps.length (L, false)).1
/-- Who is empty, in the order in which it is found out. -/
def emptyF (ps : List ProdS) : List Int := emptyL ps (ps.length + 1) []
theorem falses_nil (k : Nat) : falses (bl k []) ≤ k := by
  unfold falses
  refine Nat.le_trans List.countP_le_length ?_
  simp [bl]
/-- A step keeps: all are numbers of nonterminals, none twice. -/
def Fine (n : Nat) (L : List Int) : Prop := L.Nodup ∧ ∀ x ∈ L, 0 ≤ x ∧ x < n
theorem estep_fine (ps : List ProdS) (q : List Int × Bool) (k : Nat) (h : Fine ps.length q.1) : Fine ps.length (estep ps q k).1 := by
  unfold estep
  split
  · rename_i p hp
    have hk : k < ps.length := (List.getElem?_eq_some_iff.1 hp).1
    split
    · exact h
    · rename_i hn
      split
      · refine ⟨?_, fun x hx => ?_⟩
        · rw [List.nodup_append]
          refine ⟨h.1, by simp, fun a ha b hb => ?_⟩
          simp at hb
          subst hb
          intro e
          subst e
          exact hn ha
        · simp at hx
          rcases hx with hx | rfl
          · exact h.2 x hx
          · omega
      · exact h
  · exact h
theorem epass_fine (ps : List ProdS) (q : List Int × Bool) (h : Fine ps.length q.1) : ∀ k, Fine ps.length (epass ps k q).1
  | 0 => h
  | k + 1 => by rw [epass_succ]; exact estep_fine ps _ k (epass_fine ps q h k)
theorem emptyL_fine (ps : List ProdS) : ∀ f L, Fine ps.length L → Fine ps.length (emptyL ps f L)
  | 0, L, h => h
  | f + 1, L, h => by
    unfold emptyL
    split
    · exact emptyL_fine ps f _ (epass_fine ps _ h _)
    · exact epass_fine ps _ h _
theorem emptyF_fine (ps : List ProdS) : Fine ps.length (emptyF ps) := emptyL_fine ps _ _ ⟨List.nodup_nil, fun x hx => absurd hx (by simp)⟩
open Classical in
/-- The set that the world holds. -/
noncomputable def setN (w : World) (b : Nat) : List Int := if h : ∃ L, SetI w b L then Classical.choose h else []
theorem SetI.inj {w : World} {b : Nat} {L M : List Int} (h : SetI w b L) (k : SetI w b M) : L = M := by
  obtain ⟨es, clk, h1, h2⟩ := h
  obtain ⟨es', clk', k1, k2⟩ := k
  unfold MapB at h1 k1
  rw [h1] at k1
  simp only [Option.some.injEq, Obj.map.injEq] at k1
  obtain ⟨rfl, rfl⟩ := k1
  rw [h2] at k2
  have hl : L.length = M.length := by simpa using congrArg List.length k2
  refine List.ext_getElem hl (fun i h1 h2 => ?_)
  have := congrArg (fun z => z[i]?) k2
  simp only [List.getElem?_map, List.getElem?_eq_getElem h1, List.getElem?_eq_getElem h2, Option.map_some, Option.some.injEq, Prod.mk.injEq, Value.int.injEq, true_and, and_true] at this
  exact this
theorem setN_of {w : World} {b : Nat} {L : List Int} (h : SetI w b L) : setN w b = L := by
  unfold setN
  have hex : ∃ L, SetI w b L := ⟨L, h⟩
  rw [dif_pos hex]
  exact (Classical.choose_spec hex).inj h
end Go.Proofs.YtbpidoiellcccaaGreatDoor
