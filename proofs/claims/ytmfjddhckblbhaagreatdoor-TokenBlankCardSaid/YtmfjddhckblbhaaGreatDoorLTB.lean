/- The law TokenBlank, as its row and its card state it: for every input it answers true and the arguments read as before. -/
import Derived.Test.YtmfjddhckblbhaaGreatDoorL18
import Derived.Test.YtmfjddhckblbhaaGreatDoorL14
import Derived.Test.YtmfjddhckblbhaaGreatDoorL15
set_option linter.unusedVariables false
set_option linter.unusedSimpArgs false
namespace Go.Proofs.YtmfjddhckblbhaaGreatDoor
open Go Go.RowKit Go.MapKept
attribute [local go_sem] Oper.semAt_some

theorem toks_pick {S : List Nat} {w : World} {A : Option Addr} {n C : Nat} {ts : List TokS} (h : Toks S w (.slice A n C) ts) (i : Nat) (hi : i < ts.length) :
    ∃ b o A3 C3 T, A = some ⟨b, o, none⟩ ∧ w.cell? ⟨b, o + i * 4, none⟩ = some (.int .i64 ts[i].k) ∧ w.cell? ⟨b, o + i * 4 + 1, none⟩ = some (.string ts[i].t) ∧
      w.cell? ⟨b, o + i * 4 + 2, none⟩ = some (.slice A3 ts[i].r.length C3) ∧ w.cell? ⟨b, o + i * 4 + 3, none⟩ = some (.int .i64 ts[i].a) ∧ Rngs T w (.slice A3 ts[i].r.length C3) ts[i].r := by
  obtain ⟨A2, C2, e, _, hts⟩ := SlOf.at h
  simp only [Value.slice.injEq] at e
  obtain ⟨rfl, rfl, rfl⟩ := e
  obtain ⟨b, o, rfl, _, hcl⟩ := hts (by omega)
  obtain ⟨row, _, hcell, ⟨u, hrow, hyr⟩⟩ := hcl i hi
  subst hrow
  obtain ⟨A3, C3, rfl, _⟩ := SlOf.at (Rngs.of hyr)
  exact ⟨b, o, A3, C3, _, rfl, by first | (simp; done) | simpa using hcell 0 (by omega), by first | (simp; done) | simpa using hcell 1 (by omega), by first | (simp; done) | simpa using hcell 2 (by omega), by first | (simp; done) | simpa using hcell 3 (by omega), hyr⟩

set_option maxRecDepth 100000 in
set_option maxHeartbeats 4000000 in
theorem tokenBlank_walk (s t : ByteArray) (w : World) (HT : Tab w) (h5 : 5 < w.heap.size) :
    Calls Tryz.prog 5 #[.string s, .string t] w fun e w' => e = .returned (.bool true) ∧ Keep [] w w' := by
  have HA := Lib.hid (awakeT_any w HT h5)
  clear HT
  by_cases hs : (1000 : Int) < s.size
  · go_enter Tryz.func5, Tryz.ntmps5
    go_wp2_with fail
    refine HA.out.mono ?_
    rintro e w1 ⟨rfl, K1⟩
    clear HA
    go_wp2
    go_ret
    exact ⟨rfl, K1⟩
  by_cases ht : (1000 : Int) < t.size
  · go_enter Tryz.func5, Tryz.ntmps5
    go_wp2_with fail
    refine HA.out.mono ?_
    rintro e w1 ⟨rfl, K1⟩
    clear HA
    go_wp2
    go_ret
    exact ⟨rfl, K1⟩
  obtain ⟨a, p, e, ha⟩ : ∃ a p e, lexT s = (a, p, e) := ⟨_, _, _, rfl⟩
  obtain ⟨b, q, f, hb⟩ : ∃ b q f, lexT t = (b, q, f) := ⟨_, _, _, rfl⟩
  obtain ⟨c, x, g, hc⟩ : ∃ c x g, lexT (joinT s t) = (c, x, g) := ⟨_, _, _, rfl⟩
  have hla := lexT_len ha
  have hlb := lexT_len hb
  have hlc := lexT_len hc
  have HAa := Lib.hid (fun w' => allTok_any [] s w' (by simp) a p e ha)
  have HAb := Lib.hid (fun w' => allTok_any [] t w' (by simp) b q f hb)
  have HAc := Lib.hid (fun w' => allTok_any [] (joinT s t) w' (by simp) c x g hc)
  have HPb := Lib.hid (lexT_at hb)
  have HB : Hid (e = 0 → (f = 0 ∧ a.length + b.length ≤ 600 ∧ g = 0 ∧ c = a ++ b.map (shT (s.size + 2))) ∨ (f ≠ 0 ∧ g = f ∧ x = q + (s.size + 2)) ∨ (g = 7 ∧ (f = 0 → 600 < a.length + b.length))) := Lib.hid (fun he => by
    subst he
    rcases blank_law s t (by omega) (by omega) a b p q f ha hb with ⟨h1, h2, x', h3⟩ | ⟨h1, x', h2, _⟩ | ⟨c', x', h1, h2⟩
    · rw [hc] at h3
      simp only [Prod.mk.injEq] at h3
      exact .inl ⟨h1, h2, h3.2.2, h3.1⟩
    · rw [hc] at h2
      simp only [Prod.mk.injEq] at h2
      exact .inr (.inl ⟨h1, h2.2.2, h2.2.1⟩)
    · rw [hc] at h1
      simp only [Prod.mk.injEq] at h1
      exact .inr (.inr ⟨h1.2.2, h2⟩))
  have hqx : q ≤ 3000 ∧ x ≤ 3000 := by
    have h1 := lexT_fin hb
    have h2 := lexT_fin hc
    have h3 := (join_pre s t).2.2.2
    omega
  unfold joinT at HAc
  clear ha hb hc
  go_enter Tryz.func5, Tryz.ntmps5
  go_wp2_with fail
  refine HA.out.mono ?_
  rintro e' w1 ⟨rfl, K1⟩
  clear HA
  have HK1 := Lib.hid K1
  clear K1
  go_wp2_with fail
  refine (HAa.out _).mono ?_
  rintro e' w2 ⟨⟨va, rfl, HTa⟩, K2⟩
  obtain ⟨Aa, Ca, rfl, _⟩ := SlOf.at HTa
  have HTA := Lib.hid HTa
  have HK2 := Lib.hid (HK1.out.trans K2)
  clear HTa K2 HK1 HAa
  go_wp2_with fail
  refine (HAb.out _).mono ?_
  rintro e' w3 ⟨⟨vb, rfl, HTb⟩, K3⟩
  obtain ⟨Ab, Cb, rfl, _⟩ := SlOf.at HTb
  have HTB := Lib.hid HTb
  have HTA3 := Lib.hid (SlOf.move HTA.out tokRow_stab (by omega) K3 (by simp) (S' := []) (by simp))
  have HK3 := Lib.hid (HK2.out.trans K3)
  clear HTb K3 HK2 HAb HTA
  go_wp2_with fail
  refine (HAc.out _).mono ?_
  rintro e' w4 ⟨⟨vc, rfl, HTc⟩, K4⟩
  obtain ⟨Ac, Cc, rfl, _⟩ := SlOf.at HTc
  have HTC := Lib.hid HTc
  have HTA4 := Lib.hid (SlOf.move HTA3.out tokRow_stab (by omega) K4 (by simp) (S' := []) (by simp))
  have HTB4 := Lib.hid (SlOf.move HTB.out tokRow_stab (by omega) K4 (by simp) (S' := []) (by simp))
  have HK4 := Lib.hid (HK3.out.trans K4)
  clear HTc K4 HK3 HAc HTA3 HTB
  by_cases he : e = 0
  · subst he
    have hB := HB.out rfl
    clear HB
    by_cases h600 : (600 : Int) < (a.length : Int) + (b.length : Int)
    · by_cases hf : f = 0
      · subst hf
        obtain rfl : g = 7 := by rcases hB with ⟨_, h, _⟩ | ⟨h, _⟩ | ⟨h, _⟩ <;> omega
        clear hB
        go_wp2
        go_ret
        exact ⟨rfl, HK4.out⟩
      · have hf1 : ((f : Int) != 0) = true := by simp; omega
        clear hB
        by_cases hg : g = 7
        · subst hg
          go_wp2
          go_ret
          exact ⟨rfl, HK4.out⟩
        · have hg1 : ((g : Int) == 7) = false := by simp; omega
          go_wp2
          go_ret
          exact ⟨rfl, HK4.out⟩
    · by_cases hf : f = 0
      · subst hf
        have hgc : g = 0 ∧ c = a ++ b.map (shT (s.size + 2)) := by rcases hB with ⟨_, _, h⟩ | ⟨h, _⟩ | ⟨_, h⟩ <;> first | exact h | omega
        clear hB
        obtain ⟨rfl, hcc⟩ := hgc
        have hcl : c.length = a.length + b.length := by rw [hcc]; simp
        have hcl1 : ((c.length : Int) != (a.length : Int) + (b.length : Int)) = false := by rw [hcl]; simp
        have HCC := Lib.hid hcc
        have HCL := Lib.hid hcl
        clear hcc hcl
        go_wp2
        go_loopw [15] (fun i wr => ∃ j : Nat, j ≤ c.length ∧ i = .int .i64 j ∧ Keep [] w4 wr) (fun i _ => c.length - (intOf i).toNat)
        case atStart => exact ⟨0, by omega, rfl, Keep.refl _ _⟩
        case round =>
          obtain ⟨j, hj, rfl, Kr⟩ := hrel
          by_cases hlt : j < c.length
          · have hlt' : (j : Int) < (c.length : Int) := by omega
            by_cases hja : j < a.length
            · have hja' : (j : Int) < (a.length : Int) := by omega
              have hge : decide (a.length ≤ j) = false := by simp; omega
              obtain ⟨bc, oc, A3, C3, T3, rfl, c0, c1, c2, c3, c4⟩ := toks_pick HTC.out j hlt
              obtain ⟨ba, oa, A5, C5, T5, rfl, a0, a1, a2, a3, a4⟩ := toks_pick HTA4.out j hja
              have hcj : c[j] = a[j] := by
                have h : c[j]? = _ := congrArg (fun l => l[j]?) HCC.out
                rw [List.getElem?_append_left hja, List.getElem?_eq_getElem hlt, List.getElem?_eq_getElem hja] at h
                exact Option.some.inj h
              rw [hcj] at c0 c1 c2 c3 c4
              generalize a[j] = y at c0 c1 c2 c3 c4 a0 a1 a2 a3 a4
              obtain ⟨yk, yt, yr, ya⟩ := y
              simp only at c0 c1 c2 c3 c4 a0 a1 a2 a3 a4
              have HSM : Hid (∀ w', Keep [] w4 w' → Calls Tryz.prog 18 #[.agg #[.int .i64 yk, .string yt, .slice A3 yr.length C3, .int .i64 ya], .agg #[.int .i64 yk, .string yt, .slice A5 yr.length C5, .int .i64 ya]] w' fun e w'' => e = .returned (.bool true) ∧ Keep [] w4 w'') := Lib.hid (fun w' K => (same_any T3 T5 ⟨yk, yt, yr, ya⟩ ⟨yk, yt, yr, ya⟩ _ _ w' (Rngs.mv0 c4 K) (Rngs.mv0 a4 K)).mono fun e w'' ⟨h1, h2⟩ => ⟨by rw [h1]; simp [sameT], K.trans h2⟩)
              have HS : Hid (∀ w', Keep [] w4 w' → w'.cell? ⟨bc, oc + j * 4, none⟩ = some (.int .i64 yk) ∧ w'.cell? ⟨bc, oc + j * 4 + 1, none⟩ = some (.string yt) ∧ w'.cell? ⟨bc, oc + j * 4 + 2, none⟩ = some (.slice A3 yr.length C3) ∧ w'.cell? ⟨bc, oc + j * 4 + 3, none⟩ = some (.int .i64 ya) ∧ w'.cell? ⟨ba, oa + j * 4, none⟩ = some (.int .i64 yk) ∧ w'.cell? ⟨ba, oa + j * 4 + 1, none⟩ = some (.string yt) ∧ w'.cell? ⟨ba, oa + j * 4 + 2, none⟩ = some (.slice A5 yr.length C5) ∧ w'.cell? ⟨ba, oa + j * 4 + 3, none⟩ = some (.int .i64 ya) ∧ Keep [] w4 w') := Lib.hid (fun w' K => ⟨K.cell c0 (by simp), K.cell c1 (by simp), K.cell c2 (by simp), K.cell c3 (by simp), K.cell a0 (by simp), K.cell a1 (by simp), K.cell a2 (by simp), K.cell a3 (by simp), K⟩)
              have HLT := Lib.hid hlt
              clear hcj c4 a4 hja
              clear hlt
              go_wp2
              go_region_held3 (fun w' => w'.cell? ⟨bc, oc + j * 4, none⟩ = some (.int .i64 yk) ∧ w'.cell? ⟨bc, oc + j * 4 + 1, none⟩ = some (.string yt) ∧ w'.cell? ⟨bc, oc + j * 4 + 2, none⟩ = some (.slice A3 yr.length C3) ∧ w'.cell? ⟨bc, oc + j * 4 + 3, none⟩ = some (.int .i64 ya) ∧ w'.cell? ⟨ba, oa + j * 4, none⟩ = some (.int .i64 yk) ∧ w'.cell? ⟨ba, oa + j * 4 + 1, none⟩ = some (.string yt) ∧ w'.cell? ⟨ba, oa + j * 4 + 2, none⟩ = some (.slice A5 yr.length C5) ∧ w'.cell? ⟨ba, oa + j * 4 + 3, none⟩ = some (.int .i64 ya) ∧ Keep [] w4 w')
                (exact HS.out _ (by repeat (first | assumption | apply Keep.drewN | apply Keep.drew)))
                (first
                  | (go_at_call 18; refine (HSM.out _ (by repeat (first | assumption | apply Keep.drewN | apply Keep.drew))).mono ?_; rintro e w' ⟨rfl, K'⟩))
              have K5 : Keep [] w4 _ := ‹Keep [] w4 w'›
              go_wp2
              go_quiet (fail)
              go_wp2
              exact ⟨⟨j + 1, by have := HLT.out; omega, by go_num, K5.drewN _⟩, by simp [intOf]; have := HLT.out; omega⟩
            · have hja' : ¬ ((j : Int) < (a.length : Int)) := by omega
              have hge : decide (j < a.length) = false := by simp; omega
              have hja2 : (a.length : Int) ≤ (j : Int) := by omega
              obtain ⟨d, hd⟩ : ∃ d, d = j - a.length := ⟨_, rfl⟩
              have hsub : (j : Int) - (a.length : Int) = (d : Int) := by omega
              have hdb : d < b.length := by have := HCL.out; omega
              have hdb' : (d : Int) < (b.length : Int) := by omega
              have hwd : IntKind.i64.wrap (d : Int) = (d : Int) := by unfold IntKind.wrap; simp [IntKind.bits, IntKind.signed]; omega
              have hwj : IntKind.i64.wrap ((j : Int) - (a.length : Int)) = (d : Int) := by rw [hsub]; exact hwd
              have hd0 : (0 : Int) ≤ (d : Int) := by omega
              have hjn : a.length ≤ j := by omega
              have hjb : (j : Int) - (a.length : Int) < (b.length : Int) := by omega
              obtain ⟨bc, oc, A3, C3, T3, rfl, c0, c1, c2, c3, c4⟩ := toks_pick HTC.out j hlt
              obtain ⟨ba, oa, A5, C5, T5, rfl, a0, a1, a2, a3, a4⟩ := toks_pick HTB4.out d hdb
              have hcj : c[j] = shT (s.size + 2) b[d] := by
                have h : c[j]? = _ := congrArg (fun l => l[j]?) HCC.out
                rw [List.getElem?_append_right (by omega), List.getElem?_map, ← hd, List.getElem?_eq_getElem hlt, List.getElem?_eq_getElem hdb] at h
                exact Option.some.inj h
              have hya := HPb.out b[d] (List.getElem_mem hdb)
              rw [hcj] at c0 c1 c2 c3 c4
              generalize b[d] = y at c0 c1 c2 c3 c4 a0 a1 a2 a3 a4 hya
              obtain ⟨yk, yt, yr, ya⟩ := y
              simp only [shT] at c0 c1 c2 c3 c4 a0 a1 a2 a3 a4 hya
              rw [show ya + ((s.size + 2 : Nat) : Int) = ya + (s.size : Int) + 2 by omega] at c3
              have HSM : Hid (∀ w', Keep [] w4 w' → Calls Tryz.prog 18 #[.agg #[.int .i64 yk, .string yt, .slice A3 yr.length C3, .int .i64 (ya + (s.size : Int) + 2)], .agg #[.int .i64 yk, .string yt, .slice A5 yr.length C5, .int .i64 ya]] w' fun e w'' => e = .returned (.bool true) ∧ Keep [] w4 w'') := Lib.hid (fun w' K => (same_any T3 T5 ⟨yk, yt, yr, ya + (s.size : Int) + 2⟩ ⟨yk, yt, yr, ya⟩ _ _ w' (Rngs.mv0 c4 K) (Rngs.mv0 a4 K)).mono fun e w'' ⟨h1, h2⟩ => ⟨by rw [h1]; simp [sameT], K.trans h2⟩)
              have hy0 := hya.1
              have hy1 := hya.2
              have hw5 : IntKind.i64.wrap (ya + (s.size : Int)) = ya + (s.size : Int) := IntWalk.i64_in _ (by omega)
              have hw6 : IntKind.i64.wrap (ya + (s.size : Int) + 2) = ya + (s.size : Int) + 2 := IntWalk.i64_in _ (by omega)
              have HS : Hid (∀ w', Keep [] w4 w' → w'.cell? ⟨bc, oc + j * 4, none⟩ = some (.int .i64 yk) ∧ w'.cell? ⟨bc, oc + j * 4 + 1, none⟩ = some (.string yt) ∧ w'.cell? ⟨bc, oc + j * 4 + 2, none⟩ = some (.slice A3 yr.length C3) ∧ w'.cell? ⟨bc, oc + j * 4 + 3, none⟩ = some (.int .i64 (ya + (s.size : Int) + 2)) ∧ w'.cell? ⟨ba, oa + d * 4, none⟩ = some (.int .i64 yk) ∧ w'.cell? ⟨ba, oa + d * 4 + 1, none⟩ = some (.string yt) ∧ w'.cell? ⟨ba, oa + d * 4 + 2, none⟩ = some (.slice A5 yr.length C5) ∧ w'.cell? ⟨ba, oa + d * 4 + 3, none⟩ = some (.int .i64 ya) ∧ Keep [] w4 w') := Lib.hid (fun w' K => ⟨K.cell c0 (by simp), K.cell c1 (by simp), K.cell c2 (by simp), K.cell c3 (by simp), K.cell a0 (by simp), K.cell a1 (by simp), K.cell a2 (by simp), K.cell a3 (by simp), K⟩)
              have HLT := Lib.hid hlt
              clear hcj c4 a4 hya hd
              clear hlt
              go_wp2
              go_quiet (fail)
              go_wp2
              go_region_held3 (fun w' => w'.cell? ⟨bc, oc + j * 4, none⟩ = some (.int .i64 yk) ∧ w'.cell? ⟨bc, oc + j * 4 + 1, none⟩ = some (.string yt) ∧ w'.cell? ⟨bc, oc + j * 4 + 2, none⟩ = some (.slice A3 yr.length C3) ∧ w'.cell? ⟨bc, oc + j * 4 + 3, none⟩ = some (.int .i64 (ya + (s.size : Int) + 2)) ∧ w'.cell? ⟨ba, oa + d * 4, none⟩ = some (.int .i64 yk) ∧ w'.cell? ⟨ba, oa + d * 4 + 1, none⟩ = some (.string yt) ∧ w'.cell? ⟨ba, oa + d * 4 + 2, none⟩ = some (.slice A5 yr.length C5) ∧ w'.cell? ⟨ba, oa + d * 4 + 3, none⟩ = some (.int .i64 ya) ∧ Keep [] w4 w')
                (exact HS.out _ (by repeat (first | assumption | apply Keep.drewN | apply Keep.drew)))
                (first
                  | (go_at_call 18; refine (HSM.out _ (by repeat (first | assumption | apply Keep.drewN | apply Keep.drew))).mono ?_; rintro e w' ⟨rfl, K'⟩))
              have K5 : Keep [] w4 _ := ‹Keep [] w4 w'›
              go_wp2
              all_goals first
                | exact ⟨⟨j + 1, by have := HLT.out; omega, by go_num, K5⟩, by simp [intOf]; have := HLT.out; omega⟩
                | (exfalso; rename_i hx; rw [hw5, hw6] at hx; simp at hx)
          · have hlt' : ¬ ((j : Int) < (c.length : Int)) := by omega
            go_wp2
            go_ret
            exact ⟨rfl, HK4.out.trans Kr⟩
      · have hf1 : ((f : Int) != 0) = true := by simp; omega
        by_cases hg : g = 7
        · subst hg
          clear hB
          by_cases hgf : f = 7
          · subst hgf
            by_cases hx : (x : Int) = (q : Int) + (s.size : Int) + 2
            · go_wp2
              go_ret
              exact ⟨rfl, HK4.out⟩
            · have hx1 : ((x : Int) == (q : Int) + (s.size : Int) + 2) = false := by simpa using hx
              go_wp2
              go_ret
              exact ⟨rfl, HK4.out⟩
          · have hgf1 : ((7 : Int) == (f : Int)) = false := by simp; omega
            go_wp2
            go_ret
            exact ⟨rfl, HK4.out⟩
        · have hgx : g = f ∧ x = q + (s.size + 2) := by rcases hB with ⟨h, _⟩ | ⟨_, h⟩ | ⟨h, _⟩ <;> first | exact h | omega
          clear hB
          obtain ⟨rfl, rfl⟩ := hgx
          have hx1 : (((q + (s.size + 2) : Nat) : Int) == (q : Int) + (s.size : Int) + 2) = true := by simp; omega
          go_wp2
          go_ret
          exact ⟨rfl, HK4.out⟩
  · have he1 : ((e : Int) != 0) = true := by simp; omega
    clear HB
    go_wp2
    go_ret
    exact ⟨rfl, HK4.out⟩
end Go.Proofs.YtmfjddhckblbhaaGreatDoor
namespace Go.Proofs.YtmfjddhckblbhaaGreatDoor.RowTB
open Go.ChangeShapes Go.WideShapes Go.ChangeAt Go.RowKit Go.Joins Go.Deep Go.ChangeMaps Go.Proofs.YtmfjddhckblbhaaGreatDoor.RowS

def zeroA : Array Value := #[.string ⟨#[]⟩, .string ⟨#[]⟩]
set_option maxRecDepth 100000 in
theorem laid_met (os : Os) : laidMet Tryz.prog laid5 ((laidWorld os).forCall (fun _ _ => 0) ⟨#[], zeroA, []⟩).memory :=
  laidMet_of_run' 8 (by kernel_rfl) (by kernel_rfl)
theorem reads (os : Os) {H : Type} (enc : TypeId × Value → H) : ∃ places, DataW.whole enc Tryz.prog ((laidWorld os).forCall (fun _ _ => 0) ⟨#[], zeroA, []⟩).memory Tryz.f5.params.toList Rows.tokenBlankSpec.vars false zeroA.toList 8 = some ([.lit (.string []), .lit (.string [])], [], places) :=
  ⟨[], by kernel_rfl⟩
set_option maxRecDepth 100000 in
set_option maxHeartbeats 1000000 in
theorem contract (H : Type) (enc : TypeId × Value → H) (W : World) (args : Array Value) (ds gs : List (DataW H)) (before : List MemPlace) (base : Nat)
    (hval : ∀ (j : Nat) t v, Tryz.f5.params[j]? = some t → args[j]? = some v → Value.okWide Tryz.prog W .any base t v)
    (hW : DataW.Whole enc Tryz.prog Tryz.f5.params.toList Rows.tokenBlankSpec.vars false W args.toList ds gs before) (HT : Tab W ∧ 5 < W.heap.size) :
    Calls Tryz.prog 5 args W fun e W' => ∃ v, e = .returned v ∧ Rows.tokenBlankSpec.post enc Tryz.prog Tryz.f5 false true false false W args v W' := by
  have hW' := hW
  obtain ⟨p, q, hA0, hV, rfl, hfz, hnd⟩ := hW
  have hA : DataW.TrodAll enc Tryz.prog W 0 (fun _ => true) true Tryz.f5.params.toList args.toList ds p := hA0
  rw [Tryz.params5] at hA hval
  obtain ⟨v0, vs0, d0, ds0, p0, q0, hargs, rfl, rfl, h0, r0⟩ := trodAll_cons hA
  obtain ⟨v1, vs1, d1, ds1, p1, q1, rfl, rfl, rfl, h1, r1⟩ := trodAll_cons r0
  obtain ⟨rfl, rfl, rfl⟩ := trodAll_nil r1
  obtain rfl : args = #[v0, v1] := by cases args; simp_all
  obtain ⟨rfl, rfl⟩ := trodVars_none hV
  obtain ⟨s0, rfl, rfl, rfl, w0⟩ := open_string Tryz.underlying9 (hval 0 _ v0 rfl rfl) h0
  obtain ⟨s1, rfl, rfl, rfl, w1⟩ := open_string Tryz.underlying9 (hval 1 _ v1 rfl rfl) h1
  clear hA0
  refine (tokenBlank_walk s0 s1 W HT.1 HT.2).mono fun e W' ⟨he, kp⟩ => ?_
  have bel := kp.below
  subst he
  exact ⟨_, rfl, _, _, _, [], _, [], hW', trodAll_mk1 (shut_bool Tryz.underlying4 _), (trodAll_cons_mk (shut_string Tryz.underlying9 w0) (trodAll_cons_mk (shut_string Tryz.underlying9 w1) trodAll_mk0)), rfl, bel.frame _, fun h => by cases h⟩

set_option maxRecDepth 100000 in
theorem lifted (os : Os) (started : os.Started) (H : Type) (enc : TypeId × Value → H) (F : Stop.Interp) :
    ReturnsInHanded {} Tryz.checked os 5 .any ((OpenSpec.ofChange Rows.tokenBlankSpec).preRow enc Tryz.prog Tryz.f5 Rows.tokenBlankRow.domain false Rows.tokenBlankRow.laid) (((OpenSpec.ofChange Rows.tokenBlankSpec).at F).post enc Tryz.prog Tryz.f5 false true false false) := by
  obtain ⟨places, hx⟩ := reads os enc
  refine returnsInHanded_of_row (C := Tryz.checked) (s := OpenSpec.ofChange Rows.tokenBlankSpec) own started (by kernel_rfl) Tryz.func5
    (witness_row_at (enc := enc) (C := Tryz.checked) false (laidWorld os) zeroA rfl (by kernel_rfl) (by kernel_rfl) (by kernel_rfl)
      (OpenSpec.preRow_of_cond 8 hx (by kernel_rfl) (fun k hk => by cases hk) (by kernel_rfl) (laid_met os))) ?_
  intro W base args ds gs before hval hW _ _ _ hL _ _
  exact contract H enc W args ds gs before base hval hW (tab_of (show laidMet Tryz.prog laid5 W from hL))

theorem said : Rows.TokenBlankSaid :=
  OpenClaim.holds_of_cond 5 Tryz.f5 rfl rfl rfl rfl rfl rfl rfl ⟨rfl, rfl, rfl, rfl, rfl⟩ rfl rfl rfl rfl rfl (by kernel_rfl) Tryz.func5 (by kernel_rfl)
    (of_decide_eq_true (by kernel_rfl)) (by unfold Func.isWrapper; first | (rw [if_pos (by decide +kernel)]; kernel_rfl) | (rw [if_neg (by decide +kernel)]; exact ⟨rfl, rfl⟩))
    (fun os started H enc _ F => by rw [OpenClaim.pre_eq_preRow]; exact lifted os started H enc F)

theorem plain (f : FuncId) (fn : Func) (hf : Tryz.pinned.checked.prog.funcNamed "exegete/exegetelaw05.TokenBlank" = some f) (hfn : Tryz.pinned.checked.prog.funcs[f]? = some fn) :
    false = Tryz.pinned.checked.prog.looks [] ∧ ∀ (j : Nat) t, fn.params[j]? = some t → Tryz.pinned.checked.prog.wantsStandIn t = false := by
  obtain rfl : f = 5 := Option.some.inj ((show Tryz.prog.funcNamed "exegete/exegetelaw05.TokenBlank" = some 5 by kernel_rfl).symm.trans hf) |>.symm
  obtain rfl : fn = Tryz.f5 := (Option.some.inj (Tryz.func5.symm.trans hfn)).symm
  refine ⟨by kernel_rfl, fun j t ht => ?_⟩
  rw [Tryz.params5] at ht
  have hm : t = 9 ∨ t = 9 := by simpa [or_assoc] using Array.mem_of_getElem? ht
  rcases hm with rfl | rfl
  · exact (show Tryz.prog.wantsStandIn 9 = false by kernel_rfl)
  · exact (show Tryz.prog.wantsStandIn 9 = false by kernel_rfl)

theorem card : Rows.TokenBlankCardSaid :=
  Claim7.holds_tied_plain_at .later [] _ _ _ _ said (fun _ h => by cases h) (by kernel_rfl) (fun _ h => by cases h) tokenBlank_row_tie rfl ⟨rfl, rfl⟩ (by kernel_rfl) rfl plain (by kernel_rfl)
end Go.Proofs.YtmfjddhckblbhaaGreatDoor.RowTB
namespace Go.Proofs.YtmfjddhckblbhaaGreatDoor
/-- The card of the law. -/
theorem tokenBlank_card : Rows.TokenBlankCardSaid := RowTB.card
#print axioms tokenBlank_card
end Go.Proofs.YtmfjddhckblbhaaGreatDoor
