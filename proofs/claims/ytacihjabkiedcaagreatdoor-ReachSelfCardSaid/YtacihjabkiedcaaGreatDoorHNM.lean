/- The law NullMore, as its row and its card state it: for every input it answers true and the arguments read as before. -/
import Derived.Test.YtacihjabkiedcaaGreatDoorHNE
import Derived.Test.YtacihjabkiedcaaGreatDoorH17
import Derived.Deep.RegionHeld3
import Derived.Deep.DeepCutAuto
import Derived.Test.YtacihjabkiedcaaGreatDoorH19
set_option linter.unusedVariables false
set_option linter.unusedSimpArgs false
namespace Go.Proofs.YtacihjabkiedcaaGreatDoor
open Go Go.RowKit Go.MapKept

theorem moreP_sub (ps : List ProdS) (n : Nat) (l : List SymS) : ∀ (k : Nat) p, ps[k]? = some p → ∃ q, (moreP ps n l)[k]? = some q ∧ ∀ a ∈ p.a, a ∈ q.a := by
  intro k p hp
  have hk : k < ps.length := (List.getElem?_eq_some_iff.1 hp).1
  unfold moreP
  split
  · rename_i q hq
    have hn : n < ps.length := (List.getElem?_eq_some_iff.1 hq).1
    by_cases e : n = k
    · subst e
      rw [hp] at hq
      obtain rfl := Option.some.inj hq
      exact ⟨_, by rw [List.getElem?_set_self hn], fun a ha => List.mem_append_left _ ha⟩
    · exact ⟨p, by rw [List.getElem?_set_ne e]; exact hp, fun a ha => ha⟩
  · exact ⟨p, hp, fun a ha => ha⟩
theorem moreP_emp (ps : List ProdS) (n : Nat) (l : List SymS) (x : Int) (h : x ∈ emptyF ps) : x ∈ emptyF (moreP ps n l) :=
  (mem_emptyF _ _).2 (emp_mono (moreP_sub ps n l) x ((mem_emptyF _ _).1 h))
theorem moreP_nil (ps : List ProdS) (n : Nat) (h : n < ps.length) : (n : Int) ∈ emptyF (moreP ps n []) := by
  refine (mem_emptyF _ _).2 (emp_clo _ n ⟨ps[n].a ++ [[]], ps[n].marks, ps[n].nt⟩ (by rw [moreP_eq ps n [] h, List.getElem?_set_self h]) [] (by simp) (fun s hs => by simp at hs))
theorem info_prod2 : (Tryz.prog.info? 37).map (fun i => (i.zero, i.size, i.bytes)) = some (some (.agg #[.slice none 0 0, .int .i64 0, .slice none 0 0]), 3, 56) := by kernel_rfl
theorem info_alt2 : (Tryz.prog.info? 40).map (fun i => (i.zero, i.size, i.bytes)) = some (some (.slice none 0 0), 1, 24) := by kernel_rfl
set_option maxRecDepth 20000 in
set_option maxHeartbeats 4000000 in
theorem nullMore_walk (A K AA : Option Addr) (C m D CA : Nat) (ps : List ProdS) (i : Int) (a : List SymS) (w : World) (HP : Prods [] w (.slice A ps.length C) ps) (hmk : m ≤ 9223372036854775807) (HA : Syms [] w (.slice AA a.length CA) a) :
    Calls Tryz.prog 9 #[.agg #[.slice A ps.length C, .slice K m D], .int .i64 i, .slice AA a.length CA] w fun e w' => e = .returned (.bool true) ∧ Keep [] w w' := by
  have K0 := (Keep.refl [] w).alloc (.cells #[.slice A ps.length C, .slice K m D] 25)
  have HP0 : Prods [] _ (.slice A ps.length C) ps := HP.mv0 K0
  have B0 := Blk.new w #[.slice A ps.length C, .slice K m D] 25
  have hla := (SlOf.len HA).2.1
  have HAA := Lib.hid HA
  clear HP HA
  go_enter Tryz.func9, Tryz.ntmps9
  go_wp2_with fail
  refine (awake9_any _).mono ?_
  rintro e w1 ⟨rfl, K1⟩
  have B1 := B0.keep K1 (by simp)
  have b1 := B1.cell
  have HP1 : Prods [] w1 (.slice A ps.length C) ps := HP0.mv0 K1
  go_wp2_with fail
  refine (few_any [] A K C m D ps _ HP1 hmk).mono ?_
  rintro e w2 ⟨⟨fw, rfl⟩, K2⟩
  have B2 := B1.keep K2 (by simp)
  have b2 := B2.cell
  have HP2 : Prods [] w2 (.slice A ps.length C) ps := HP1.mv0 K2
  have KF2 := (K0.trans K1).trans K2
  clear HP0 HP1 B0 B1 b1
  cases fw with
  | false =>
    go_wp2
    go_ret
    exact ⟨rfl, KF2⟩
  | true =>
    have hc3 := may_any [] (.slice A ps.length C) (.slice K m D) ps _ HP2
    have HC3 := Lib.hid hc3
    clear hc3
    go_wp2_with fail
    refine HC3.out.mono ?_
    rintro e w3 ⟨rfl, K3⟩
    have B3 := B2.keep K3 (by simp)
    have b3 := B3.cell
    have HP3 : Prods [] w3 (.slice A ps.length C) ps := HP2.mv0 K3
    have KF3 := KF2.trans K3
    clear HP2 B2 b2 HC3
    cases hg : gmay ps with
    | false =>
      go_wp2
      go_ret
      exact ⟨rfl, KF3⟩
    | true =>
      by_cases hi0 : i < 0
      · clear HP3
        go_wp2
        go_ret
        exact ⟨rfl, KF3⟩
      · by_cases hi1 : (ps.length : Int) ≤ i
        · have hi0' : 0 ≤ i := by omega
          clear HP3 hi0
          go_wp2
          go_ret
          exact ⟨rfl, KF3⟩
        · obtain ⟨n, rfl⟩ : ∃ n : Nat, i = n := ⟨i.toNat, by omega⟩
          have hn : n < ps.length := by omega
          have hn' : (n : Int) < (ps.length : Int) := by omega
          have hd0 : decide ((n : Int) < 0) = false := by simp
          have hd1 : decide (ps.length ≤ n) = false := by simp; omega
          clear hi0 hi1
          by_cases ha : 40 < a.length
          · have ha' : (40 : Int) < (a.length : Int) := by omega
            clear HP3
            go_wp2
            go_ret
            exact ⟨rfl, KF3⟩
          · have ha' : (a.length : Int) ≤ 40 := by omega
            have ha0 : a.length ≤ 40 := by omega
            obtain ⟨hl0, hl1⟩ := gmay_len hg
            obtain ⟨ip, hip, hip0, hip1, hip2⟩ := info_parts info_prod2
            have HA3 := HAA.out.mv0 KF3
            obtain ⟨bp, op, A2, C2, N2, F2, rfl, _, p0, _, _, hAl, _⟩ := HP3.pick n hn
            obtain ⟨hal0, hal1, _⟩ := gmay_alt hg ps[n] (List.getElem_mem _)
            have hbl : bp < w3.heap.size := World.block_lt_of_cell? w3 _ p0
            have hlt := B3.lt
            obtain ⟨ia, hia, hia0, hia1, hia2⟩ := info_parts info_alt2
            have HP3' := Lib.hid HP3
            have HPX := Lib.hid (Prods.mv (S' := [w3.heap.size]) HP3 ((Keep.refl [] w3).alloc (.cells #[.slice (some ⟨bp, op, none⟩) ps.length C, .slice K m D] 25)) (by simp))
            clear HP3 HAA
            go_wp2_with (at_builtin; refine Hid.out ?_)
            refine Lib.hid ?_
            refine wpList_append_new prodRow_stab prodRow_one rfl _ _ 22 rfl Tryz.underlying22 hip hip0 hip1 hip2 rfl (by omega) [w3.heap.size] w3.heap.size (some ⟨bp, op, none⟩) ps.length C rfl rfl HPX.out (by omega) (by omega) (by simp) ?_
            intro AX CX wX hOX hKX hnX
            obtain ⟨g, rfl, hg1, hg2⟩ := hOX.form (by omega)
            have hgg : g = w3.heap.size + 1 := by simpa [ownB, Value.ownBlock] using hnX g (by simp [ownB, Value.ownBlock])
            have K3X : Keep [] w3 wX := ((Keep.refl [] w3).alloc _).trans hKX
            have B3X := B3.keep K3X (by simp)
            have B9X := (Blk.new w3 #[.slice (some ⟨bp, op, none⟩) ps.length C, .slice K m D] 25).keep hKX (by simp)
            have b9 := B9X.cell
            have f9 := B9X.frozen
            have HB3X := Lib.hid B3X
            have HB9X := Lib.hid B9X
            have HOX := Lib.hid hOX
            have HKX := Lib.hid K3X
            have hgx : w3.heap.size + 1 < wX.heap.size := by omega
            have HGG := Lib.hid hgg
            clear B3X B9X hOX hKX hnX hgg hg1 hg2 K3X b3
            have HAl := Lib.hid hAl
            have HA0 := Lib.hid HA3
            have HP0' := Lib.hid p0
            clear hAl HA3 p0
            go_wp2
            obtain ⟨W7, hW7⟩ : ∃ W, W = wX.setCell ⟨w3.heap.size, 0, none⟩ (.slice (some ⟨g, 0, none⟩) ps.length CX) := ⟨_, rfl⟩
            rw [← hW7]
            clear b9 f9
            have KS7 : Keep [w3.heap.size] wX W7 := by rw [hW7]; exact (Keep.refl _ _).setCell (.inl (by simp)) _
            have B9 : Blk W7 w3.heap.size #[.slice (some ⟨g, 0, none⟩) ps.length CX, .slice K m D] 25 := by rw [hW7]; simpa using HB9X.out.set 0 (.slice (some ⟨g, 0, none⟩) ps.length CX)
            have B3' := HB3X.out.keep KS7 (by simp; omega)
            have OX7 := HOX.out.move prodRow_stab (S' := [w3.heap.size]) KS7 (fun x hx => .inl ⟨hx, by have := HGG.out; simp at hx; simp [ownB, Value.ownBlock]; omega⟩) (fun x hx => .inl hx)
            have K7 : Keep [] w3 W7 := HKX.out.then KS7 (by simp)
            have hX7 : Prods [] W7 (.slice (some ⟨g, 0, none⟩) ps.length CX) ps := OX7.read prodRow_stab (by simp) (by simp)
            obtain ⟨bg, og, A3, C3, N3, F3, he, _, gc, _, _, _, _⟩ := hX7.pick n hn
            simp only [Option.some.injEq, Addr.mk.injEq, and_true] at he
            obtain ⟨rfl, rfl⟩ := he
            rw [Nat.zero_add] at gc
            have gf := OX7.frozen (by omega) (n * 3)
            have hl7 : g < W7.heap.size ∧ w3.heap.size < W7.heap.size := by have := HGG.out; have := KS7.size; omega
            have p7 := Keep.cell (T := []) K7 HP0'.out (by simp)
            have hal7 := HAl.out.mv0 K7
            have hA7 := HA0.out.mv0 K7
            have hkp : ∀ w', Keep [g] W7 w' → w'.cell? ⟨w3.heap.size, 0, none⟩ = some (.slice (some ⟨g, 0, none⟩) ps.length CX) ∧ w'.cell? ⟨w.heap.size, 0, none⟩ = some (.slice (some ⟨bp, op, none⟩) ps.length C) ∧ w'.cell? ⟨bp, op + n * 3, none⟩ = some (.slice A2 ps[n].a.length C2) := fun w' K' => by
              have hgg := HGG.out
              exact ⟨(B9.keep K' (by simp; omega)).cell 0, (B3'.keep K' (by simp; omega)).cell 0, Keep.cell (T := [g]) K' p7 (by simp; omega)⟩
            have hgs : ∀ w', Keep [] W7 w' → w'.cell? ⟨g, n * 3, none⟩ = some (.slice A3 ps[n].a.length C3) ∧ w'.frozen? ⟨g, n * 3, none⟩ = false := fun w' K' =>
              ⟨Keep.cell (T := []) K' gc (by simp), (World.frozen?_of_block (a := ⟨g, n * 3, none⟩) (K'.block g hl7.1 (by simp))).trans gf⟩
            have HGS := Lib.hid hgs
            clear hgs
            have HKP := Lib.hid hkp
            have HAL := Lib.hid (SlOf.move (S' := [g, w3.heap.size]) HAl.out altRow_stab (by omega) K7 (by simp) (fun x hx => by have := HGG.out; simp at hx; rcases hx with rfl | rfl <;> exact .inr (by omega)))
            have Kd := (Keep.refl [] W7).drew
            have HW7 := Lib.hid hW7
            have HOX7 := Lib.hid OX7
            have HK7 := Lib.hid K7
            have HL7 := Lib.hid hl7
            have HAA7 := Lib.hid hA7
            have HB9 := Lib.hid B9
            have HB3 := Lib.hid B3'
            clear hkp OX7 K7 hX7 gc gf p7 hal7 hA7 KS7 B9 B3' hW7 hl7 HOX HB9X HB3X HKX
            have HS9 := Lib.hid (fun (x : Nat) (hx : x ∈ [g, w3.heap.size]) => (by have := HGG.out; have := HL7.out; simp at hx; omega : w3.heap.size ≤ x ∧ x < W7.heap.size))
            go_cut [] from 51 to 65 (fun wx => AltsIn [w3.heap.size] W7 w3.heap.size g CX ps n (ps[n].a ++ [a]) wx)
            case first =>
              first
                | (go_region_held3 (fun w' => w'.cell? ⟨w3.heap.size, 0, none⟩ = some (.slice (some ⟨g, 0, none⟩) ps.length CX) ∧ w'.cell? ⟨w.heap.size, 0, none⟩ = some (.slice (some ⟨bp, op, none⟩) ps.length C) ∧ w'.cell? ⟨bp, op + n * 3, none⟩ = some (.slice A2 ps[n].a.length C2))
                  (first | exact HKP.out _ (Keep.mono (S := []) (by assumption) (by simp)) | exact HKP.out _ (Keep.mono (S := []) (Keep.alloc (by assumption) _) (by simp)) | exact HKP.out _ (Keep.mono (S := []) (((Keep.refl [] W7).alloc _).drew) (by simp)) | exact HKP.out _ (Keep.setCell (Keep.mono (S := []) (by assumption) (by simp)) (.inl (by simp)) _))
                  (first
                    | (refine step_append_new altRow_stab altRow_one rfl _ _ 34 rfl Tryz.underlying34 hia hia0 hia1 hia2 rfl (by omega) [g, w3.heap.size] W7.heap.size A2 ps[n].a.length C2 rfl rfl (SlOf.move HAL.out altRow_stab (by omega) (by first | assumption | exact ((Keep.refl [] W7).alloc _).drew : Keep [] W7 _) (by simp) (fun x hx => .inl hx)) (by omega) (by omega) (by simp) ?_; intro A8 C8 w8 O8' K8 n8'; have O8 := Lib.hid O8'; have n8 := Lib.hid n8'; clear O8' n8'; have K9 : Keep [] W7 _ := Keep.trans (by first | assumption | exact ((Keep.refl [] W7).alloc _).drew) K8)
                    | (refine step_append_data altRow_stab altRow_one rfl _ _ 34 rfl Tryz.underlying34 hia hia0 hia1 hia2 rfl (by omega) (S := [g, w3.heap.size]) (base := W7.heap.size) (v := .slice A8 ps[n].a.length C8) (A := some ⟨w8.heap.size, 0, none⟩) (m := 1) (C := 1) (xs := ps[n].a) (ys := [a]) rfl rfl (O8.out.move altRow_stab (S' := [g, w3.heap.size]) ((Keep.refl [] w8).alloc _) (by simp) (fun x hx => .inl hx))
                        (one_src HA0.out (HK7.out.trans (K9.alloc _)) (fun x hx => by rcases List.mem_append.1 hx with hx | hx; have := (O8.out.base x hx).1; have := HL7.out.2; omega; exact (HS9.out x hx).1) (Blk.new w8 _ 40) (fun hx => by rcases List.mem_append.1 hx with hx | hx; have := (O8.out.base _ hx).2; omega; have := (HS9.out _ hx).2; have := K9.size; omega)) (by simp; omega) (by simp; omega) (by have := K9.size; simp; omega) ?_; intro A9 C9 w9 O9' K9' n9; have O9 := Lib.hid O9'; have K10 : Keep [] W7 w9 := (K9.alloc _).then K9' (fun x hx => .inr (O8.out.base x hx).1); clear O9' n9; obtain ⟨gc9, gf9⟩ := HGS.out _ K10)
                    | (refine step_append_data altRow_stab altRow_one rfl _ _ 34 rfl Tryz.underlying34 hia hia0 hia1 hia2 rfl (by omega) (S := [g, w3.heap.size]) (base := W7.heap.size) (v := .slice A8 ps[n].a.length C8) (A := some ⟨W7.heap.size, 0, none⟩) (m := 1) (C := 1) (xs := ps[n].a) (ys := [a]) rfl rfl O8.out
                        (one_src HA0.out (HK7.out.trans K9) (fun x hx => by rcases List.mem_append.1 hx with hx | hx; have := (O8.out.base x hx).1; have := HL7.out.2; omega; exact (HS9.out x hx).1) (((Blk.new W7 _ 40).drew).keep K8 (by simp)) (fun hx => by rcases List.mem_append.1 hx with hx | hx; have := n8.out _ hx; simp at this; have := (HS9.out _ hx).2; omega)) (by simp; omega) (by simp; omega) (by have := K9.size; omega) ?_; intro A9 C9 w9 O9' K9' n9; have O9 := Lib.hid O9'; have K10 : Keep [] W7 w9 := K9.then K9' (fun x hx => .inr (O8.out.base x hx).1); clear O9' n9; obtain ⟨gc9, gf9⟩ := HGS.out _ K10)))
                | fail
              all_goals
                go_wp2_with fail
                go_meet
                exact altsIn (al := ps[n].a ++ [a]) HOX7.out hn K10 (fun x hx => (HS9.out x hx).2) (by simp) O9.out
            case rest =>
              obtain ⟨wo, rfl⟩ : ∃ wo : World, wo = wc := ⟨_, rfl⟩
              obtain ⟨KC, p, hp, OXC⟩ := hcut
              obtain rfl : ps[n] = p := by rw [List.getElem?_eq_getElem hn] at hp; exact Option.some.inj hp
              have K3c : Keep [] w3 wo := HK7.out.then KC (fun x hx => by have := HGG.out; simp at hx; exact .inr (by omega))
              have hgg := HGG.out
              have hl7 := HL7.out
              have B9c := HB9.out.keep KC (by simp; omega)
              have B3c := HB3.out.keep KC (by simp; omega)
              have hszc : W7.heap.size ≤ wo.heap.size := KC.size
              obtain ⟨xs, hxs⟩ : ∃ xs, xs = ps.set n ⟨ps[n].a ++ [a], ps[n].marks, ps[n].nt⟩ := ⟨_, rfl⟩
              rw [← hxs] at OXC
              have hxm : xs = moreP ps n a := by rw [hxs, moreP_eq ps n a hn]
              have hxl : xs.length = ps.length := by rw [hxm, moreP_len]
              have hxn : ∀ h : n < xs.length, xs[n] = ⟨ps[n].a ++ [a], ps[n].marks, ps[n].nt⟩ := fun h => by simp [hxs]
              have hys : xs.set n ⟨ps[n].a ++ [[]], ps[n].marks, ps[n].nt⟩ = moreP ps n [] := by rw [hxs, moreP_eq ps n [] hn, List.set_set]
              have hXc : Prods [] wo (.slice (some ⟨g, 0, none⟩) ps.length CX) xs := by
                have h := OXC
                rw [← hxl] at h ⊢
                exact h.read prodRow_stab (by simp) (by simp)
              have HXY := Lib.hid (Prods.mv (S' := [wo.heap.size]) hXc ((Keep.refl [] wo).alloc (.cells #[.slice (some ⟨g, 0, none⟩) ps.length CX, .slice K m D] 25)) (by simp))
              have HXc := Lib.hid hXc
              have HXM := Lib.hid hxm
              have HXN := Lib.hid hxn
              have HYS := Lib.hid hys
              have HK3c := Lib.hid K3c
              have hb9 : w3.heap.size < wo.heap.size ∧ w.heap.size < wo.heap.size ∧ g < wo.heap.size ∧ bp < wo.heap.size := by omega
              obtain ⟨hb9a, hb9b, hb9c, hb9d⟩ := hb9
              have c9 := B9c.cell
              have f9c := B9c.frozen
              have HB9c := Lib.hid B9c
              have HB3c := Lib.hid B3c
              have HHH := Lib.hid (⟨hgg, hl7⟩ : _ ∧ _)
              clear hxs hxm hxn hys hXc OXC KC hp B9c B3c K3c HB9 HB3 HOX7 HAL HGS HKP HS9 HPX HW7 hgg hl7
              go_wp2_with (at_builtin; refine Hid.out ?_)
              refine Lib.hid ?_
              refine wpList_append_new prodRow_stab prodRow_one rfl _ _ 22 rfl Tryz.underlying22 hip hip0 hip1 hip2 rfl (by omega) [wo.heap.size] wo.heap.size (some ⟨g, 0, none⟩) ps.length CX rfl rfl HXY.out (by omega) (by omega) (by simp) ?_
              intro AY CY wY hOY hKY hnY
              obtain ⟨g2, rfl, hg1, hg2⟩ := hOY.form (by omega)
              have hgg2 : g2 = wo.heap.size + 1 := by simpa [ownB, Value.ownBlock] using hnY g2 (by simp [ownB, Value.ownBlock])
              rw [hxl] at hOY ⊢
              have KcY : Keep [] wo wY := ((Keep.refl [] wo).alloc _).trans hKY
              have B3Y := HB3c.out.keep KcY (by simp)
              have B9Y := HB9c.out.keep KcY (by simp)
              have BYY := (Blk.new wo #[.slice (some ⟨g, 0, none⟩) ps.length CX, .slice K m D] 25).keep hKY (by simp)
              have b10 := BYY.cell
              have f10 := BYY.frozen
              have HB3Y := Lib.hid B3Y
              have HB9Y := Lib.hid B9Y
              have HBYY := Lib.hid BYY
              have HOY := Lib.hid hOY
              have HKY := Lib.hid KcY
              have hgy : wo.heap.size + 1 < wY.heap.size := by omega
              have HGY := Lib.hid hgg2
              clear B3Y B9Y BYY hOY hKY hnY hgg2 hg1 hg2 KcY c9 f9c
              have hnx : n < xs.length := by omega
              go_wp2
              obtain ⟨WA, hWA⟩ : ∃ W, W = wY.setCell ⟨wo.heap.size, 0, none⟩ (.slice (some ⟨g2, 0, none⟩) ps.length CY) := ⟨_, rfl⟩
              rw [← hWA]
              clear b10 f10
              have KSA : Keep [wo.heap.size] wY WA := by rw [hWA]; exact (Keep.refl _ _).setCell (.inl (by simp)) _
              have B9 : Blk WA wo.heap.size #[.slice (some ⟨g2, 0, none⟩) ps.length CY, .slice K m D] 25 := by rw [hWA]; simpa using HBYY.out.set 0 (.slice (some ⟨g2, 0, none⟩) ps.length CY)
              have B3' := HB3Y.out.keep KSA (by simp; omega)
              have OYA := HOY.out.move prodRow_stab (S' := [wo.heap.size]) KSA (fun x hx => .inl ⟨hx, by have := HGY.out; simp at hx; simp [ownB, Value.ownBlock]; omega⟩) (fun x hx => .inl hx)
              have KA : Keep [] wo WA := HKY.out.then KSA (by simp)
              have hYA : Prods [] WA (.slice (some ⟨g2, 0, none⟩) ps.length CY) xs := OYA.read prodRow_stab (by simp) (by simp)
              obtain ⟨bg, og, A3, C3, N3, F3, he, _, gcA, _, _, _, _⟩ := hYA.pick n hnx
              simp only [Option.some.injEq, Addr.mk.injEq, and_true] at he
              obtain ⟨rfl, rfl⟩ := he
              rw [Nat.zero_add] at gcA
              have gfA := OYA.frozen (by omega) (n * 3)
              have hlA : g2 < WA.heap.size ∧ wo.heap.size < WA.heap.size := by have := HGY.out; have := KSA.size; omega
              have pA := Keep.cell (T := []) (HK3c.out.trans KA) HP0'.out (by simp)
              have hkp : ∀ w', Keep [g2] WA w' → w'.cell? ⟨wo.heap.size, 0, none⟩ = some (.slice (some ⟨g2, 0, none⟩) ps.length CY) ∧ w'.cell? ⟨w.heap.size, 0, none⟩ = some (.slice (some ⟨bp, op, none⟩) ps.length C) ∧ w'.cell? ⟨bp, op + n * 3, none⟩ = some (.slice A2 ps[n].a.length C2) := fun w' K' => by
                have hgg := HGY.out
                exact ⟨(B9.keep K' (by simp; omega)).cell 0, (B3'.keep K' (by simp; omega)).cell 0, Keep.cell (T := [g2]) K' pA (by simp; omega)⟩
              have hgs : ∀ w', Keep [] WA w' → w'.cell? ⟨g2, n * 3, none⟩ = some (.slice A3 xs[n].a.length C3) ∧ w'.frozen? ⟨g2, n * 3, none⟩ = false := fun w' K' =>
                ⟨Keep.cell (T := []) K' gcA (by simp), (World.frozen?_of_block (a := ⟨g2, n * 3, none⟩) (K'.block g2 hlA.1 (by simp))).trans gfA⟩
              have HGS := Lib.hid hgs
              clear hgs
              have HKP := Lib.hid hkp
              have HAL := Lib.hid (SlOf.move (S' := [g2, wo.heap.size]) HAl.out altRow_stab (by omega) (HK3c.out.trans KA) (by simp) (fun x hx => by have := HGY.out; have := HK3c.out.size; simp at hx; rcases hx with rfl | rfl <;> exact .inr (by omega)))
              have Kd := (Keep.refl [] WA).drew
              have HWA := Lib.hid hWA
              have HOYA := Lib.hid (show OwnL ProdRow [wo.heap.size] WA wo.heap.size 37 3 (.slice (some ⟨g2, 0, none⟩) xs.length CY) xs by rw [hxl]; exact OYA)
              have HKA := Lib.hid KA
              have HLA := Lib.hid hlA
              have HB9 := Lib.hid B9
              have HB3 := Lib.hid B3'
              clear hkp OYA KA hYA gcA gfA pA KSA B9 B3' hWA hlA HOY HBYY HB3Y HKY
              have HSA := Lib.hid (fun (x : Nat) (hx : x ∈ [g2, wo.heap.size]) => (by have := HGY.out; have := HLA.out; simp at hx; omega : wo.heap.size ≤ x ∧ x < WA.heap.size))
              go_cut [] from 71 to 84 (fun wx => AltsIn [wo.heap.size] WA wo.heap.size g2 CY xs n (ps[n].a ++ [[]]) wx)
              case first =>
                first
                  | (go_region_held3 (fun w' => w'.cell? ⟨wo.heap.size, 0, none⟩ = some (.slice (some ⟨g2, 0, none⟩) ps.length CY) ∧ w'.cell? ⟨w.heap.size, 0, none⟩ = some (.slice (some ⟨bp, op, none⟩) ps.length C) ∧ w'.cell? ⟨bp, op + n * 3, none⟩ = some (.slice A2 ps[n].a.length C2))
                    (first | exact HKP.out _ (Keep.mono (S := []) (by assumption) (by simp)) | exact HKP.out _ (Keep.mono (S := []) (Keep.alloc (by assumption) _) (by simp)) | exact HKP.out _ (Keep.mono (S := []) (((Keep.refl [] WA).alloc _).drew) (by simp)) | exact HKP.out _ (Keep.setCell (Keep.mono (S := []) (by assumption) (by simp)) (.inl (by simp)) _))
                    (first
                      | (refine step_append_new altRow_stab altRow_one rfl _ _ 34 rfl Tryz.underlying34 hia hia0 hia1 hia2 rfl (by omega) [g2, wo.heap.size] WA.heap.size A2 ps[n].a.length C2 rfl rfl (SlOf.move HAL.out altRow_stab (by omega) (by first | assumption | exact ((Keep.refl [] WA).alloc _).drew : Keep [] WA _) (by simp) (fun x hx => .inl hx)) (by omega) (by omega) (by simp) ?_; intro A8 C8 w8 O8' K8 n8'; have O8 := Lib.hid O8'; have n8 := Lib.hid n8'; clear O8' n8'; have K9 : Keep [] WA _ := Keep.trans (by first | assumption | exact ((Keep.refl [] WA).alloc _).drew) K8)
                      | (refine step_append_data altRow_stab altRow_one rfl _ _ 34 rfl Tryz.underlying34 hia hia0 hia1 hia2 rfl (by omega) (S := [g2, wo.heap.size]) (base := WA.heap.size) (v := .slice A8 ps[n].a.length C8) (A := some ⟨w8.heap.size, 0, none⟩) (m := 1) (C := 1) (xs := ps[n].a) (ys := [[]]) rfl rfl (O8.out.move altRow_stab (S' := [g2, wo.heap.size]) ((Keep.refl [] w8).alloc _) (by simp) (fun x hx => .inl hx))
                          (one_src (SlOf.nil [] wo 3) (HKA.out.trans (K9.alloc _)) (fun x hx => by rcases List.mem_append.1 hx with hx | hx; have := (O8.out.base x hx).1; have := HLA.out.2; omega; exact (HSA.out x hx).1) (Blk.new w8 _ 40) (fun hx => by rcases List.mem_append.1 hx with hx | hx; have := (O8.out.base _ hx).2; omega; have := (HSA.out _ hx).2; have := K9.size; omega)) (by simp; omega) (by simp; omega) (by have := K9.size; simp; omega) ?_; intro A9 C9 w9 O9' K9' n9; have O9 := Lib.hid O9'; have K10 : Keep [] WA w9 := (K9.alloc _).then K9' (fun x hx => .inr (O8.out.base x hx).1); clear O9' n9; obtain ⟨gcA9, gfA9⟩ := HGS.out _ K10)
                      | (refine step_append_data altRow_stab altRow_one rfl _ _ 34 rfl Tryz.underlying34 hia hia0 hia1 hia2 rfl (by omega) (S := [g2, wo.heap.size]) (base := WA.heap.size) (v := .slice A8 ps[n].a.length C8) (A := some ⟨WA.heap.size, 0, none⟩) (m := 1) (C := 1) (xs := ps[n].a) (ys := [[]]) rfl rfl O8.out
                          (one_src (SlOf.nil [] wo 3) (HKA.out.trans K9) (fun x hx => by rcases List.mem_append.1 hx with hx | hx; have := (O8.out.base x hx).1; have := HLA.out.2; omega; exact (HSA.out x hx).1) (((Blk.new WA _ 40).drew).keep K8 (by simp)) (fun hx => by rcases List.mem_append.1 hx with hx | hx; have := n8.out _ hx; simp at this; have := (HSA.out _ hx).2; omega)) (by simp; omega) (by simp; omega) (by have := K9.size; omega) ?_; intro A9 C9 w9 O9' K9' n9; have O9 := Lib.hid O9'; have K10 : Keep [] WA w9 := K9.then K9' (fun x hx => .inr (O8.out.base x hx).1); clear O9' n9; obtain ⟨gcA9, gfA9⟩ := HGS.out _ K10)))
                  | fail
                all_goals
                  go_wp2_with fail
                  go_meet
                  exact altsIn (al := ps[n].a ++ [[]]) HOYA.out hnx K10 (fun x hx => (HSA.out x hx).2) (by simp) O9.out
              case rest =>
                obtain ⟨KD, p, hp, OYD⟩ := hcut
                have hpe : p = ⟨ps[n].a ++ [a], ps[n].marks, ps[n].nt⟩ := by
                  rw [List.getElem?_eq_getElem hnx, HXN.out hnx] at hp
                  exact (Option.some.inj hp).symm
                subst hpe
                simp only at OYD
                rw [HYS.out] at OYD
                have Koc : Keep [] wo wc := HKA.out.then KD (fun x hx => by have := HGY.out; simp at hx; exact .inr (by omega))
                have K3c : Keep [] w3 wc := HK3c.out.trans Koc
                have hyl : (moreP ps n []).length = ps.length := moreP_len ps n []
                have hYd : Prods [] wc (.slice (some ⟨g2, 0, none⟩) ps.length CY) (moreP ps n []) := by
                  rw [hxl, ← hyl] at OYD
                  rw [← hyl]
                  exact OYD.read prodRow_stab (by simp) (by simp)
                have hXd : Prods [] wc (.slice (some ⟨g, 0, none⟩) ps.length CX) xs := HXc.out.mv0 Koc
                have hPd : Prods [] wc (.slice (some ⟨bp, op, none⟩) ps.length C) ps := HP3'.out.mv0 K3c
                have hgy := HGY.out
                have Bd3 := HB3.out.keep KD (by simp; omega)
                have Bd10 := HB9.out.keep KD (by simp; omega)
                have Bd9 := HB9c.out.keep Koc (by simp)
                have hEX : ∀ x ∈ emptyF ps, x ∈ emptyF xs := fun x hx => by rw [HXM.out]; exact moreP_emp ps n a x hx
                have hEY : ∀ x ∈ emptyF ps, x ∈ emptyF (moreP ps n []) := moreP_emp ps n []
                have hEN := moreP_nil ps n hn
                have hpa : allR ps = bl ps.length (emptyF ps) := by simp [allR, hg]
                generalize moreP ps n [] = ys at hYd hyl hEY hEN
                have hxa : allR xs = if gmay xs = true then bl ps.length (emptyF xs) else [] := by rw [allR, hxl]
                have hya : allR ys = if gmay ys = true then bl ps.length (emptyF ys) else [] := by rw [allR, hyl]
                have HE := Lib.hid (⟨hEX, hEY, hEN, hpa, hxa, hya⟩ : _ ∧ _ ∧ _ ∧ _ ∧ _ ∧ _)
                have c3 := Bd3.cell
                have c9 := Bd9.cell
                have c10 := Bd10.cell
                have HKW := Lib.hid (KF3.trans K3c)
                have HXL := Lib.hid (⟨hxl, hyl⟩ : _ ∧ _)
                clear OYD KD Koc K3c hEX hEY hEN hpa hxa hya HXc HXY HXM HXN HYS HAl HA0 HP0' HL7 HHH HB3 HB9 HB9c HB3c HAA7 HK3c HK7 HKA HLA HSA HWA HGG HGY HAL HKP HGS HOYA hgy hp
                have hll : ∀ (A' K' : Option Addr) (C' m' D' : Nat) (qs : List ProdS) (w' : World), Prods [] w' (.slice A' ps.length C') qs → qs.length = ps.length → Calls Tryz.prog 25 #[.agg #[.slice A' ps.length C', .slice K' m' D']] w' fun e w'' => (∃ v, e = .returned v ∧ BoolV w'' w'.heap.size v (allR qs)) ∧ Keep [] w' w'' := fun A' K' C' m' D' qs w' h hk => by
                  rw [← hk] at h ⊢
                  exact all_nulls [] A' K' C' m' D' qs w' h (by simp)
                have HLL := Lib.hid hll
                have hmm : ∀ (A' K' : Option Addr) (C' m' D' : Nat) (qs : List ProdS) (w' : World), Prods [] w' (.slice A' ps.length C') qs → qs.length = ps.length → Calls Tryz.prog 24 #[.agg #[.slice A' ps.length C', .slice K' m' D']] w' fun e w'' => e = .returned (.bool (gmay qs)) ∧ Keep [] w' w'' := fun A' K' C' m' D' qs w' h hk => by
                  rw [← hk] at h ⊢
                  exact may_any [] _ _ qs w' h
                have HMM := Lib.hid hmm
                clear hll hmm
                go_wp2_with fail
                refine (HLL.out _ _ _ _ _ ps _ hPd rfl).mono ?_
                rintro e wa ⟨⟨v1, rfl, hv1⟩, Ka⟩
                have c9 := (Bd9.keep Ka (by simp)).cell
                clear c3
                go_wp2_with fail
                refine (HLL.out _ _ _ _ _ xs _ (hXd.mv0 Ka) HXL.out.1).mono ?_
                rintro e wb ⟨⟨v2, rfl, hv2⟩, Kb⟩
                have Kab := Ka.trans Kb
                have c10 := (Bd10.keep Kab (by simp)).cell
                clear c9
                go_wp2_with fail
                refine (HLL.out _ _ _ _ _ ys _ (hYd.mv0 Kab) HXL.out.2).mono ?_
                rintro e wd ⟨⟨v3, rfl, hv3⟩, Kd'⟩
                have Kad := Kab.trans Kd'
                have c9 := (Bd9.keep Kad (by simp)).cell
                have hXe := hXd.mv0 Kad
                have hYe := hYd.mv0 Kad
                have hva := (hv1.keep Kb (by simp)).keep Kd' (by simp)
                have hvb := hv2.keep Kd' (by simp)
                clear c10
                go_wp2_with fail
                refine (HMM.out _ _ _ _ _ xs _ hXe HXL.out.1).mono ?_
                rintro e we ⟨rfl, Ke⟩
                cases hgx : gmay xs with
                | false =>
                  obtain ⟨hEX, hEY, hEN, hpa, hxa, hya⟩ := HE.out
                  have hx0 : allR xs = [] := by rw [hxa, hgx]; rfl
                  rw [hx0] at hvb
                  obtain ⟨A', C', hv', _, _⟩ := hvb.cells
                  subst hv'
                  have c9 := (Bd9.keep (Kad.trans Ke) (by simp)).cell
                  have hXf := hXe.mv0 Ke
                  clear hEX hEY hEN hpa hxa hya hx0 hv1 hv2 hv3 hva hvb
                  go_wp2_with fail
                  refine (HMM.out _ _ _ _ _ xs _ hXf HXL.out.1).mono ?_
                  rintro e wf ⟨rfl, Kf⟩
                  rw [hgx]
                  go_wp2
                  go_ret
                  exact ⟨rfl, HKW.out.trans ((Kad.trans Ke).trans Kf)⟩
                | true =>
                  have c10 := (Bd10.keep (Kad.trans Ke) (by simp)).cell
                  clear c9
                  go_wp2_with fail
                  refine (HMM.out _ _ _ _ _ ys _ (hYe.mv0 Ke) HXL.out.2).mono ?_
                  rintro e wf ⟨rfl, Kf⟩
                  have Kaf := (Kad.trans Ke).trans Kf
                  obtain ⟨hEX, hEY, hEN, hpa, hxa, hya⟩ := HE.out
                  cases hgy : gmay ys with
                  | false =>
                    have hy0 : allR ys = [] := by rw [hya, hgy]; rfl
                    rw [hy0] at hv3
                    obtain ⟨A', C', hv', _, _⟩ := hv3.cells
                    subst hv'
                    have c9 := (Bd9.keep Kaf (by simp)).cell
                    have hXf := (hXe.mv0 Ke).mv0 Kf
                    have hYf := (hYe.mv0 Ke).mv0 Kf
                    clear hEX hEY hEN hpa hxa hya hy0 hv1 hv2 hv3 hva hvb c10
                    go_wp2_with fail
                    refine (HMM.out _ _ _ _ _ xs _ hXf HXL.out.1).mono ?_
                    rintro e wg ⟨rfl, Kg⟩
                    rw [hgx]
                    have c10 := (Bd10.keep (Kaf.trans Kg) (by simp)).cell
                    clear c9
                    go_wp2_with fail
                    refine (HMM.out _ _ _ _ _ ys _ (hYf.mv0 Kg) HXL.out.2).mono ?_
                    rintro e wh ⟨rfl, Kh⟩
                    rw [hgy]
                    go_wp2
                    go_ret
                    exact ⟨rfl, HKW.out.trans ((Kaf.trans Kg).trans Kh)⟩
                  | true =>
                    rw [if_pos hgx] at hxa
                    rw [if_pos hgy] at hya
                    rw [hpa] at hva
                    rw [hxa] at hvb
                    rw [hya] at hv3
                    have hf1 := (hva.keep Ke (by simp)).keep Kf (by simp)
                    have hf2 := (hvb.keep Ke (by simp)).keep Kf (by simp)
                    have hf3 := (hv3.keep Ke (by simp)).keep Kf (by simp)
                    have HEE := Lib.hid (⟨hEX, hEY, hEN⟩ : _ ∧ _ ∧ _)
                    clear hpa hxa hya hv1 hv2 hv3 hva hvb hEX hEY hEN hgx hgy HE
                    obtain ⟨V1, D1, rfl, hc1, hr1⟩ := hf1.cells
                    obtain ⟨V2, D2, rfl, hc2, hr2⟩ := hf2.cells
                    obtain ⟨V3, D3, rfl, hc3, hr3⟩ := hf3.cells
                    have hbl : ∀ L, (bl ps.length L).length = ps.length := fun L => by simp [bl]
                    obtain ⟨r1, rfl, hs1⟩ := hr1 (by rw [hbl]; omega)
                    obtain ⟨r2, rfl, hs2⟩ := hr2 (by rw [hbl]; omega)
                    obtain ⟨r3, rfl, hs3⟩ := hr3 (by rw [hbl]; omega)
                    rw [hbl] at hc1 hc2 hc3
                    rw [hbl, hbl, hbl]
                    have c3 := (Bd3.keep Kaf (by simp)).cell
                    have HR1 := Lib.hid (fun (j : Nat) (hj : j < ps.length) => (by have := hs1 j (by simpa [bl] using hj); simpa [bl] using this : wf.cell? ⟨r1, j, none⟩ = some (.bool (decide ((j : Int) ∈ emptyF ps)))))
                    have HR2 := Lib.hid (fun (j : Nat) (hj : j < ps.length) => (by have := hs2 j (by simpa [bl] using hj); simpa [bl] using this : wf.cell? ⟨r2, j, none⟩ = some (.bool (decide ((j : Int) ∈ emptyF xs)))))
                    have HR3 := Lib.hid (fun (j : Nat) (hj : j < ps.length) => (by have := hs3 j (by simpa [bl] using hj); simpa [bl] using this : wf.cell? ⟨r3, j, none⟩ = some (.bool (decide ((j : Int) ∈ emptyF ys)))))
                    clear hr1 hr2 hr3 hs1 hs2 hs3 hf1 hf2 hf3 c10 hXe hYe hXd hYd hPd
                    clear hbl
                    go_wp2
                    go_loop [14] (fun i => ∃ k : Nat, k ≤ ps.length ∧ i = .int .i64 k) (fun i => ps.length - (intOf i).toNat)
                    case atStart => exact ⟨0, by omega, rfl⟩
                    case round =>
                      obtain ⟨k, hk, rfl⟩ := hrel
                      by_cases hkl : k < ps.length
                      · have hkl' : (k : Int) < (ps.length : Int) := by omega
                        have HKL := Lib.hid hkl
                        have hd1 : decide (ps.length ≤ k) = false := by simp; omega
                        have q1 := HR1.out k hkl
                        have q2 := HR2.out k hkl
                        have q3 := HR3.out k hkl
                        have hx2 : (k : Int) ∈ emptyF ps → (k : Int) ∈ emptyF xs := HEE.out.1 k
                        have hx3 : (k : Int) ∈ emptyF ps → (k : Int) ∈ emptyF ys := HEE.out.2.1 k
                        by_cases h1 : (k : Int) ∈ emptyF ps
                        · rw [decide_eq_true h1] at q1
                          rw [decide_eq_true (hx2 h1)] at q2
                          rw [decide_eq_true (hx3 h1)] at q3
                          clear hx2 hx3 h1
                          go_wp2
                          go_round
                          case rel => exact ⟨k + 1, by have := HKL.out; omega, by go_num⟩
                          case measure => simp [intOf]; have := HKL.out; omega
                        · rw [decide_eq_false h1] at q1
                          clear hx2 hx3 h1
                          go_wp2
                          go_round
                          case rel => exact ⟨k + 1, by have := HKL.out; omega, by go_num⟩
                          case measure => simp [intOf]; have := HKL.out; omega
                      · obtain rfl : k = ps.length := by omega
                        have q3 := HR3.out n hn
                        rw [decide_eq_true HEE.out.2.2] at q3
                        go_wp2
                        go_ret
                        exact ⟨rfl, HKW.out.trans Kaf⟩
end Go.Proofs.YtacihjabkiedcaaGreatDoor
namespace Go.Proofs.YtacihjabkiedcaaGreatDoor.RowNM
open Go.ChangeShapes Go.WideShapes Go.ChangeAt Go.RowKit Go.Joins Go.Deep Go.Proofs.YtacihjabkiedcaaGreatDoor.RowG

def zeroA : Array Value := #[.agg #[.slice none 0 0, .slice none 0 0], .int .i64 0, .slice none 0 0]
set_option maxRecDepth 100000 in
theorem laid_met (os : Os) : laidMet Tryz.prog laid2 ((laidWorld os).forCall (fun _ _ => 0) ⟨#[], zeroA, []⟩).memory :=
  laidMet_of_run' 8 (by kernel_rfl) (by kernel_rfl)
theorem reads (os : Os) {H : Type} (enc : TypeId × Value → H) : ∃ places, DataW.whole enc Tryz.prog ((laidWorld os).forCall (fun _ _ => 0) ⟨#[], zeroA, []⟩).memory Tryz.f9.params.toList Rows.nullMoreSpec.vars false zeroA.toList 8 = some ([.agg [.nil, .nil], .lit (.int .i64 0), .nil], [], places) :=
  ⟨[], by kernel_rfl⟩
set_option maxRecDepth 100000 in
set_option maxHeartbeats 1000000 in
theorem contract (H : Type) (enc : TypeId × Value → H) (W : World) (args : Array Value) (ds gs : List (DataW H)) (before : List MemPlace) (base : Nat)
    (hval : ∀ (j : Nat) t v, Tryz.f9.params[j]? = some t → args[j]? = some v → Value.okWide Tryz.prog W .any base t v)
    (hW : DataW.Whole enc Tryz.prog Tryz.f9.params.toList Rows.nullMoreSpec.vars false W args.toList ds gs before) :
    Calls Tryz.prog 9 args W fun e W' => ∃ v, e = .returned v ∧ Rows.nullMoreSpec.post enc Tryz.prog Tryz.f9 false true false false W args v W' := by
  have hW' := hW
  obtain ⟨p, q, hA0, hV, rfl, hfz, hnd⟩ := hW
  have hA : DataW.TrodAll enc Tryz.prog W 0 (fun _ => true) true Tryz.f9.params.toList args.toList ds p := hA0
  rw [Tryz.params9] at hA hval
  obtain ⟨v0, vs0, d0, ds0, p0, q0, hargs, rfl, rfl, h0, r0⟩ := trodAll_cons hA
  obtain ⟨v1, vs1, d1, ds1, p1, q1, rfl, rfl, rfl, h1, r1⟩ := trodAll_cons r0
  obtain ⟨v2, vs2, d2, ds2, p2, q2, rfl, rfl, rfl, h2, r2⟩ := trodAll_cons r1
  obtain ⟨rfl, rfl, rfl⟩ := trodAll_nil r2
  obtain rfl : args = #[v0, v1, v2] := by cases args; simp_all
  obtain ⟨rfl, rfl⟩ := trodVars_none hV
  have k0 := h0
  have lt0 : ∀ x ∈ p0, x.block < W.heap.size := by obtain ⟨m, hm⟩ := k0; exact DataW.trod_lt m _ _ _ hm
  have k2 := h2
  have lt2 : ∀ x ∈ p2, x.block < W.heap.size := by obtain ⟨m, hm⟩ := k2; exact DataW.trod_lt m _ _ _ hm
  obtain ⟨A0, ps0, C0, K0, m0, D0, rfl, hp0, hm0⟩ := open_gram rfl (hval 0 _ v0 rfl rfl) h0
  obtain ⟨a1, rfl, rfl, rfl, w1⟩ := open_int Tryz.underlying3 (hval 1 _ v1 rfl rfl) h1
  obtain ⟨x2, y2, z2, rfl⟩ := okWide_slice Tryz.underlying40 (hval 2 _ v2 rfl rfl)
  obtain ⟨n2, hn2⟩ := h2
  obtain ⟨A2, l2, C2, e2, hp2⟩ := syms_read hn2
  obtain ⟨rfl, rfl, rfl⟩ : x2 = A2 ∧ y2 = l2.length ∧ z2 = C2 := by simpa using e2
  clear hA0
  refine (nullMore_walk A0 K0 x2 C0 m0 D0 z2 ps0 a1 l2 W hp0 hm0 hp2).mono fun e W' ⟨he, kp⟩ => ?_
  have bel := kp.below
  subst he
  exact ⟨_, rfl, _, _, _, [], _, [], hW', trodAll_mk1 (shut_bool Tryz.underlying4 _), (trodAll_cons_mk (Below.trod laidOut (by kernel_rfl) (of_decide_eq_true (by kernel_rfl)) k0 bel lt0) (trodAll_cons_mk (shut_int Tryz.underlying3 w1) (trodAll_cons_mk (Below.trod laidOut (by kernel_rfl) (of_decide_eq_true (by kernel_rfl)) k2 bel lt2) trodAll_mk0))), rfl, bel.frame _, fun h => by cases h⟩

set_option maxRecDepth 100000 in
theorem lifted (os : Os) (started : os.Started) (H : Type) (enc : TypeId × Value → H) (F : Stop.Interp) :
    ReturnsInHanded {} Tryz.checked os 9 .any ((OpenSpec.ofChange Rows.nullMoreSpec).preRow enc Tryz.prog Tryz.f9 Rows.nullMoreRow.domain false Rows.nullMoreRow.laid) (((OpenSpec.ofChange Rows.nullMoreSpec).at F).post enc Tryz.prog Tryz.f9 false true false false) := by
  obtain ⟨places, hx⟩ := reads os enc
  refine returnsInHanded_of_row (C := Tryz.checked) (s := OpenSpec.ofChange Rows.nullMoreSpec) own started (by kernel_rfl) Tryz.func9
    (witness_row_at (enc := enc) (C := Tryz.checked) false (laidWorld os) zeroA rfl (by kernel_rfl) (by kernel_rfl) (by kernel_rfl)
      (OpenSpec.preRow_of_cond 8 hx (by kernel_rfl) (fun k hk => by cases hk) (by kernel_rfl) (laid_met os))) ?_
  intro W base args ds gs before hval hW _ _ _ _ _ _
  exact contract H enc W args ds gs before base hval hW

theorem said : Rows.NullMoreSaid :=
  OpenClaim.holds_of_cond 9 Tryz.f9 rfl rfl rfl rfl rfl rfl rfl ⟨rfl, rfl, rfl, rfl, rfl⟩ rfl rfl rfl rfl rfl (by kernel_rfl) Tryz.func9 (by kernel_rfl)
    (of_decide_eq_true (by kernel_rfl)) (by unfold Func.isWrapper; first | (rw [if_pos (by decide +kernel)]; kernel_rfl) | (rw [if_neg (by decide +kernel)]; exact ⟨rfl, rfl⟩))
    (fun os started H enc _ F => by rw [OpenClaim.pre_eq_preRow]; exact lifted os started H enc F)

theorem plain (f : FuncId) (fn : Func) (hf : Tryz.pinned.checked.prog.funcNamed "exegete/exegetelaw09.NullMore" = some f) (hfn : Tryz.pinned.checked.prog.funcs[f]? = some fn) :
    true = Tryz.pinned.checked.prog.looks [] ∧ ∀ (j : Nat) t, fn.params[j]? = some t → Tryz.pinned.checked.prog.wantsStandIn t = false := by
  obtain rfl : f = 9 := Option.some.inj ((show Tryz.prog.funcNamed "exegete/exegetelaw09.NullMore" = some 9 by kernel_rfl).symm.trans hf) |>.symm
  obtain rfl : fn = Tryz.f9 := (Option.some.inj (Tryz.func9.symm.trans hfn)).symm
  refine ⟨by kernel_rfl, fun j t ht => ?_⟩
  rw [Tryz.params9] at ht
  have hm : t = 25 ∨ t = 3 ∨ t = 40 := by simpa [or_assoc] using Array.mem_of_getElem? ht
  rcases hm with rfl | rfl | rfl
  · exact (show Tryz.prog.wantsStandIn 25 = false by kernel_rfl)
  · exact (show Tryz.prog.wantsStandIn 3 = false by kernel_rfl)
  · exact (show Tryz.prog.wantsStandIn 40 = false by kernel_rfl)

theorem card : Rows.NullMoreCardSaid :=
  Claim7.holds_tied_plain_at .later [] _ _ _ _ said (fun _ h => by cases h) (by kernel_rfl) (fun _ h => by cases h) nullMore_row_tie rfl ⟨rfl, rfl⟩ (by kernel_rfl) rfl plain (by kernel_rfl)
end Go.Proofs.YtacihjabkiedcaaGreatDoor.RowNM
namespace Go.Proofs.YtacihjabkiedcaaGreatDoor
/-- The card of the law. -/
theorem nullMore_card : Rows.NullMoreCardSaid := RowNM.card
#print axioms nullMore_card
end Go.Proofs.YtacihjabkiedcaaGreatDoor
