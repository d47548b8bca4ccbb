/- The law ReachSelf, as its row and its card state it: for every input it answers true and the arguments read as before. -/
import Derived.Test.YtacihjabkiedcaaGreatDoorH35
import Derived.Test.YtacihjabkiedcaaGreatDoorHNM
import Derived.Test.YtacihjabkiedcaaGreatDoorH18
import Derived.Deep.RegionHeld3
import Derived.Deep.DeepCutAuto
import Derived.Test.YtacihjabkiedcaaGreatDoorH19
set_option linter.unusedVariables false
set_option linter.unusedSimpArgs false
namespace Go.Proofs.YtacihjabkiedcaaGreatDoor
open Go Go.RowKit Go.MapKept

theorem one_sym {S : List Nat} {w : World} {b : Nat} {T : TypeId} {n : Int} (B : Blk w b #[.int .i64 2, .slice none 0 0, .int .i64 n] T) (hb : b ∉ S) : Syms S w (.slice (some ⟨b, 0, none⟩) 1 1) [⟨2, [], n⟩] := by
  have h := Sl.of_blk (S := S) (k := 3) (xs := [#[.int .i64 2, .slice none 0 0, .int .i64 n]]) 1 B hb (by simp) (fun i hi => by
    obtain rfl : i = 0 := by simpa using hi
    exact ⟨rfl, fun j hj => by
      match j, hj with
      | 0, _ => rfl
      | 1, _ => rfl
      | 2, _ => rfl⟩)
  refine ⟨[#[.int .i64 2, .slice none 0 0, .int .i64 n]], h, rfl, fun i hi hi' => ?_⟩
  obtain rfl : i = 0 := by simpa using hi
  exact ⟨none, 0, rfl, Sl.nil _ _ _⟩
theorem self_src {S : List Nat} {w : World} {b1 b2 : Nat} {T T' : TypeId} {n : Int} (B1 : Blk w b1 #[.int .i64 2, .slice none 0 0, .int .i64 n] T) (B2 : Blk w b2 #[.slice (some ⟨b1, 0, none⟩) 1 1] T') (h1 : b1 ∉ S) (h2 : b2 ∉ S) : Alts S w (.slice (some ⟨b2, 0, none⟩) 1 1) [[⟨2, [], n⟩]] :=
  one_alt B2 h2 rfl (one_sym B1 h1)
set_option maxRecDepth 20000 in
set_option maxHeartbeats 4000000 in
theorem reachSelf_walk (A K : Option Addr) (C m D : Nat) (ps : List ProdS) (i : Int) (w : World) (HP : Prods [] w (.slice A ps.length C) ps) (hmk : m ≤ 9223372036854775807) :
    Calls Tryz.prog 5 #[.agg #[.slice A ps.length C, .slice K m D], .int .i64 i] w fun e w' => e = .returned (.bool true) ∧ Keep [] w w' := by
  have K0 := (Keep.refl [] w).alloc (.cells #[.slice A ps.length C, .slice K m D] 25)
  have HP0 : Prods [] _ (.slice A ps.length C) ps := HP.mv0 K0
  have B0 := Blk.new w #[.slice A ps.length C, .slice K m D] 25
  clear HP
  go_enter Tryz.func5, Tryz.ntmps5
  go_wp2_with fail
  refine (awake11_any _).mono ?_
  rintro e w1 ⟨rfl, K1⟩
  have B1 := B0.keep K1 (by simp)
  have b1 := B1.cell
  have HP1 : Prods [] w1 (.slice A ps.length C) ps := HP0.mv0 K1
  go_wp2_with fail
  refine (few2_any [] A K C m D ps _ HP1 hmk).mono ?_
  rintro e w2 ⟨⟨fw, rfl, hfw⟩, K2⟩
  have HFW := Lib.hid hfw
  clear hfw
  have B2 := B1.keep K2 (by simp)
  have b2 := B2.cell
  have HP2 : Prods [] w2 (.slice A ps.length C) ps := HP1.mv0 K2
  have KF2 := (K0.trans K1).trans K2
  clear HP0 HP1 B0 B1 b1
  cases fw with
  | false =>
    go_wp2
    go_ret
    exact ⟨rfl, KF2⟩
  | true =>
    have hc3 := may_any [] (.slice A ps.length C) (.slice K m D) ps _ HP2
    have HC3 := Lib.hid hc3
    clear hc3
    go_wp2_with fail
    refine HC3.out.mono ?_
    rintro e w3 ⟨rfl, K3⟩
    have B3 := B2.keep K3 (by simp)
    have b3 := B3.cell
    have HP3 : Prods [] w3 (.slice A ps.length C) ps := HP2.mv0 K3
    have KF3 := KF2.trans K3
    clear HP2 B2 b2 HC3
    cases hg : gmay ps with
    | false =>
      go_wp2
      go_ret
      exact ⟨rfl, KF3⟩
    | true =>
      by_cases hi0 : i < 0
      · clear HP3
        go_wp2
        go_ret
        exact ⟨rfl, KF3⟩
      · by_cases hi1 : (ps.length : Int) ≤ i
        · have hi0' : 0 ≤ i := by omega
          clear HP3 hi0
          go_wp2
          go_ret
          exact ⟨rfl, KF3⟩
        · obtain ⟨n, rfl⟩ : ∃ n : Nat, i = n := ⟨i.toNat, by omega⟩
          have hn : n < ps.length := by omega
          have hn' : (n : Int) < (ps.length : Int) := by omega
          have hd0 : decide ((n : Int) < 0) = false := by simp
          have hd1 : decide (ps.length ≤ n) = false := by simp; omega
          clear hi0 hi1
          obtain ⟨bp, op, A2, C2, N2, F2, rfl, _, p0, _, _, hAl, _⟩ := HP3.pick n hn
          have HAl := Lib.hid hAl
          clear hAl
          by_cases ha : 7 < ps[n].a.length
          · have ha' : (7 : Int) < (ps[n].a.length : Int) := by omega
            clear HP3
            go_wp2
            go_ret
            exact ⟨rfl, KF3⟩
          · have ha' : (ps[n].a.length : Int) ≤ 7 := by omega
            have ha0 : ps[n].a.length ≤ 7 := by omega
            obtain ⟨hl0, hl1⟩ := gmay_len hg
            obtain ⟨ip, hip, hip0, hip1, hip2⟩ := info_parts info_prod2
            obtain ⟨hal0, hal1, _⟩ := gmay_alt hg ps[n] (List.getElem_mem _)
            have hbl : bp < w3.heap.size := World.block_lt_of_cell? w3 _ p0
            have hlt := B3.lt
            obtain ⟨ia, hia, hia0, hia1, hia2⟩ := info_parts info_alt2
            have HP3' := Lib.hid HP3
            have HPX := Lib.hid (Prods.mv (S' := [w3.heap.size]) HP3 ((Keep.refl [] w3).alloc (.cells #[.slice (some ⟨bp, op, none⟩) ps.length C, .slice K m D] 25)) (by simp))
            clear HP3
            go_wp2_with (at_builtin; refine Hid.out ?_)
            refine Lib.hid ?_
            refine wpList_append_new prodRow_stab prodRow_one rfl _ _ 22 rfl Tryz.underlying22 hip hip0 hip1 hip2 rfl (by omega) [w3.heap.size] w3.heap.size (some ⟨bp, op, none⟩) ps.length C rfl rfl HPX.out (by omega) (by omega) (by simp) ?_
            intro AX CX wX hOX hKX hnX
            obtain ⟨g, rfl, hg1, hg2⟩ := hOX.form (by omega)
            have hgg : g = w3.heap.size + 1 := by simpa [ownB, Value.ownBlock] using hnX g (by simp [ownB, Value.ownBlock])
            have K3X : Keep [] w3 wX := ((Keep.refl [] w3).alloc _).trans hKX
            have B3X := B3.keep K3X (by simp)
            have B9X := (Blk.new w3 #[.slice (some ⟨bp, op, none⟩) ps.length C, .slice K m D] 25).keep hKX (by simp)
            have b9 := B9X.cell
            have f9 := B9X.frozen
            have HB3X := Lib.hid B3X
            have HB9X := Lib.hid B9X
            have HOX := Lib.hid hOX
            have HKX := Lib.hid K3X
            have hgx : w3.heap.size + 1 < wX.heap.size := by omega
            have HGG := Lib.hid hgg
            clear B3X B9X hOX hKX hnX hgg hg1 hg2 K3X b3
            have HP0' := Lib.hid p0
            clear p0
            go_wp2
            obtain ⟨W7, hW7⟩ : ∃ W, W = wX.setCell ⟨w3.heap.size, 0, none⟩ (.slice (some ⟨g, 0, none⟩) ps.length CX) := ⟨_, rfl⟩
            rw [← hW7]
            clear b9 f9
            have KS7 : Keep [w3.heap.size] wX W7 := by rw [hW7]; exact (Keep.refl _ _).setCell (.inl (by simp)) _
            have B9 : Blk W7 w3.heap.size #[.slice (some ⟨g, 0, none⟩) ps.length CX, .slice K m D] 25 := by rw [hW7]; simpa using HB9X.out.set 0 (.slice (some ⟨g, 0, none⟩) ps.length CX)
            have B3' := HB3X.out.keep KS7 (by simp; omega)
            have OX7 := HOX.out.move prodRow_stab (S' := [w3.heap.size]) KS7 (fun x hx => .inl ⟨hx, by have := HGG.out; simp at hx; simp [ownB, Value.ownBlock]; omega⟩) (fun x hx => .inl hx)
            have K7 : Keep [] w3 W7 := HKX.out.then KS7 (by simp)
            have hX7 : Prods [] W7 (.slice (some ⟨g, 0, none⟩) ps.length CX) ps := OX7.read prodRow_stab (by simp) (by simp)
            obtain ⟨bg, og, A3, C3, N3, F3, he, _, gc, _, _, _, _⟩ := hX7.pick n hn
            simp only [Option.some.injEq, Addr.mk.injEq, and_true] at he
            obtain ⟨rfl, rfl⟩ := he
            rw [Nat.zero_add] at gc
            have gf := OX7.frozen (by omega) (n * 3)
            have hl7 : g < W7.heap.size ∧ w3.heap.size < W7.heap.size := by have := HGG.out; have := KS7.size; omega
            have p7 := Keep.cell (T := []) K7 HP0'.out (by simp)
            have hal7 := HAl.out.mv0 K7
            have hkp : ∀ w', Keep [g] W7 w' → w'.cell? ⟨w3.heap.size, 0, none⟩ = some (.slice (some ⟨g, 0, none⟩) ps.length CX) ∧ w'.cell? ⟨w.heap.size, 0, none⟩ = some (.slice (some ⟨bp, op, none⟩) ps.length C) ∧ w'.cell? ⟨bp, op + n * 3, none⟩ = some (.slice A2 ps[n].a.length C2) := fun w' K' => by
              have hgg := HGG.out
              exact ⟨(B9.keep K' (by simp; omega)).cell 0, (B3'.keep K' (by simp; omega)).cell 0, Keep.cell (T := [g]) K' p7 (by simp; omega)⟩
            have hgs : ∀ w', Keep [] W7 w' → w'.cell? ⟨g, n * 3, none⟩ = some (.slice A3 ps[n].a.length C3) ∧ w'.frozen? ⟨g, n * 3, none⟩ = false := fun w' K' =>
              ⟨Keep.cell (T := []) K' gc (by simp), (World.frozen?_of_block (a := ⟨g, n * 3, none⟩) (K'.block g hl7.1 (by simp))).trans gf⟩
            have HGS := Lib.hid hgs
            clear hgs
            have HKP := Lib.hid hkp
            have HAL := Lib.hid (SlOf.move (S' := [g, w3.heap.size]) HAl.out altRow_stab (by omega) K7 (by simp) (fun x hx => by have := HGG.out; simp at hx; rcases hx with rfl | rfl <;> exact .inr (by omega)))
            have Kd := (Keep.refl [] W7).drew
            have HW7 := Lib.hid hW7
            have HOX7 := Lib.hid OX7
            have HK7 := Lib.hid K7
            have HL7 := Lib.hid hl7
            have HB9 := Lib.hid B9
            have HB3 := Lib.hid B3'
            clear hkp OX7 K7 hX7 gc gf p7 hal7 KS7 B9 B3' hW7 hl7 HOX HB9X HB3X HKX
            have HS9 := Lib.hid (fun (x : Nat) (hx : x ∈ [g, w3.heap.size]) => (by have := HGG.out; have := HL7.out; simp at hx; omega : w3.heap.size ≤ x ∧ x < W7.heap.size))
            go_cut [] from 54 to 70 (fun wx => AltsIn [w3.heap.size] W7 w3.heap.size g CX ps n (ps[n].a ++ [[⟨2, [], n⟩]]) wx)
            case first =>
              first
                | (go_region_held3 (fun w' => w'.cell? ⟨w3.heap.size, 0, none⟩ = some (.slice (some ⟨g, 0, none⟩) ps.length CX) ∧ w'.cell? ⟨w.heap.size, 0, none⟩ = some (.slice (some ⟨bp, op, none⟩) ps.length C) ∧ w'.cell? ⟨bp, op + n * 3, none⟩ = some (.slice A2 ps[n].a.length C2))
                  (first | exact HKP.out _ (Keep.mono (S := []) (by assumption) (by simp)) | exact HKP.out _ (Keep.mono (S := []) (Keep.alloc (by assumption) _) (by simp)) | exact HKP.out _ (Keep.mono (S := []) (Keep.alloc (Keep.alloc (by assumption) _) _) (by simp)) | exact HKP.out _ (Keep.mono (S := []) (((Keep.refl [] W7).alloc _).drew) (by simp)) | exact HKP.out _ (Keep.mono (S := []) ((((Keep.refl [] W7).alloc _).alloc _).drew) (by simp)) | exact HKP.out _ (Keep.setCell (Keep.mono (S := []) (by assumption) (by simp)) (.inl (by simp)) _))
                  (first
                    | (refine step_append_new altRow_stab altRow_one rfl _ _ 34 rfl Tryz.underlying34 hia hia0 hia1 hia2 rfl (by omega) [g, w3.heap.size] W7.heap.size A2 ps[n].a.length C2 rfl rfl (SlOf.move HAL.out altRow_stab (by omega) (by first | assumption | exact ((Keep.refl [] W7).alloc _).drew | exact (((Keep.refl [] W7).alloc _).alloc _).drew : Keep [] W7 _) (by simp) (fun x hx => .inl hx)) (by omega) (by omega) (by simp <;> omega) ?_; intro A8 C8 w8 O8' K8 n8'; have O8 := Lib.hid O8'; have n8 := Lib.hid n8'; clear O8' n8'; have K9 : Keep [] W7 _ := Keep.trans (by first | assumption | exact ((Keep.refl [] W7).alloc _).drew | exact (((Keep.refl [] W7).alloc _).alloc _).drew) K8)
                    | (refine step_append_data altRow_stab altRow_one rfl _ _ 34 rfl Tryz.underlying34 hia hia0 hia1 hia2 rfl (by omega) (S := [g, w3.heap.size]) (base := W7.heap.size) (v := .slice A8 ps[n].a.length C8) (A := some ⟨w8.heap.size + 1, 0, none⟩) (m := 1) (C := 1) (xs := ps[n].a) (ys := [[⟨2, [], n⟩]]) rfl rfl (O8.out.move altRow_stab (S' := [g, w3.heap.size]) (((Keep.refl [] w8).alloc _).alloc _) (by simp) (fun x hx => .inl hx)) (self_src (b1 := w8.heap.size) (T := 39) (T' := 40) ((Blk.new w8 _ 39).alloc _) (Blk.new' (w8.alloc _) _ 40 (b := w8.heap.size + 1) (by simp)) (fun hx => by rcases List.mem_append.1 hx with hx | hx; have := (O8.out.base _ hx).2; omega; have := (HS9.out _ hx).2; have := K9.size; omega) (fun hx => by rcases List.mem_append.1 hx with hx | hx; have := (O8.out.base _ hx).2; omega; have := (HS9.out _ hx).2; have := K9.size; omega)) (by simp; omega) (by simp; omega) (by have := K9.size; simp; omega) ?_; intro A9 C9 w9 O9' K9' n9; have O9 := Lib.hid O9'; have K10 : Keep [] W7 w9 := ((K9.alloc _).alloc _).then K9' (fun x hx => .inr (O8.out.base x hx).1); clear O9' n9; obtain ⟨gc9, gf9⟩ := HGS.out _ K10)
                    | (refine step_append_data altRow_stab altRow_one rfl _ _ 34 rfl Tryz.underlying34 hia hia0 hia1 hia2 rfl (by omega) (S := [g, w3.heap.size]) (base := W7.heap.size) (v := .slice A8 ps[n].a.length C8) (A := some ⟨w8.heap.size, 0, none⟩) (m := 1) (C := 1) (xs := ps[n].a) (ys := [[⟨2, [], n⟩]]) rfl rfl (O8.out.move altRow_stab (S' := [g, w3.heap.size]) ((Keep.refl [] w8).alloc _) (by simp) (fun x hx => .inl hx)) (self_src (b1 := W7.heap.size) (T := 39) (T' := 40) ((((Blk.new W7 _ 39).drew).keep K8 (by simp)).alloc _) (Blk.new w8 _ 40) (fun hx => by rcases List.mem_append.1 hx with hx | hx; exact absurd (n8.out _ hx) (by simp <;> omega); have := (HS9.out _ hx).2; omega) (fun hx => by rcases List.mem_append.1 hx with hx | hx; have := (O8.out.base _ hx).2; omega; have := (HS9.out _ hx).2; have := K9.size; omega)) (by simp; omega) (by simp; omega) (by have := K9.size; simp; omega) ?_; intro A9 C9 w9 O9' K9' n9; have O9 := Lib.hid O9'; have K10 : Keep [] W7 w9 := (K9.alloc _).then K9' (fun x hx => .inr (O8.out.base x hx).1); clear O9' n9; obtain ⟨gc9, gf9⟩ := HGS.out _ K10)
                    | (refine step_append_data altRow_stab altRow_one rfl _ _ 34 rfl Tryz.underlying34 hia hia0 hia1 hia2 rfl (by omega) (S := [g, w3.heap.size]) (base := W7.heap.size) (v := .slice A8 ps[n].a.length C8) (A := some ⟨W7.heap.size + 1, 0, none⟩) (m := 1) (C := 1) (xs := ps[n].a) (ys := [[⟨2, [], n⟩]]) rfl rfl O8.out (self_src (b1 := W7.heap.size) (T := 39) (T' := 40) ((((Blk.new W7 _ 39).alloc _).drew).keep K8 (by simp)) (((Blk.new' (W7.alloc _) _ 40 (b := W7.heap.size + 1) (by simp)).drew).keep K8 (by simp)) (fun hx => by rcases List.mem_append.1 hx with hx | hx; exact absurd (n8.out _ hx) (by simp <;> omega); have := (HS9.out _ hx).2; omega) (fun hx => by rcases List.mem_append.1 hx with hx | hx; exact absurd (n8.out _ hx) (by simp <;> omega); have := (HS9.out _ hx).2; omega)) (by simp; omega) (by simp; omega) (by have := K9.size; omega) ?_; intro A9 C9 w9 O9' K9' n9; have O9 := Lib.hid O9'; have K10 : Keep [] W7 w9 := K9.then K9' (fun x hx => .inr (O8.out.base x hx).1); clear O9' n9; obtain ⟨gc9, gf9⟩ := HGS.out _ K10)))
                | fail
              all_goals
                go_wp2_with fail
                go_meet
                exact altsIn (al := ps[n].a ++ [[⟨2, [], n⟩]]) HOX7.out hn K10 (fun x hx => (HS9.out x hx).2) (by simp) O9.out
            case rest =>
              obtain ⟨wo, rfl⟩ : ∃ wo : World, wo = wc := ⟨_, rfl⟩
              obtain ⟨KC, p, hp, OXC⟩ := hcut
              obtain rfl : ps[n] = p := by rw [List.getElem?_eq_getElem hn] at hp; exact Option.some.inj hp
              have K3c : Keep [] w3 wo := HK7.out.then KC (fun x hx => by have := HGG.out; simp at hx; exact .inr (by omega))
              have hgg := HGG.out
              have hl7 := HL7.out
              have B9c := HB9.out.keep KC (by simp; omega)
              have B3c := HB3.out.keep KC (by simp; omega)
              have hszc : W7.heap.size ≤ wo.heap.size := KC.size
              obtain ⟨xs, hxs⟩ : ∃ xs, xs = ps.set n ⟨ps[n].a ++ [[⟨2, [], n⟩]], ps[n].marks, ps[n].nt⟩ := ⟨_, rfl⟩
              rw [← hxs] at OXC
              have hxm : xs = moreP ps n [⟨2, [], n⟩] := by rw [hxs, moreP_eq ps n _ hn]
              have hxl : xs.length = ps.length := by rw [hxm, moreP_len]
              have hXc : Prods [] wo (.slice (some ⟨g, 0, none⟩) ps.length CX) xs := by
                have h := OXC
                rw [← hxl] at h ⊢
                exact h.read prodRow_stab (by simp) (by simp)
              have hPc : Prods [] wo (.slice (some ⟨bp, op, none⟩) ps.length C) ps := HP3'.out.mv0 K3c
              have HXY := Lib.hid (Prods.mv (S' := [wo.heap.size]) hPc ((Keep.refl [] wo).alloc (.cells #[.slice (some ⟨bp, op, none⟩) ps.length C, .slice K m D] 25)) (by simp))
              have HXc := Lib.hid hXc
              have HXM := Lib.hid hxm
              have HK3c := Lib.hid K3c
              have hb9 : w3.heap.size < wo.heap.size ∧ w.heap.size < wo.heap.size ∧ g < wo.heap.size ∧ bp < wo.heap.size := by omega
              obtain ⟨hb9a, hb9b, hb9c, hb9d⟩ := hb9
              have c9 := B3c.cell
              have f9c := B3c.frozen
              have HB9c := Lib.hid B9c
              have HB3c := Lib.hid B3c
              have HHH := Lib.hid (⟨hgg, hl7⟩ : _ ∧ _)
              clear hxs hxm hXc hPc OXC KC hp B9c B3c K3c HB9 HB3 HOX7 HAL HGS HKP HS9 HPX HW7 hgg hl7
              go_wp2_with (at_builtin; refine Hid.out ?_)
              refine Lib.hid ?_
              refine wpList_append_new prodRow_stab prodRow_one rfl _ _ 22 rfl Tryz.underlying22 hip hip0 hip1 hip2 rfl (by omega) [wo.heap.size] wo.heap.size (some ⟨bp, op, none⟩) ps.length C rfl rfl HXY.out (by omega) (by omega) (by simp) ?_
              intro AY CY wY hOY hKY hnY
              obtain ⟨g2, rfl, hg1, hg2⟩ := hOY.form (by omega)
              have hgg2 : g2 = wo.heap.size + 1 := by simpa [ownB, Value.ownBlock] using hnY g2 (by simp [ownB, Value.ownBlock])
              have KcY : Keep [] wo wY := ((Keep.refl [] wo).alloc _).trans hKY
              have B3Y := HB3c.out.keep KcY (by simp)
              have B9Y := HB9c.out.keep KcY (by simp)
              have BYY := (Blk.new wo #[.slice (some ⟨bp, op, none⟩) ps.length C, .slice K m D] 25).keep hKY (by simp)
              have b10 := BYY.cell
              have f10 := BYY.frozen
              have HB3Y := Lib.hid B3Y
              have HB9Y := Lib.hid B9Y
              have HBYY := Lib.hid BYY
              have HOY := Lib.hid hOY
              have HKY := Lib.hid KcY
              have hgy : wo.heap.size + 1 < wY.heap.size := by omega
              have HGY := Lib.hid hgg2
              clear B3Y B9Y BYY hOY hKY hnY hgg2 hg1 hg2 KcY c9 f9c
              go_wp2
              obtain ⟨WA, hWA⟩ : ∃ W, W = wY.setCell ⟨wo.heap.size, 0, none⟩ (.slice (some ⟨g2, 0, none⟩) ps.length CY) := ⟨_, rfl⟩
              rw [← hWA]
              clear b10 f10
              have KSA : Keep [wo.heap.size] wY WA := by rw [hWA]; exact (Keep.refl _ _).setCell (.inl (by simp)) _
              have B9 : Blk WA wo.heap.size #[.slice (some ⟨g2, 0, none⟩) ps.length CY, .slice K m D] 25 := by rw [hWA]; simpa using HBYY.out.set 0 (.slice (some ⟨g2, 0, none⟩) ps.length CY)
              have B3' := HB3Y.out.keep KSA (by simp; omega)
              have OYA := HOY.out.move prodRow_stab (S' := [wo.heap.size]) KSA (fun x hx => .inl ⟨hx, by have := HGY.out; simp at hx; simp [ownB, Value.ownBlock]; omega⟩) (fun x hx => .inl hx)
              have KA : Keep [] wo WA := HKY.out.then KSA (by simp)
              have hYA : Prods [] WA (.slice (some ⟨g2, 0, none⟩) ps.length CY) ps := OYA.read prodRow_stab (by simp) (by simp)
              obtain ⟨bg, og, A3, C3, N3, F3, he, _, gcA, _, _, _, _⟩ := hYA.pick n hn
              simp only [Option.some.injEq, Addr.mk.injEq, and_true] at he
              obtain ⟨rfl, rfl⟩ := he
              rw [Nat.zero_add] at gcA
              have gfA := OYA.frozen (by omega) (n * 3)
              have hlA : g2 < WA.heap.size ∧ wo.heap.size < WA.heap.size := by have := HGY.out; have := KSA.size; omega
              have pA := Keep.cell (T := []) (HK3c.out.trans KA) HP0'.out (by simp)
              have hkp : ∀ w', Keep [g2] WA w' → w'.cell? ⟨wo.heap.size, 0, none⟩ = some (.slice (some ⟨g2, 0, none⟩) ps.length CY) ∧ w'.cell? ⟨w.heap.size, 0, none⟩ = some (.slice (some ⟨bp, op, none⟩) ps.length C) ∧ w'.cell? ⟨bp, op + n * 3, none⟩ = some (.slice A2 ps[n].a.length C2) := fun w' K' => by
                have hgg := HGY.out
                exact ⟨(B9.keep K' (by simp; omega)).cell 0, (B3'.keep K' (by simp; omega)).cell 0, Keep.cell (T := [g2]) K' pA (by simp; omega)⟩
              have hgs : ∀ w', Keep [] WA w' → w'.cell? ⟨g2, n * 3, none⟩ = some (.slice A3 ps[n].a.length C3) ∧ w'.frozen? ⟨g2, n * 3, none⟩ = false := fun w' K' =>
                ⟨Keep.cell (T := []) K' gcA (by simp), (World.frozen?_of_block (a := ⟨g2, n * 3, none⟩) (K'.block g2 hlA.1 (by simp))).trans gfA⟩
              have HGS := Lib.hid hgs
              clear hgs
              have HKP := Lib.hid hkp
              have HAL := Lib.hid (SlOf.move (S' := [g2, wo.heap.size]) HAl.out altRow_stab (by omega) (HK3c.out.trans KA) (by simp) (fun x hx => by have := HGY.out; have := HK3c.out.size; simp at hx; rcases hx with rfl | rfl <;> exact .inr (by omega)))
              have Kd := (Keep.refl [] WA).drew
              have HWA := Lib.hid hWA
              have HOYA := Lib.hid OYA
              have HKA := Lib.hid KA
              have HLA := Lib.hid hlA
              have HB9 := Lib.hid B9
              have HB3 := Lib.hid B3'
              clear hkp OYA KA hYA gcA gfA pA KSA B9 B3' hWA hlA HOY HBYY HB3Y HKY
              have HSA := Lib.hid (fun (x : Nat) (hx : x ∈ [g2, wo.heap.size]) => (by have := HGY.out; have := HLA.out; simp at hx; omega : wo.heap.size ≤ x ∧ x < WA.heap.size))
              go_cut [] from 76 to 89 (fun wx => AltsIn [wo.heap.size] WA wo.heap.size g2 CY ps n (ps[n].a ++ [[]]) wx)
              case first =>
                first
                  | (go_region_held3 (fun w' => w'.cell? ⟨wo.heap.size, 0, none⟩ = some (.slice (some ⟨g2, 0, none⟩) ps.length CY) ∧ w'.cell? ⟨w.heap.size, 0, none⟩ = some (.slice (some ⟨bp, op, none⟩) ps.length C) ∧ w'.cell? ⟨bp, op + n * 3, none⟩ = some (.slice A2 ps[n].a.length C2))
                    (first | exact HKP.out _ (Keep.mono (S := []) (by assumption) (by simp)) | exact HKP.out _ (Keep.mono (S := []) (Keep.alloc (by assumption) _) (by simp)) | exact HKP.out _ (Keep.mono (S := []) (((Keep.refl [] WA).alloc _).drew) (by simp)) | exact HKP.out _ (Keep.setCell (Keep.mono (S := []) (by assumption) (by simp)) (.inl (by simp)) _))
                    (first
                      | (refine step_append_new altRow_stab altRow_one rfl _ _ 34 rfl Tryz.underlying34 hia hia0 hia1 hia2 rfl (by omega) [g2, wo.heap.size] WA.heap.size A2 ps[n].a.length C2 rfl rfl (SlOf.move HAL.out altRow_stab (by omega) (by first | assumption | exact ((Keep.refl [] WA).alloc _).drew : Keep [] WA _) (by simp) (fun x hx => .inl hx)) (by omega) (by omega) (by simp) ?_; intro A8 C8 w8 O8' K8 n8'; have O8 := Lib.hid O8'; have n8 := Lib.hid n8'; clear O8' n8'; have K9 : Keep [] WA _ := Keep.trans (by first | assumption | exact ((Keep.refl [] WA).alloc _).drew) K8)
                      | (refine step_append_data altRow_stab altRow_one rfl _ _ 34 rfl Tryz.underlying34 hia hia0 hia1 hia2 rfl (by omega) (S := [g2, wo.heap.size]) (base := WA.heap.size) (v := .slice A8 ps[n].a.length C8) (A := some ⟨w8.heap.size, 0, none⟩) (m := 1) (C := 1) (xs := ps[n].a) (ys := [[]]) rfl rfl (O8.out.move altRow_stab (S' := [g2, wo.heap.size]) ((Keep.refl [] w8).alloc _) (by simp) (fun x hx => .inl hx))
                          (one_src (SlOf.nil [] wo 3) (HKA.out.trans (K9.alloc _)) (fun x hx => by rcases List.mem_append.1 hx with hx | hx; have := (O8.out.base x hx).1; have := HLA.out.2; omega; exact (HSA.out x hx).1) (Blk.new w8 _ 40) (fun hx => by rcases List.mem_append.1 hx with hx | hx; have := (O8.out.base _ hx).2; omega; have := (HSA.out _ hx).2; have := K9.size; omega)) (by simp; omega) (by simp; omega) (by have := K9.size; simp; omega) ?_; intro A9 C9 w9 O9' K9' n9; have O9 := Lib.hid O9'; have K10 : Keep [] WA w9 := (K9.alloc _).then K9' (fun x hx => .inr (O8.out.base x hx).1); clear O9' n9; obtain ⟨gcA9, gfA9⟩ := HGS.out _ K10)
                      | (refine step_append_data altRow_stab altRow_one rfl _ _ 34 rfl Tryz.underlying34 hia hia0 hia1 hia2 rfl (by omega) (S := [g2, wo.heap.size]) (base := WA.heap.size) (v := .slice A8 ps[n].a.length C8) (A := some ⟨WA.heap.size, 0, none⟩) (m := 1) (C := 1) (xs := ps[n].a) (ys := [[]]) rfl rfl O8.out
                          (one_src (SlOf.nil [] wo 3) (HKA.out.trans K9) (fun x hx => by rcases List.mem_append.1 hx with hx | hx; have := (O8.out.base x hx).1; have := HLA.out.2; omega; exact (HSA.out x hx).1) (((Blk.new WA _ 40).drew).keep K8 (by simp)) (fun hx => by rcases List.mem_append.1 hx with hx | hx; have := n8.out _ hx; simp at this; have := (HSA.out _ hx).2; omega)) (by simp; omega) (by simp; omega) (by have := K9.size; omega) ?_; intro A9 C9 w9 O9' K9' n9; have O9 := Lib.hid O9'; have K10 : Keep [] WA w9 := K9.then K9' (fun x hx => .inr (O8.out.base x hx).1); clear O9' n9; obtain ⟨gcA9, gfA9⟩ := HGS.out _ K10)))
                  | fail
                all_goals
                  go_wp2_with fail
                  go_meet
                  exact altsIn (al := ps[n].a ++ [[]]) HOYA.out hn K10 (fun x hx => (HSA.out x hx).2) (by simp) O9.out
              case rest =>
                obtain ⟨KD, p, hp, OYD⟩ := hcut
                obtain rfl : ps[n] = p := by rw [List.getElem?_eq_getElem hn] at hp; exact Option.some.inj hp
                rw [← moreP_eq ps n [] hn] at OYD
                have Koc : Keep [] wo wc := HKA.out.then KD (fun x hx => by have := HGY.out; simp at hx; exact .inr (by omega))
                have K3c : Keep [] w3 wc := HK3c.out.trans Koc
                have hyl : (moreP ps n []).length = ps.length := moreP_len ps n []
                have hYd : Prods [] wc (.slice (some ⟨g2, 0, none⟩) (moreP ps n []).length CY) (moreP ps n []) := by
                  rw [← hyl] at OYD
                  exact OYD.read prodRow_stab (by simp) (by simp)
                rw [hyl] at hYd
                have hXd : Prods [] wc (.slice (some ⟨g, 0, none⟩) ps.length CX) xs := HXc.out.mv0 Koc
                have hPd : Prods [] wc (.slice (some ⟨bp, op, none⟩) ps.length C) ps := HP3'.out.mv0 K3c
                have hgy := HGY.out
                have Bd3 := HB3.out.keep KD (by simp; omega)
                have Bd10 := HB9.out.keep KD (by simp; omega)
                have Bd9 := HB9c.out.keep Koc (by simp)
                have hfr : ∀ (A' K' : Option Addr) (C' m' D' : Nat) (qs : List ProdS) (w' : World), Prods [] w' (.slice A' ps.length C') qs → qs.length = ps.length → Calls Tryz.prog 16 #[.agg #[.slice A' ps.length C', .slice K' m' D'], .int .i64 n] w' fun e w'' => (∃ v, e = .returned v ∧ BoolV w'' w'.heap.size v (fromR qs n)) ∧ Keep [] w' w'' := fun A' K' C' m' D' qs w' h hk => by
                  rw [← hk] at h ⊢
                  exact from_any [] A' K' C' m' D' qs n w' h (by simp)
                have hsp := HFW.out (by simp) hg
                have hsx : SmallG xs := by rw [HXM.out]; exact small_more hn hsp (small_self n)
                have hsy := small_more hn hsp small_nil
                have hpl := self_plain someF hn hg ha0
                rw [← HXM.out] at hpl
                have HPL := Lib.hid hpl
                have HSP := Lib.hid hsp
                have HSX := Lib.hid hsx
                have HSY := Lib.hid hsy
                clear hsp hsx hsy hpl
                have hmm : ∀ (A' K' : Option Addr) (C' m' D' : Nat) (qs : List ProdS) (w' : World), Prods [] w' (.slice A' ps.length C') qs → qs.length = ps.length → Hid (SmallG qs) → Calls Tryz.prog 18 #[.agg #[.slice A' ps.length C', .slice K' m' D']] w' fun e w'' => (∃ v, e = .returned v ∧ BoolV w'' w'.heap.size v (makesR someF qs)) ∧ Keep [] w' w'' := fun A' K' C' m' D' qs w' h hk hs => by
                  rw [← hk] at h ⊢
                  exact makesR_any someF [] A' K' C' m' D' qs w' h (by simp) (somesOK_small hs.out)
                have HFR := Lib.hid hfr
                have HMM := Lib.hid hmm
                have HKW := Lib.hid (KF3.trans K3c)
                have HXL := Lib.hid (⟨hxl, hyl⟩ : _ ∧ _)
                generalize moreP ps n [] = ys at hYd HXL HPL HSY
                have c9 := Bd9.cell
                clear hfr hmm OYD KD Koc K3c hp hgy HKP HGS HAL HOYA HHH HB3 HB9 HB9c HB3c
                go_wp2_with fail
                refine (HFR.out _ _ _ _ _ xs _ hXd HXL.out.1).mono ?_
                rintro e wa ⟨⟨v1, rfl, hv1⟩, Ka⟩
                have c3 := (Bd3.keep Ka (by simp)).cell
                clear c9
                go_wp2_with fail
                refine (HMM.out _ _ _ _ _ ps _ (hPd.mv0 Ka) rfl HSP).mono ?_
                rintro e wb ⟨⟨v2, rfl, hv2⟩, Kb⟩
                have Kab := Ka.trans Kb
                have c9 := (Bd9.keep Kab (by simp)).cell
                clear c3
                go_wp2_with fail
                refine (HMM.out _ _ _ _ _ xs _ (hXd.mv0 Kab) HXL.out.1 HSX).mono ?_
                rintro e wd ⟨⟨v3, rfl, hv3⟩, Kd'⟩
                have Kad := Kab.trans Kd'
                have c10 := (Bd10.keep Kad (by simp)).cell
                clear c9
                go_wp2_with fail
                refine (HMM.out _ _ _ _ _ ys _ (hYd.mv0 Kad) HXL.out.2 HSY).mono ?_
                rintro e we ⟨⟨v4, rfl, hv4⟩, Ke⟩
                have hf1 := ((hv1.keep Kb (by simp)).keep Kd' (by simp)).keep Ke (by simp)
                have hf2 := (hv2.keep Kd' (by simp)).keep Ke (by simp)
                have hf3 := hv3.keep Ke (by simp)
                obtain ⟨V1, D1, rfl, hc1, hr1⟩ := hf1.cells
                obtain ⟨V2, D2, rfl, hc2, hr2⟩ := hf2.cells
                obtain ⟨V3, D3, rfl, hc3, hr3⟩ := hf3.cells
                obtain ⟨V4, D4, rfl, hc4, hr4⟩ := hv4.cells
                obtain ⟨⟨hl1, hl2, hl3, hl4⟩, hpl⟩ := HPL.out
                obtain ⟨r1, rfl, hs1⟩ := hr1 (by omega)
                obtain ⟨r2, rfl, hs2⟩ := hr2 (by omega)
                obtain ⟨r3, rfl, hs3⟩ := hr3 (by omega)
                obtain ⟨r4, rfl, hs4⟩ := hr4 (by omega)
                obtain ⟨b, q1, q2, q3, q4⟩ : ∃ b, we.cell? ⟨r1, n, none⟩ = some (.bool true) ∧ we.cell? ⟨r2, n, none⟩ = some (.bool b) ∧ we.cell? ⟨r3, n, none⟩ = some (.bool b) ∧ we.cell? ⟨r4, n, none⟩ = some (.bool true)  := by
                  obtain ⟨e1, e2, e3⟩ := hpl (by omega) (by omega) (by omega) (by omega)
                  refine ⟨(makesR someF ps)[n], ?_, ?_, ?_, ?_⟩
                  · rw [hs1 n (by omega), e1]
                  · exact hs2 n (by omega)
                  · rw [hs3 n (by omega), e2]
                  · rw [hs4 n (by omega), e3]
                rw [hl1, hl2, hl3, hl4]
                have c3 := (Bd3.keep (Kad.trans Ke) (by simp)).cell
                have HKZ := Lib.hid (HKW.out.trans (Kad.trans Ke))
                clear hpl HPL HSP HSX HSY hr1 hr2 hr3 hr4 hs1 hs2 hs3 hs4 hc1 hc2 hc3 hc4 hl1 hl2 hl3 hl4 hf1 hf2 hf3 hv1 hv2 hv3 hv4 c10 hXd hYd hPd Ka Kb Kab Kd' Kad Ke Bd3 Bd9 Bd10 HFR HMM
                go_wp2
                go_quiet (fail)
                cases b <;> (go_wp2; go_ret; exact ⟨rfl, HKZ.out.drewN _⟩)
end Go.Proofs.YtacihjabkiedcaaGreatDoor
namespace Go.Proofs.YtacihjabkiedcaaGreatDoor.RowRS
open Go.ChangeShapes Go.WideShapes Go.ChangeAt Go.RowKit Go.Joins Go.Deep Go.Proofs.YtacihjabkiedcaaGreatDoor.RowG

def zeroA : Array Value := #[.agg #[.slice none 0 0, .slice none 0 0], .int .i64 0]
set_option maxRecDepth 100000 in
theorem laid_met (os : Os) : laidMet Tryz.prog laid2 ((laidWorld os).forCall (fun _ _ => 0) ⟨#[], zeroA, []⟩).memory :=
  laidMet_of_run' 8 (by kernel_rfl) (by kernel_rfl)
theorem reads (os : Os) {H : Type} (enc : TypeId × Value → H) : ∃ places, DataW.whole enc Tryz.prog ((laidWorld os).forCall (fun _ _ => 0) ⟨#[], zeroA, []⟩).memory Tryz.f5.params.toList Rows.reachSelfSpec.vars false zeroA.toList 8 = some ([.agg [.nil, .nil], .lit (.int .i64 0)], [], places) :=
  ⟨[], by kernel_rfl⟩
set_option maxRecDepth 100000 in
set_option maxHeartbeats 1000000 in
theorem contract (H : Type) (enc : TypeId × Value → H) (W : World) (args : Array Value) (ds gs : List (DataW H)) (before : List MemPlace) (base : Nat)
    (hval : ∀ (j : Nat) t v, Tryz.f5.params[j]? = some t → args[j]? = some v → Value.okWide Tryz.prog W .any base t v)
    (hW : DataW.Whole enc Tryz.prog Tryz.f5.params.toList Rows.reachSelfSpec.vars false W args.toList ds gs before) :
    Calls Tryz.prog 5 args W fun e W' => ∃ v, e = .returned v ∧ Rows.reachSelfSpec.post enc Tryz.prog Tryz.f5 false true false false W args v W' := by
  have hW' := hW
  obtain ⟨p, q, hA0, hV, rfl, hfz, hnd⟩ := hW
  have hA : DataW.TrodAll enc Tryz.prog W 0 (fun _ => true) true Tryz.f5.params.toList args.toList ds p := hA0
  rw [Tryz.params5] at hA hval
  obtain ⟨v0, vs0, d0, ds0, p0, q0, hargs, rfl, rfl, h0, r0⟩ := trodAll_cons hA
  obtain ⟨v1, vs1, d1, ds1, p1, q1, rfl, rfl, rfl, h1, r1⟩ := trodAll_cons r0
  obtain ⟨rfl, rfl, rfl⟩ := trodAll_nil r1
  obtain rfl : args = #[v0, v1] := by cases args; simp_all
  obtain ⟨rfl, rfl⟩ := trodVars_none hV
  have k0 := h0
  have lt0 : ∀ x ∈ p0, x.block < W.heap.size := by obtain ⟨m, hm⟩ := k0; exact DataW.trod_lt m _ _ _ hm
  obtain ⟨A0, ps0, C0, K0, m0, D0, rfl, hp0, hm0⟩ := open_gram rfl (hval 0 _ v0 rfl rfl) h0
  obtain ⟨a1, rfl, rfl, rfl, w1⟩ := open_int Tryz.underlying3 (hval 1 _ v1 rfl rfl) h1
  clear hA0
  refine (reachSelf_walk A0 K0 C0 m0 D0 ps0 a1 W hp0 hm0).mono fun e W' ⟨he, kp⟩ => ?_
  have bel := kp.below
  subst he
  exact ⟨_, rfl, _, _, _, [], _, [], hW', trodAll_mk1 (shut_bool Tryz.underlying4 _), (trodAll_cons_mk (Below.trod laidOut (by kernel_rfl) (of_decide_eq_true (by kernel_rfl)) k0 bel lt0) (trodAll_cons_mk (shut_int Tryz.underlying3 w1) trodAll_mk0)), rfl, bel.frame _, fun h => by cases h⟩

set_option maxRecDepth 100000 in
theorem lifted (os : Os) (started : os.Started) (H : Type) (enc : TypeId × Value → H) (F : Stop.Interp) :
    ReturnsInHanded {} Tryz.checked os 5 .any ((OpenSpec.ofChange Rows.reachSelfSpec).preRow enc Tryz.prog Tryz.f5 Rows.reachSelfRow.domain false Rows.reachSelfRow.laid) (((OpenSpec.ofChange Rows.reachSelfSpec).at F).post enc Tryz.prog Tryz.f5 false true false false) := by
  obtain ⟨places, hx⟩ := reads os enc
  refine returnsInHanded_of_row (C := Tryz.checked) (s := OpenSpec.ofChange Rows.reachSelfSpec) own started (by kernel_rfl) Tryz.func5
    (witness_row_at (enc := enc) (C := Tryz.checked) false (laidWorld os) zeroA rfl (by kernel_rfl) (by kernel_rfl) (by kernel_rfl)
      (OpenSpec.preRow_of_cond 8 hx (by kernel_rfl) (fun k hk => by cases hk) (by kernel_rfl) (laid_met os))) ?_
  intro W base args ds gs before hval hW _ _ _ _ _ _
  exact contract H enc W args ds gs before base hval hW

theorem said : Rows.ReachSelfSaid :=
  OpenClaim.holds_of_cond 5 Tryz.f5 rfl rfl rfl rfl rfl rfl rfl ⟨rfl, rfl, rfl, rfl, rfl⟩ rfl rfl rfl rfl rfl (by kernel_rfl) Tryz.func5 (by kernel_rfl)
    (of_decide_eq_true (by kernel_rfl)) (by unfold Func.isWrapper; first | (rw [if_pos (by decide +kernel)]; kernel_rfl) | (rw [if_neg (by decide +kernel)]; exact ⟨rfl, rfl⟩))
    (fun os started H enc _ F => by rw [OpenClaim.pre_eq_preRow]; exact lifted os started H enc F)

theorem plain (f : FuncId) (fn : Func) (hf : Tryz.pinned.checked.prog.funcNamed "exegete/exegetelaw11.ReachSelf" = some f) (hfn : Tryz.pinned.checked.prog.funcs[f]? = some fn) :
    true = Tryz.pinned.checked.prog.looks [] ∧ ∀ (j : Nat) t, fn.params[j]? = some t → Tryz.pinned.checked.prog.wantsStandIn t = false := by
  obtain rfl : f = 5 := Option.some.inj ((show Tryz.prog.funcNamed "exegete/exegetelaw11.ReachSelf" = some 5 by kernel_rfl).symm.trans hf) |>.symm
  obtain rfl : fn = Tryz.f5 := (Option.some.inj (Tryz.func5.symm.trans hfn)).symm
  refine ⟨by kernel_rfl, fun j t ht => ?_⟩
  rw [Tryz.params5] at ht
  have hm : t = 25 ∨ t = 3 := by simpa [or_assoc] using Array.mem_of_getElem? ht
  rcases hm with rfl | rfl
  · exact (show Tryz.prog.wantsStandIn 25 = false by kernel_rfl)
  · exact (show Tryz.prog.wantsStandIn 3 = false by kernel_rfl)

theorem card : Rows.ReachSelfCardSaid :=
  Claim7.holds_tied_plain_at .later [] _ _ _ _ said (fun _ h => by cases h) (by kernel_rfl) (fun _ h => by cases h) reachSelf_row_tie rfl ⟨rfl, rfl⟩ (by kernel_rfl) rfl plain (by kernel_rfl)
end Go.Proofs.YtacihjabkiedcaaGreatDoor.RowRS
namespace Go.Proofs.YtacihjabkiedcaaGreatDoor
/-- The card of the law. -/
theorem reachSelf_card : Rows.ReachSelfCardSaid := RowRS.card
#print axioms reachSelf_card
end Go.Proofs.YtacihjabkiedcaaGreatDoor
