/- The law RankSelf, as its row and its card state it: for every input it answers true and the arguments read as before. -/
import Derived.Test.YtbpidoiellcccaaGreatDoorK27
import Derived.Test.YtbpidoiellcccaaGreatDoorK25
import Derived.Test.YtbpidoiellcccaaGreatDoorK26
import Derived.Deep.RegionHeld3
import Derived.Deep.DeepCutAuto
import Derived.Test.YtbpidoiellcccaaGreatDoorK17
set_option linter.unusedVariables false
set_option linter.unusedSimpArgs false
namespace Go.Proofs.YtbpidoiellcccaaGreatDoor
open Go Go.RowKit Go.MapKept

theorem self_circle {ps : List ProdS} {n : Nat} (hg : gmay ps = true) (hn : n < ps.length) (h7 : ps[n].a.length ≤ 7) {r : List Int} {b : Bool} {z : Int} (h : OrdIs (moreP ps n [⟨2, [], n⟩]) r b) (hc : CirIs (moreP ps n [⟨2, [], n⟩]) z) : b = false ∧ ∃ k : Nat, z = k ∧ k ≤ n := by
  have hg2 := moreP_gmay ps n [⟨2, [], n⟩] hn hg h7 (self_odd ps n hn)
  have hl2 : n < (moreP ps n [⟨2, [], n⟩]).length := by rw [moreP_len]; exact hn
  have hmem : (n : Int) ∈ leftsR (moreP ps n [⟨2, [], n⟩]) n := by
    have := leftsR_first (moreP ps n [⟨2, [], n⟩]) n hg2 hl2 [⟨2, [], n⟩] (by
      have e : (moreP ps n [⟨2, [], n⟩])[n] = ⟨ps[n].a ++ [[⟨2, [], n⟩]], ps[n].marks, ps[n].nt⟩ := by simp [moreP_eq ps n _ hn]
      rw [e]; simp) (by simp) rfl
    exact this
  have hcm : Comes (lfP (moreP ps n [⟨2, [], n⟩])) n n := .one ((lfP_mem hl2).2 hmem)
  refine ⟨(h.circle hg2).2 ⟨n, hl2, hcm⟩, ?_⟩
  rcases hc with ⟨h0, _⟩ | ⟨_, hc⟩
  · rw [hg2] at h0; cases h0
  · rcases hc with ⟨rfl, hc⟩ | ⟨k, rfl, _, hk⟩
    · exact absurd ⟨hl2, hcm⟩ (hc n)
    · exact ⟨k, rfl, hk n ⟨hl2, hcm⟩⟩
set_option maxRecDepth 20000 in
set_option maxHeartbeats 4000000 in
theorem rankSelf_walk (A K : Option Addr) (C m D : Nat) (ps : List ProdS) (i : Int) (w : World) (HP : Prods [] w (.slice A ps.length C) ps) (hmk : m ≤ 9223372036854775807) :
    Calls Tryz.prog 6 #[.agg #[.slice A ps.length C, .slice K m D], .int .i64 i] w fun e w' => e = .returned (.bool true) ∧ Keep [] w w' := by
  have K0 := (Keep.refl [] w).alloc (.cells #[.slice A ps.length C, .slice K m D] 25)
  have HP0 : Prods [] _ (.slice A ps.length C) ps := HP.mv0 K0
  have B0 := Blk.new w #[.slice A ps.length C, .slice K m D] 25
  clear HP
  go_enter Tryz.func6, Tryz.ntmps6
  go_wp2_with fail
  refine (awakeR_any _).mono ?_
  rintro e w1 ⟨rfl, K1⟩
  have B1 := B0.keep K1 (by simp)
  have b1 := B1.cell
  have HP1 : Prods [] w1 (.slice A ps.length C) ps := HP0.mv0 K1
  go_wp2_with fail
  refine (few_any [] A K C m D ps _ HP1 hmk).mono ?_
  rintro e w2 ⟨⟨fw, rfl⟩, K2⟩
  have B2 := B1.keep K2 (by simp)
  have b2 := B2.cell
  have HP2 : Prods [] w2 (.slice A ps.length C) ps := HP1.mv0 K2
  have KF2 := (K0.trans K1).trans K2
  clear HP0 HP1 B0 B1 b1
  cases fw with
  | false =>
    go_wp2
    go_ret
    exact ⟨rfl, KF2⟩
  | true =>
    have hc3 := may_any [] (.slice A ps.length C) (.slice K m D) ps _ HP2
    have HC3 := Lib.hid hc3
    clear hc3
    go_wp2_with fail
    refine HC3.out.mono ?_
    rintro e w3 ⟨rfl, K3⟩
    have B3 := B2.keep K3 (by simp)
    have b3 := B3.cell
    have HP3 : Prods [] w3 (.slice A ps.length C) ps := HP2.mv0 K3
    have KF3 := KF2.trans K3
    clear HP2 B2 b2 HC3
    cases hg : gmay ps with
    | false =>
      go_wp2
      go_ret
      exact ⟨rfl, KF3⟩
    | true =>
      by_cases hi0 : i < 0
      · clear HP3
        go_wp2
        go_ret
        exact ⟨rfl, KF3⟩
      · by_cases hi1 : (ps.length : Int) ≤ i
        · have hi0' : 0 ≤ i := by omega
          clear HP3 hi0
          go_wp2
          go_ret
          exact ⟨rfl, KF3⟩
        · obtain ⟨n, rfl⟩ : ∃ n : Nat, i = n := ⟨i.toNat, by omega⟩
          have hn : n < ps.length := by omega
          have hn' : (n : Int) < (ps.length : Int) := by omega
          have hd0 : decide ((n : Int) < 0) = false := by simp
          have hd1 : decide (ps.length ≤ n) = false := by simp; omega
          clear hi0 hi1
          obtain ⟨bp, op, A2, C2, N2, F2, rfl, _, p0, _, _, hAl, _⟩ := HP3.pick n hn
          have HAl := Lib.hid hAl
          clear hAl
          by_cases ha : 7 < ps[n].a.length
          · have ha' : (7 : Int) < (ps[n].a.length : Int) := by omega
            clear HP3
            go_wp2
            go_ret
            exact ⟨rfl, KF3⟩
          · have ha' : (ps[n].a.length : Int) ≤ 7 := by omega
            have ha0 : ps[n].a.length ≤ 7 := by omega
            obtain ⟨hl0, hl1⟩ := gmay_len hg
            obtain ⟨ip, hip, hip0, hip1, hip2⟩ := info_parts info_prod2
            obtain ⟨hal0, hal1, _⟩ := gmay_alt hg ps[n] (List.getElem_mem _)
            have hbl : bp < w3.heap.size := World.block_lt_of_cell? w3 _ p0
            have hlt := B3.lt
            obtain ⟨ia, hia, hia0, hia1, hia2⟩ := info_parts info_alt2
            have HP3' := Lib.hid HP3
            have HPX := Lib.hid (Prods.mv (S' := [w3.heap.size]) HP3 ((Keep.refl [] w3).alloc (.cells #[.slice (some ⟨bp, op, none⟩) ps.length C, .slice K m D] 25)) (by simp))
            clear HP3
            go_wp2_with (at_builtin; refine Hid.out ?_)
            refine Lib.hid ?_
            refine wpList_append_new prodRow_stab prodRow_one rfl _ _ 22 rfl Tryz.underlying22 hip hip0 hip1 hip2 rfl (by omega) [w3.heap.size] w3.heap.size (some ⟨bp, op, none⟩) ps.length C rfl rfl HPX.out (by omega) (by omega) (by simp) ?_
            intro AX CX wX hOX hKX hnX
            obtain ⟨g, rfl, hg1, hg2⟩ := hOX.form (by omega)
            have hgg : g = w3.heap.size + 1 := by simpa [ownB, Value.ownBlock] using hnX g (by simp [ownB, Value.ownBlock])
            have K3X : Keep [] w3 wX := ((Keep.refl [] w3).alloc _).trans hKX
            have B3X := B3.keep K3X (by simp)
            have B9X := (Blk.new w3 #[.slice (some ⟨bp, op, none⟩) ps.length C, .slice K m D] 25).keep hKX (by simp)
            have b9 := B9X.cell
            have f9 := B9X.frozen
            have HB3X := Lib.hid B3X
            have HB9X := Lib.hid B9X
            have HOX := Lib.hid hOX
            have HKX := Lib.hid K3X
            have hgx : w3.heap.size + 1 < wX.heap.size := by omega
            have HGG := Lib.hid hgg
            clear B3X B9X hOX hKX hnX hgg hg1 hg2 K3X b3
            have HP0' := Lib.hid p0
            clear p0
            go_wp2
            obtain ⟨W7, hW7⟩ : ∃ W, W = wX.setCell ⟨w3.heap.size, 0, none⟩ (.slice (some ⟨g, 0, none⟩) ps.length CX) := ⟨_, rfl⟩
            rw [← hW7]
            clear b9 f9
            have KS7 : Keep [w3.heap.size] wX W7 := by rw [hW7]; exact (Keep.refl _ _).setCell (.inl (by simp)) _
            have B9 : Blk W7 w3.heap.size #[.slice (some ⟨g, 0, none⟩) ps.length CX, .slice K m D] 25 := by rw [hW7]; simpa using HB9X.out.set 0 (.slice (some ⟨g, 0, none⟩) ps.length CX)
            have B3' := HB3X.out.keep KS7 (by simp; omega)
            have OX7 := HOX.out.move prodRow_stab (S' := [w3.heap.size]) KS7 (fun x hx => .inl ⟨hx, by have := HGG.out; simp at hx; simp [ownB, Value.ownBlock]; omega⟩) (fun x hx => .inl hx)
            have K7 : Keep [] w3 W7 := HKX.out.then KS7 (by simp)
            have hX7 : Prods [] W7 (.slice (some ⟨g, 0, none⟩) ps.length CX) ps := OX7.read prodRow_stab (by simp) (by simp)
            obtain ⟨bg, og, A3, C3, N3, F3, he, _, gc, _, _, _, _⟩ := hX7.pick n hn
            simp only [Option.some.injEq, Addr.mk.injEq, and_true] at he
            obtain ⟨rfl, rfl⟩ := he
            rw [Nat.zero_add] at gc
            have gf := OX7.frozen (by omega) (n * 3)
            have hl7 : g < W7.heap.size ∧ w3.heap.size < W7.heap.size := by have := HGG.out; have := KS7.size; omega
            have p7 := Keep.cell (T := []) K7 HP0'.out (by simp)
            have hal7 := HAl.out.mv0 K7
            have hkp : ∀ w', Keep [g] W7 w' → w'.cell? ⟨w3.heap.size, 0, none⟩ = some (.slice (some ⟨g, 0, none⟩) ps.length CX) ∧ w'.cell? ⟨w.heap.size, 0, none⟩ = some (.slice (some ⟨bp, op, none⟩) ps.length C) ∧ w'.cell? ⟨bp, op + n * 3, none⟩ = some (.slice A2 ps[n].a.length C2) := fun w' K' => by
              have hgg := HGG.out
              exact ⟨(B9.keep K' (by simp; omega)).cell 0, (B3'.keep K' (by simp; omega)).cell 0, Keep.cell (T := [g]) K' p7 (by simp; omega)⟩
            have hgs : ∀ w', Keep [] W7 w' → w'.cell? ⟨g, n * 3, none⟩ = some (.slice A3 ps[n].a.length C3) ∧ w'.frozen? ⟨g, n * 3, none⟩ = false := fun w' K' =>
              ⟨Keep.cell (T := []) K' gc (by simp), (World.frozen?_of_block (a := ⟨g, n * 3, none⟩) (K'.block g hl7.1 (by simp))).trans gf⟩
            have HGS := Lib.hid hgs
            clear hgs
            have HKP := Lib.hid hkp
            have HAL := Lib.hid (SlOf.move (S' := [g, w3.heap.size]) HAl.out altRow_stab (by omega) K7 (by simp) (fun x hx => by have := HGG.out; simp at hx; rcases hx with rfl | rfl <;> exact .inr (by omega)))
            have Kd := (Keep.refl [] W7).drew
            have HW7 := Lib.hid hW7
            have HOX7 := Lib.hid OX7
            have HK7 := Lib.hid K7
            have HL7 := Lib.hid hl7
            have HB9 := Lib.hid B9
            have HB3 := Lib.hid B3'
            clear hkp OX7 K7 hX7 gc gf p7 hal7 KS7 B9 B3' hW7 hl7 HOX HB9X HB3X HKX
            have HS9 := Lib.hid (fun (x : Nat) (hx : x ∈ [g, w3.heap.size]) => (by have := HGG.out; have := HL7.out; simp at hx; omega : w3.heap.size ≤ x ∧ x < W7.heap.size))
            go_cut [] from 52 to 68 (fun wx => AltsIn [w3.heap.size] W7 w3.heap.size g CX ps n (ps[n].a ++ [[⟨2, [], n⟩]]) wx)
            case first =>
              first
                | (go_region_held3 (fun w' => w'.cell? ⟨w3.heap.size, 0, none⟩ = some (.slice (some ⟨g, 0, none⟩) ps.length CX) ∧ w'.cell? ⟨w.heap.size, 0, none⟩ = some (.slice (some ⟨bp, op, none⟩) ps.length C) ∧ w'.cell? ⟨bp, op + n * 3, none⟩ = some (.slice A2 ps[n].a.length C2))
                  (first | exact HKP.out _ (Keep.mono (S := []) (by assumption) (by simp)) | exact HKP.out _ (Keep.mono (S := []) (Keep.alloc (by assumption) _) (by simp)) | exact HKP.out _ (Keep.mono (S := []) (Keep.alloc (Keep.alloc (by assumption) _) _) (by simp)) | exact HKP.out _ (Keep.mono (S := []) (((Keep.refl [] W7).alloc _).drew) (by simp)) | exact HKP.out _ (Keep.mono (S := []) ((((Keep.refl [] W7).alloc _).alloc _).drew) (by simp)) | exact HKP.out _ (Keep.setCell (Keep.mono (S := []) (by assumption) (by simp)) (.inl (by simp)) _))
                  (first
                    | (refine step_append_new altRow_stab altRow_one rfl _ _ 38 rfl Tryz.underlying38 hia hia0 hia1 hia2 rfl (by omega) [g, w3.heap.size] W7.heap.size A2 ps[n].a.length C2 rfl rfl (SlOf.move HAL.out altRow_stab (by omega) (by first | assumption | exact ((Keep.refl [] W7).alloc _).drew | exact (((Keep.refl [] W7).alloc _).alloc _).drew : Keep [] W7 _) (by simp) (fun x hx => .inl hx)) (by omega) (by omega) (by simp <;> omega) ?_; intro A8 C8 w8 O8' K8 n8'; have O8 := Lib.hid O8'; have n8 := Lib.hid n8'; clear O8' n8'; have K9 : Keep [] W7 _ := Keep.trans (by first | assumption | exact ((Keep.refl [] W7).alloc _).drew | exact (((Keep.refl [] W7).alloc _).alloc _).drew) K8)
                    | (refine step_append_data altRow_stab altRow_one rfl _ _ 38 rfl Tryz.underlying38 hia hia0 hia1 hia2 rfl (by omega) (S := [g, w3.heap.size]) (base := W7.heap.size) (v := .slice A8 ps[n].a.length C8) (A := some ⟨w8.heap.size + 1, 0, none⟩) (m := 1) (C := 1) (xs := ps[n].a) (ys := [[⟨2, [], n⟩]]) rfl rfl (O8.out.move altRow_stab (S' := [g, w3.heap.size]) (((Keep.refl [] w8).alloc _).alloc _) (by simp) (fun x hx => .inl hx)) (self_src (b1 := w8.heap.size) (T := 43) (T' := 44) ((Blk.new w8 _ 43).alloc _) (Blk.new' (w8.alloc _) _ 44 (b := w8.heap.size + 1) (by simp)) (fun hx => by rcases List.mem_append.1 hx with hx | hx; have := (O8.out.base _ hx).2; omega; have := (HS9.out _ hx).2; have := K9.size; omega) (fun hx => by rcases List.mem_append.1 hx with hx | hx; have := (O8.out.base _ hx).2; omega; have := (HS9.out _ hx).2; have := K9.size; omega)) (by simp; omega) (by simp; omega) (by have := K9.size; simp; omega) ?_; intro A9 C9 w9 O9' K9' n9; have O9 := Lib.hid O9'; have K10 : Keep [] W7 w9 := ((K9.alloc _).alloc _).then K9' (fun x hx => .inr (O8.out.base x hx).1); clear O9' n9; obtain ⟨gc9, gf9⟩ := HGS.out _ K10)
                    | (refine step_append_data altRow_stab altRow_one rfl _ _ 38 rfl Tryz.underlying38 hia hia0 hia1 hia2 rfl (by omega) (S := [g, w3.heap.size]) (base := W7.heap.size) (v := .slice A8 ps[n].a.length C8) (A := some ⟨w8.heap.size, 0, none⟩) (m := 1) (C := 1) (xs := ps[n].a) (ys := [[⟨2, [], n⟩]]) rfl rfl (O8.out.move altRow_stab (S' := [g, w3.heap.size]) ((Keep.refl [] w8).alloc _) (by simp) (fun x hx => .inl hx)) (self_src (b1 := W7.heap.size) (T := 43) (T' := 44) ((((Blk.new W7 _ 43).drew).keep K8 (by simp)).alloc _) (Blk.new w8 _ 44) (fun hx => by rcases List.mem_append.1 hx with hx | hx; exact absurd (n8.out _ hx) (by simp <;> omega); have := (HS9.out _ hx).2; omega) (fun hx => by rcases List.mem_append.1 hx with hx | hx; have := (O8.out.base _ hx).2; omega; have := (HS9.out _ hx).2; have := K9.size; omega)) (by simp; omega) (by simp; omega) (by have := K9.size; simp; omega) ?_; intro A9 C9 w9 O9' K9' n9; have O9 := Lib.hid O9'; have K10 : Keep [] W7 w9 := (K9.alloc _).then K9' (fun x hx => .inr (O8.out.base x hx).1); clear O9' n9; obtain ⟨gc9, gf9⟩ := HGS.out _ K10)
                    | (refine step_append_data altRow_stab altRow_one rfl _ _ 38 rfl Tryz.underlying38 hia hia0 hia1 hia2 rfl (by omega) (S := [g, w3.heap.size]) (base := W7.heap.size) (v := .slice A8 ps[n].a.length C8) (A := some ⟨W7.heap.size + 1, 0, none⟩) (m := 1) (C := 1) (xs := ps[n].a) (ys := [[⟨2, [], n⟩]]) rfl rfl O8.out (self_src (b1 := W7.heap.size) (T := 43) (T' := 44) ((((Blk.new W7 _ 43).alloc _).drew).keep K8 (by simp)) (((Blk.new' (W7.alloc _) _ 44 (b := W7.heap.size + 1) (by simp)).drew).keep K8 (by simp)) (fun hx => by rcases List.mem_append.1 hx with hx | hx; exact absurd (n8.out _ hx) (by simp <;> omega); have := (HS9.out _ hx).2; omega) (fun hx => by rcases List.mem_append.1 hx with hx | hx; exact absurd (n8.out _ hx) (by simp <;> omega); have := (HS9.out _ hx).2; omega)) (by simp; omega) (by simp; omega) (by have := K9.size; omega) ?_; intro A9 C9 w9 O9' K9' n9; have O9 := Lib.hid O9'; have K10 : Keep [] W7 w9 := K9.then K9' (fun x hx => .inr (O8.out.base x hx).1); clear O9' n9; obtain ⟨gc9, gf9⟩ := HGS.out _ K10)))
                | fail
              all_goals
                go_wp2_with fail
                go_meet
                exact altsIn (al := ps[n].a ++ [[⟨2, [], n⟩]]) HOX7.out hn K10 (fun x hx => (HS9.out x hx).2) (by simp) O9.out
            case rest =>
              obtain ⟨wo, rfl⟩ : ∃ wo : World, wo = wc := ⟨_, rfl⟩
              obtain ⟨KC, p, hp, OXC⟩ := hcut
              obtain rfl : ps[n] = p := by rw [List.getElem?_eq_getElem hn] at hp; exact Option.some.inj hp
              have K3c : Keep [] w3 wo := HK7.out.then KC (fun x hx => by have := HGG.out; simp at hx; exact .inr (by omega))
              have hgg := HGG.out
              have hl7 := HL7.out
              have B9c := HB9.out.keep KC (by simp; omega)
              have B3c := HB3.out.keep KC (by simp; omega)
              have hszc : W7.heap.size ≤ wo.heap.size := KC.size
              obtain ⟨xs, hxs⟩ : ∃ xs, xs = ps.set n ⟨ps[n].a ++ [[⟨2, [], n⟩]], ps[n].marks, ps[n].nt⟩ := ⟨_, rfl⟩
              rw [← hxs] at OXC
              have hxm : xs = moreP ps n [⟨2, [], n⟩] := by rw [hxs, moreP_eq ps n _ hn]
              have hxl : xs.length = ps.length := by rw [hxm, moreP_len]
              have hXc : Prods [] wo (.slice (some ⟨g, 0, none⟩) ps.length CX) xs := by
                have h := OXC
                rw [← hxl] at h ⊢
                exact h.read prodRow_stab (by simp) (by simp)
              have HXc := Lib.hid hXc
              have HK3c := Lib.hid K3c
              have hplain := fun r b z (h1 : OrdIs xs r b) (h2 : CirIs xs z) => self_circle hg hn ha0 (by rw [hxm] at h1; exact h1) (by rw [hxm] at h2; exact h2)
              have HPL := Lib.hid hplain
              have hmv : ∀ (x y : Value) (w : World), (Instr.extract (.tuple #[x, y]) 0).run Tryz.prog w = .ok x w := fun _ _ _ => rfl
              have hmv1 : ∀ (x y : Value) (w : World), (Instr.extract (.tuple #[x, y]) 1).run Tryz.prog w = .ok y w := fun _ _ _ => rfl
              have c9 := B9c.cell
              have HB9c := Lib.hid B9c
              have HOR := Lib.hid (orderR_rank (some ⟨g, 0, none⟩) K CX m D xs wo (by rw [hxl]; exact hXc))
              rw [hxl] at HOR
              have HXL := Lib.hid hxl
              have HKF := Lib.hid KF3
              clear hxs hxm hXc OXC KC hp B9c B3c K3c HB9 HB3 HOX7 HAL HGS HKP HS9 HPX HW7 hgg hl7 hplain hxl KF3
              go_wp2_with fail
              refine HOR.out.mono ?_
              rintro e w10 ⟨⟨v, r, b, rfl, NV, hO⟩, K10⟩
              have c10 := (HB9c.out.keep K10 (by simp)).cell
              have HCI := Lib.hid (circle_any (some ⟨g, 0, none⟩) K CX m D xs w10 (by rw [HXL.out]; exact HXc.out.mv0 K10))
              rw [HXL.out] at HCI
              have H10 := Lib.hid (⟨hO, K10⟩ : _ ∧ _)
              clear NV hO K10 HOR c9
              go_wp2_with fail
              refine HCI.out.mono ?_
              rintro e w11 ⟨⟨z, rfl, hz⟩, K11⟩
              obtain ⟨rfl, k, rfl, hkn⟩ := HPL.out r b z H10.out.1 hz
              have HKE := Lib.hid (HKF.out.trans (HK3c.out.trans (H10.out.2.trans K11)))
              have hk1 : (k : Int) ≤ (n : Int) := by omega
              clear HCI K11 hz c10
              go_wp2
              go_ret
              exact ⟨rfl, HKE.out⟩
end Go.Proofs.YtbpidoiellcccaaGreatDoor
namespace Go.Proofs.YtbpidoiellcccaaGreatDoor.RowRH
open Go.ChangeShapes Go.WideShapes Go.ChangeAt Go.RowKit Go.Joins Go.Deep Go.Proofs.YtbpidoiellcccaaGreatDoor.RowG

def zeroA : Array Value := #[.agg #[.slice none 0 0, .slice none 0 0], .int .i64 0]
set_option maxRecDepth 100000 in
theorem laid_met (os : Os) : laidMet Tryz.prog laid2 ((laidWorld os).forCall (fun _ _ => 0) ⟨#[], zeroA, []⟩).memory :=
  laidMet_of_run' 8 (by kernel_rfl) (by kernel_rfl)
theorem reads (os : Os) {H : Type} (enc : TypeId × Value → H) : ∃ places, DataW.whole enc Tryz.prog ((laidWorld os).forCall (fun _ _ => 0) ⟨#[], zeroA, []⟩).memory Tryz.f6.params.toList Rows.rankSelfSpec.vars false zeroA.toList 8 = some ([.agg [.nil, .nil], .lit (.int .i64 0)], [], places) :=
  ⟨[], by kernel_rfl⟩
set_option maxRecDepth 100000 in
set_option maxHeartbeats 1000000 in
theorem contract (H : Type) (enc : TypeId × Value → H) (W : World) (args : Array Value) (ds gs : List (DataW H)) (before : List MemPlace) (base : Nat)
    (hval : ∀ (j : Nat) t v, Tryz.f6.params[j]? = some t → args[j]? = some v → Value.okWide Tryz.prog W .any base t v)
    (hW : DataW.Whole enc Tryz.prog Tryz.f6.params.toList Rows.rankSelfSpec.vars false W args.toList ds gs before) :
    Calls Tryz.prog 6 args W fun e W' => ∃ v, e = .returned v ∧ Rows.rankSelfSpec.post enc Tryz.prog Tryz.f6 false true false false W args v W' := by
  have hW' := hW
  obtain ⟨p, q, hA0, hV, rfl, hfz, hnd⟩ := hW
  have hA : DataW.TrodAll enc Tryz.prog W 0 (fun _ => true) true Tryz.f6.params.toList args.toList ds p := hA0
  rw [Tryz.params6] at hA hval
  obtain ⟨v0, vs0, d0, ds0, p0, q0, hargs, rfl, rfl, h0, r0⟩ := trodAll_cons hA
  obtain ⟨v1, vs1, d1, ds1, p1, q1, rfl, rfl, rfl, h1, r1⟩ := trodAll_cons r0
  obtain ⟨rfl, rfl, rfl⟩ := trodAll_nil r1
  obtain rfl : args = #[v0, v1] := by cases args; simp_all
  obtain ⟨rfl, rfl⟩ := trodVars_none hV
  have k0 := h0
  have lt0 : ∀ x ∈ p0, x.block < W.heap.size := by obtain ⟨m, hm⟩ := k0; exact DataW.trod_lt m _ _ _ hm
  obtain ⟨A0, ps0, C0, K0, m0, D0, rfl, hp0, hm0⟩ := open_gram rfl (hval 0 _ v0 rfl rfl) h0
  obtain ⟨a1, rfl, rfl, rfl, w1⟩ := open_int Tryz.underlying3 (hval 1 _ v1 rfl rfl) h1
  clear hA0
  refine (rankSelf_walk A0 K0 C0 m0 D0 ps0 a1 W hp0 hm0).mono fun e W' ⟨he, kp⟩ => ?_
  have bel := kp.below
  subst he
  exact ⟨_, rfl, _, _, _, [], _, [], hW', trodAll_mk1 (shut_bool Tryz.underlying4 _), (trodAll_cons_mk (Below.trod laidOut (by kernel_rfl) (of_decide_eq_true (by kernel_rfl)) k0 bel lt0) (trodAll_cons_mk (shut_int Tryz.underlying3 w1) trodAll_mk0)), rfl, bel.frame _, fun h => by cases h⟩

set_option maxRecDepth 100000 in
theorem lifted (os : Os) (started : os.Started) (H : Type) (enc : TypeId × Value → H) (F : Stop.Interp) :
    ReturnsInHanded {} Tryz.checked os 6 .any ((OpenSpec.ofChange Rows.rankSelfSpec).preRow enc Tryz.prog Tryz.f6 Rows.rankSelfRow.domain false Rows.rankSelfRow.laid) (((OpenSpec.ofChange Rows.rankSelfSpec).at F).post enc Tryz.prog Tryz.f6 false true false false) := by
  obtain ⟨places, hx⟩ := reads os enc
  refine returnsInHanded_of_row (C := Tryz.checked) (s := OpenSpec.ofChange Rows.rankSelfSpec) own started (by kernel_rfl) Tryz.func6
    (witness_row_at (enc := enc) (C := Tryz.checked) false (laidWorld os) zeroA rfl (by kernel_rfl) (by kernel_rfl) (by kernel_rfl)
      (OpenSpec.preRow_of_cond 8 hx (by kernel_rfl) (fun k hk => by cases hk) (by kernel_rfl) (laid_met os))) ?_
  intro W base args ds gs before hval hW _ _ _ _ _ _
  exact contract H enc W args ds gs before base hval hW

theorem said : Rows.RankSelfSaid :=
  OpenClaim.holds_of_cond 6 Tryz.f6 rfl rfl rfl rfl rfl rfl rfl ⟨rfl, rfl, rfl, rfl, rfl⟩ rfl rfl rfl rfl rfl (by kernel_rfl) Tryz.func6 (by kernel_rfl)
    (of_decide_eq_true (by kernel_rfl)) (by unfold Func.isWrapper; first | (rw [if_pos (by decide +kernel)]; kernel_rfl) | (rw [if_neg (by decide +kernel)]; exact ⟨rfl, rfl⟩))
    (fun os started H enc _ F => by rw [OpenClaim.pre_eq_preRow]; exact lifted os started H enc F)

theorem plain (f : FuncId) (fn : Func) (hf : Tryz.pinned.checked.prog.funcNamed "exegete/exegetelaw10.RankSelf" = some f) (hfn : Tryz.pinned.checked.prog.funcs[f]? = some fn) :
    true = Tryz.pinned.checked.prog.looks [] ∧ ∀ (j : Nat) t, fn.params[j]? = some t → Tryz.pinned.checked.prog.wantsStandIn t = false := by
  obtain rfl : f = 6 := Option.some.inj ((show Tryz.prog.funcNamed "exegete/exegetelaw10.RankSelf" = some 6 by kernel_rfl).symm.trans hf) |>.symm
  obtain rfl : fn = Tryz.f6 := (Option.some.inj (Tryz.func6.symm.trans hfn)).symm
  refine ⟨by kernel_rfl, fun j t ht => ?_⟩
  rw [Tryz.params6] at ht
  have hm : t = 25 ∨ t = 3 := by simpa [or_assoc] using Array.mem_of_getElem? ht
  rcases hm with rfl | rfl
  · exact (show Tryz.prog.wantsStandIn 25 = false by kernel_rfl)
  · exact (show Tryz.prog.wantsStandIn 3 = false by kernel_rfl)

theorem card : Rows.RankSelfCardSaid :=
  Claim7.holds_tied_plain_at .later [] _ _ _ _ said (fun _ h => by cases h) (by kernel_rfl) (fun _ h => by cases h) rankSelf_row_tie rfl ⟨rfl, rfl⟩ (by kernel_rfl) rfl plain (by kernel_rfl)
end Go.Proofs.YtbpidoiellcccaaGreatDoor.RowRH
namespace Go.Proofs.YtbpidoiellcccaaGreatDoor
/-- The card of the law. -/
theorem rankSelf_card : Rows.RankSelfCardSaid := RowRH.card
#print axioms rankSelf_card
end Go.Proofs.YtbpidoiellcccaaGreatDoor
