/- The law RankFirsts, as its row and its card state it: for every input it answers true and the arguments read as before. -/
import Derived.Test.YtbpidoiellcccaaGreatDoorKRF
import Derived.Test.YtbpidoiellcccaaGreatDoorK20
set_option linter.unusedVariables false
set_option linter.unusedSimpArgs false
namespace Go.Proofs.YtbpidoiellcccaaGreatDoor
open Go Go.RowKit Go.MapKept

theorem Rises.perm {l l' s : List Int} (h : Rises l s) (p : l.Perm l') : Rises l' s := ⟨h.1.trans p, h.2⟩
theorem NumV.data {w : World} {base : Nat} {v : Value} {xs : List Int} (h : NumV w base v xs) : SlOf IntRow [] w 1 v xs := OwnL.read h intRow_stab (by simp) (by simp)
set_option maxRecDepth 20000 in
set_option maxHeartbeats 4000000 in
theorem rankFirsts_walk (A B : Option Addr) (C D : Nat) (a b : List Int) (w : World) (HA : SlOf IntRow [] w 1 (.slice A a.length C) a) (HB : SlOf IntRow [] w 1 (.slice B b.length D) b) :
    Calls Tryz.prog 8 #[.slice A a.length C, .slice B b.length D] w fun e w' => e = .returned (.bool true) ∧ Keep [] w w' := by
  obtain ⟨i0, hi0, hz0, hz1, hz2⟩ := info_parts info_int
  have HH := Lib.hid (⟨HA, HB⟩ : _ ∧ _); clear HA HB
  generalize hla : a.length = la at *
  have HLA := Lib.hid hla
  generalize hlb : b.length = lb at *
  have HLB := Lib.hid hlb
  clear hla hlb
  have ha63 : la ≤ 9223372036854775807 := by
    obtain ⟨_, c, hv, hm, _⟩ := SlOf.at HH.out.1
    have := HLA.out; omega
  have hb63 : lb ≤ 9223372036854775807 := by
    obtain ⟨_, c, hv, hm, _⟩ := SlOf.at HH.out.2
    have := HLB.out; omega
  go_enter Tryz.func8, Tryz.ntmps8
  go_wp2_with fail
  refine (awakeR_any _).mono ?_
  rintro e w1 ⟨rfl, K1⟩
  have HK1 := Lib.hid K1
  clear K1
  by_cases h1 : la ≤ 60
  · have hg : decide ((la : Int) > 60) = false := by simp; omega
    have hg2 : ¬ ((la : Int) > 60) := by omega
    by_cases h2 : lb ≤ 60
    · have hg3 : decide ((lb : Int) > 60) = false := by simp; omega
      have hg4 : ¬ ((lb : Int) > 60) := by omega
      go_wp2_with (at_builtin; refine Hid.out ?_)
      refine Lib.hid ?_
      refine wpList_append_new intRow_stab intRow_one rfl _ _ 26 rfl Tryz.underlying26 hi0 hz0 hz1 hz2 rfl (by omega) [] w1.heap.size A la C rfl rfl (SlOf.move HH.out.1 intRow_stab (by omega) HK1.out (by simp) (fun x hx => .inl hx)) (by have := HLA.out; omega) (by have := HLA.out; omega) (Nat.le_refl _) ?_
      intro A2 C2 w2 O2 K2 n2
      rw [HLA.out] at O2 n2 ⊢
      have HB2 := Lib.hid (⟨O2, K2, n2⟩ : _ ∧ _ ∧ _)
      clear O2 K2 n2
      go_wp2_with (at_builtin; refine Hid.out ?_)
      refine Lib.hid ?_
      have hs2 := HB2.out.2.1.size
      refine wpList_append_data intRow_stab intRow_one rfl _ _ 26 rfl Tryz.underlying26 hi0 hz0 hz1 hz2 rfl (by omega) (S := []) (base := w1.heap.size) (v := .slice A2 la C2) (A := B) (m := lb) (C := D) (xs := a) (ys := b) rfl rfl
        HB2.out.1 (SlOf.move HH.out.2 intRow_stab (by omega) (HK1.out.trans HB2.out.2.1) (by simp) (fun x hx => .inr (by have h3 := (HB2.out.1.base x (by simpa using hx)).1; have h4 := HK1.out.size; omega))) (by have := HLA.out; have := HLB.out; omega) (by have := HLA.out; have := HLB.out; omega) (by omega) ?_
      intro A3 C3 w3 O3 K3 n3
      rw [HLA.out, HLB.out] at O3 n3 ⊢
      have K13 : Keep [] w1 w3 := HB2.out.2.1.then K3 (fun x hx => .inr (HB2.out.1.base x hx).1)
      have HN3 := Lib.hid (⟨NumV.of O3, K13⟩ : NumV w3 w1.heap.size (.slice A3 (la + lb) C3) (a ++ b) ∧ Keep [] w1 w3)
      clear O3 K3 n3 K13 HB2 hs2
      generalize hn : la + lb = n at *
      have hn120 : n ≤ 120 := by omega
      have HN := Lib.hid hn
      have HAL : Hid ((a ++ b).length = n) := Lib.hid (by have := HLA.out; have := HLB.out; simp; omega)
      clear hn
      generalize hall : a ++ b = all at HN3 HAL
      have HALL := Lib.hid hall
      clear hall
      have HST : Hid (NumV w3 w3.heap.size (.slice none 0 0) ((all.drop n).reverse) ∧ Keep [] w3 w3) := Lib.hid ⟨by rw [← HAL.out, List.drop_length]; exact NumV.nil _ _, Keep.refl _ _⟩
      go_wp2
      go_loopw [7, 8] (fun tv iv wr => ∃ (i : Nat), iv = .int .i64 i ∧ i ≤ n ∧ Hid (NumV wr w3.heap.size tv ((all.drop i).reverse) ∧ Keep [] w3 wr)) (fun _ iv _ => (intOf iv).toNat)
      case atStart => exact ⟨n, rfl, Nat.le_refl _, HST⟩
      case round =>
        obtain ⟨i, rfl, hi, HI⟩ := hrel
        cases i with
        | zero =>
          obtain ⟨NT, KT⟩ := HI.out
          rw [List.drop_zero] at NT
          obtain ⟨At, Ct, rfl⟩ := NT.slice
          have hrl : (all.reverse).length = n := by rw [List.length_reverse]; exact HAL.out
          rw [hrl] at NT ⊢
          have HX := Lib.hid (first_any A3 C3 all wr (by rw [HAL.out]; exact (HN3.out.1.keep KT (by simp)).data) (by rw [HAL.out]; omega))
          rw [HAL.out] at HX
          have HT := Lib.hid (⟨NT, HN3.out.2.trans KT⟩ : _ ∧ _)
          clear NT KT HI HST hrl
          go_wp2_with fail
          refine HX.out.mono ?_
          rintro e w4 ⟨⟨v4, x, rfl, N4, r4⟩, K4⟩
          have HY := Lib.hid (first_any At Ct all.reverse w4 (by rw [List.length_reverse, HAL.out]; exact (HT.out.1.keep K4 (by simp)).data) (by rw [List.length_reverse, HAL.out]; omega))
          rw [List.length_reverse, HAL.out] at HY
          have H4 := Lib.hid (⟨N4, r4, HT.out.2.trans K4⟩ : _ ∧ _ ∧ _)
          clear N4 r4 K4 HX HT
          go_wp2_with fail
          refine HY.out.mono ?_
          rintro e w5 ⟨⟨v5, y, rfl, N5, r5⟩, K5⟩
          have KA5 := HK1.out.trans (H4.out.2.2.trans K5)
          have HZ1 := Lib.hid (first_any A C a w5 (by rw [HLA.out]; exact SlOf.move HH.out.1 intRow_stab (by omega) KA5 (by simp) (fun x hx => .inl hx)) (by rw [HLA.out]; omega))
          rw [HLA.out] at HZ1
          have H5 := Lib.hid (⟨N5, r5, H4.out.1.keep K5 (by simp), KA5⟩ : _ ∧ _ ∧ _ ∧ _)
          clear N5 r5 K5 HY KA5
          go_wp2_with fail
          refine HZ1.out.mono ?_
          rintro e w6 ⟨⟨v6, s1, rfl, N6, r6⟩, K6⟩
          have hl6 : s1.length = la := by rw [r6.1.length_eq]; exact HLA.out
          obtain ⟨A6, C6, rfl⟩ := N6.slice
          rw [hl6] at N6 ⊢
          have HL6 := Lib.hid hl6
          have H6 := Lib.hid (⟨N6, r6, K6⟩ : _ ∧ _ ∧ _)
          clear N6 r6 K6 HZ1 hl6
          go_wp2_with (at_builtin; refine Hid.out ?_)
          refine Lib.hid ?_
          refine wpList_append_new intRow_stab intRow_one rfl _ _ 26 rfl Tryz.underlying26 hi0 hz0 hz1 hz2 rfl (by omega) [] w6.heap.size A6 la C6 rfl rfl H6.out.1.data (by have := HL6.out; omega) (by have := HL6.out; omega) (Nat.le_refl _) ?_
          intro A7 C7 w7 O7 K7 n7
          rw [HL6.out] at O7 n7 ⊢
          have KA7 := H5.out.2.2.2.trans (H6.out.2.2.trans K7)
          have HZ2 := Lib.hid (first_any B D b w7 (by rw [HLB.out]; exact SlOf.move HH.out.2 intRow_stab (by omega) KA7 (by simp) (fun x hx => .inl hx)) (by rw [HLB.out]; omega))
          rw [HLB.out] at HZ2
          have H7 := Lib.hid (⟨NumV.of O7, H6.out.2.2.trans K7⟩ : NumV w7 w6.heap.size (.slice A7 la C7) s1 ∧ _)
          have hs67 := K7.size
          clear O7 K7 n7 KA7
          go_wp2_with fail
          refine HZ2.out.mono ?_
          rintro e w8 ⟨⟨v8, s2, rfl, N8, r8⟩, K8⟩
          have hl8 : s2.length = lb := by rw [r8.1.length_eq]; exact HLB.out
          obtain ⟨A8, C8, rfl⟩ := N8.slice
          rw [hl8] at N8 ⊢
          have HL8 := Lib.hid hl8
          have N78 := H7.out.1.keep K8 (by simp)
          have hs7 := H7.out.1.base
          have hb8 := N8.base
          have H8 := Lib.hid (⟨N8, r8, H7.out.2.trans K8, N78⟩ : _ ∧ _ ∧ _ ∧ _)
          have hs68 : w6.heap.size ≤ w8.heap.size := Nat.le_trans hs67 K8.size
          clear N8 r8 K8 HZ2 hl8 N78
          go_wp2_with (at_builtin; refine Hid.out ?_)
          refine Lib.hid ?_
          refine wpList_append_data intRow_stab intRow_one rfl _ _ 26 rfl Tryz.underlying26 hi0 hz0 hz1 hz2 rfl (by omega) (S := []) (base := w6.heap.size) (v := .slice A7 la C7) (A := A8) (m := lb) (C := C8) (xs := s1) (ys := s2) rfl rfl
            H8.out.2.2.2 (OwnL.read (H8.out.1.any (ownB (.slice A7 la C7) ++ [])) intRow_stab (fun x hx => .inl hx) (fun x hx hx2 => by have := (hs7 x (by simpa using hx2)).2; have := (hb8 x hx).1; omega)) (by have := HL6.out; have := HL8.out; omega) (by have := HL6.out; have := HL8.out; omega) hs68 ?_
          intro A9 C9 w9 O9 K9 n9
          rw [HL6.out, HL8.out, HN.out] at O9 n9 ⊢
          have hln : (s1 ++ s2).length = n := by have h3 := HL6.out; have h4 := HL8.out; have h5 := HN.out; simp; omega
          have K59 : Keep [] w5 w9 := H8.out.2.2.1.then K9 (fun b hb => .inr (by have h3 := (hs7 b hb).1; have h4 := H6.out.2.2.size; omega))
          have HZ3 := Lib.hid (first_any A9 C9 (s1 ++ s2) w9 (by rw [hln]; exact (NumV.of O9).data) (by omega))
          rw [hln] at HZ3
          have hrp : (s1 ++ s2).Perm all := by rw [← HALL.out]; exact (H6.out.2.1.1).append (H8.out.2.1.1)
          have H9 := Lib.hid (⟨hrp, K59⟩ : _ ∧ _)
          clear O9 K9 n9 hln K59 hrp
          go_wp2_with fail
          refine HZ3.out.mono ?_
          rintro e w10 ⟨⟨v10, z, rfl, N10, r10⟩, K10⟩
          obtain rfl : x = y := H4.out.2.1.same (H5.out.2.1.perm (List.reverse_perm all))
          obtain rfl : x = z := H4.out.2.1.same (r10.perm H9.out.1)
          have hxl : x.length = n := by rw [H4.out.2.1.1.length_eq]; exact HAL.out
          have K510 := H9.out.2.trans K10
          have N4' := H5.out.2.2.1.keep K510 (by simp)
          have N5' := H5.out.1.keep K510 (by simp)
          obtain ⟨X4, C4, rfl⟩ := N4'.slice
          obtain ⟨X5, C5, rfl⟩ := N5'.slice
          obtain ⟨X10, C10, rfl⟩ := N10.slice
          have HXC := Lib.hid (fun (i : Nat) (hi : i < n) => (by
            obtain ⟨g4, D4, e4, _, _, _, _, _, c4⟩ := N4'.at (by omega)
            obtain ⟨g5, D5, e5, _, _, _, _, _, c5⟩ := N5'.at (by omega)
            obtain ⟨g6, D6, e6, _, _, _, _, _, c6⟩ := N10.at (by omega)
            simp only [Value.slice.injEq] at e4 e5 e6
            exact ⟨g4, g5, g6, e4.1, e5.1, e6.1, c4 i (by omega), c5 i (by omega), c6 i (by omega)⟩ : ∃ g4 g5 g6, X4 = some ⟨g4, 0, none⟩ ∧ X5 = some ⟨g5, 0, none⟩ ∧ X10 = some ⟨g6, 0, none⟩ ∧ w10.cell? ⟨g4, i, none⟩ = some (.int .i64 (nth x i)) ∧ w10.cell? ⟨g5, i, none⟩ = some (.int .i64 (nth x i)) ∧ w10.cell? ⟨g6, i, none⟩ = some (.int .i64 (nth x i))))
          have HKF := Lib.hid (H5.out.2.2.2.trans K510)
          rw [hxl]
          clear K510 N4' N5' N10 K10 hxl r10 HZ3 hs7 hb8 hs67 hs68
          go_wp2
          go_loopw [12] (fun iv wr => ∃ (k : Nat), iv = .int .i64 k ∧ k ≤ n ∧ Hid (Keep [] w10 wr)) (fun iv _ => n - (intOf iv).toNat)
          case atStart => exact ⟨0, rfl, by omega, Lib.hid (Keep.refl _ _)⟩
          case round =>
            obtain ⟨k, rfl, hk, HKr⟩ := hrel
            by_cases hlt : k < n
            · have hlt2 : (k : Int) < (n : Int) := by omega
              obtain ⟨g4, g5, g6, rfl, rfl, rfl, c4, c5, c6⟩ := HXC.out k hlt
              have d4 := HKr.out.cell c4 (by simp)
              have d5 := HKr.out.cell c5 (by simp)
              have d6 := HKr.out.cell c6 (by simp)
              generalize nth x k = q at d4 d5 d6
              have hq : (q != q) = false := by simp
              clear c4 c5 c6
              go_wp2
              go_quiet (fail)
              go_wp2
              go_roundw
              case rel => exact ⟨k + 1, by go_num, by omega, Lib.hid (HKr.out.drewN _)⟩
              case measure => simp [intOf]; omega
            · obtain rfl : k = n := by omega
              have HKK := Lib.hid (HKF.out.trans HKr.out)
              clear hlt
              go_wp2
              go_ret
              exact ⟨rfl, HKK.out⟩
        | succ i =>
          obtain ⟨NT, KT⟩ := HI.out
          have hil : i < all.length := by rw [HAL.out]; omega
          have hdr : (all.drop i).reverse = (all.drop (i + 1)).reverse ++ [nth all i] := by
            rw [List.drop_eq_getElem_cons hil, List.reverse_cons]
            simp [nth, hil]
          obtain ⟨g3, D3, e3, hb3, hg3x, _, _, _, c3⟩ := (HN3.out.1.keep KT (by simp)).at (by omega)
          have c0 := c3 i hil
          rw [HAL.out] at e3
          simp only [Value.slice.injEq] at e3
          obtain ⟨rfl, _, rfl⟩ := e3
          obtain ⟨At, Ct, rfl⟩ := NT.slice
          have hrl : ((all.drop (i + 1)).reverse).length = n - (i + 1) := by have := HAL.out; simp; omega
          generalize hacc : (all.drop (i + 1)).reverse = acc at *
          have HDR := Lib.hid hdr
          rw [hrl] at NT ⊢
          have HT := Lib.hid (⟨NT, KT, hrl⟩ : _ ∧ _ ∧ _)
          have hin : (i : Int) < (n : Int) := by omega
          have hrl2 : n - (i + 1) ≤ 120 := by omega
          generalize n - (i + 1) = tl at *
          generalize nth all i = z at *
          clear NT KT hrl hdr c3 hil hacc HI HST
          go_wp2_with (at_builtin; refine Hid.out ?_)
          refine Lib.hid ?_
          have K6 := (Keep.refl [] wr).alloc (.cells #[.int .i64 z] 3)
          have hbt := HT.out.1.base
          have hsw := HT.out.2.1.size
          refine wpList_append_data intRow_stab intRow_one rfl _ _ 26 rfl Tryz.underlying26 hi0 hz0 hz1 hz2 rfl (by omega) (S := []) (base := w3.heap.size) (v := .slice At tl Ct) (A := some ⟨wr.heap.size, 0, none⟩) (m := 1) (C := 1) (xs := acc) (ys := [z]) rfl rfl
            (HT.out.1.keep K6 (by simp)) (one_int (Blk.new wr _ 3) (fun hx => by have := (hbt _ (by simpa using hx)).2; omega)) (by have := HT.out.2.2; simp; omega) (by have := HT.out.2.2; simp; omega) (by simp; omega) ?_
          intro A9 C9 w9 O9 K9 n9
          rw [HT.out.2.2] at O9 n9 ⊢
          have HN2 : Hid (NumV w9 w3.heap.size (.slice A9 (tl + [z].length) C9) ((all.drop i).reverse) ∧ Keep [] w3 w9) := Lib.hid ⟨by rw [HDR.out]; exact NumV.of O9, (HT.out.2.1.trans K6).then K9 (fun x hx => .inr (hbt x hx).1)⟩
          clear O9 K9 n9 K6 hbt
          go_wp2
          go_roundw
          case rel => exact ⟨i, by go_num, by omega, HN2⟩
          case measure => simp [intOf]
    · have hg3 : decide ((lb : Int) > 60) = true := by simp; omega
      have hg4 : ((lb : Int) > 60) := by omega
      go_wp2
      go_ret
      exact ⟨rfl, HK1.out⟩
  · have hg : decide ((la : Int) > 60) = true := by simp; omega
    have hg2 : ((la : Int) > 60) := by omega
    go_wp2
    go_ret
    exact ⟨rfl, HK1.out⟩
end Go.Proofs.YtbpidoiellcccaaGreatDoor
namespace Go.Proofs.YtbpidoiellcccaaGreatDoor.RowRG
open Go.ChangeShapes Go.WideShapes Go.ChangeAt Go.RowKit Go.Joins Go.Deep Go.Proofs.YtbpidoiellcccaaGreatDoor.RowG

def zeroA : Array Value := #[.slice none 0 0, .slice none 0 0]
set_option maxRecDepth 100000 in
theorem laid_met (os : Os) : laidMet Tryz.prog laid2 ((laidWorld os).forCall (fun _ _ => 0) ⟨#[], zeroA, []⟩).memory :=
  laidMet_of_run' 8 (by kernel_rfl) (by kernel_rfl)
theorem reads (os : Os) {H : Type} (enc : TypeId × Value → H) : ∃ places, DataW.whole enc Tryz.prog ((laidWorld os).forCall (fun _ _ => 0) ⟨#[], zeroA, []⟩).memory Tryz.f8.params.toList Rows.rankFirstsSpec.vars false zeroA.toList 8 = some ([.nil, .nil], [], places) :=
  ⟨[], by kernel_rfl⟩
set_option maxRecDepth 100000 in
set_option maxHeartbeats 1000000 in
theorem contract (H : Type) (enc : TypeId × Value → H) (W : World) (args : Array Value) (ds gs : List (DataW H)) (before : List MemPlace) (base : Nat)
    (hval : ∀ (j : Nat) t v, Tryz.f8.params[j]? = some t → args[j]? = some v → Value.okWide Tryz.prog W .any base t v)
    (hW : DataW.Whole enc Tryz.prog Tryz.f8.params.toList Rows.rankFirstsSpec.vars false W args.toList ds gs before) :
    Calls Tryz.prog 8 args W fun e W' => ∃ v, e = .returned v ∧ Rows.rankFirstsSpec.post enc Tryz.prog Tryz.f8 false true false false W args v W' := by
  have hW' := hW
  obtain ⟨p, q, hA0, hV, rfl, hfz, hnd⟩ := hW
  have hA : DataW.TrodAll enc Tryz.prog W 0 (fun _ => true) true Tryz.f8.params.toList args.toList ds p := hA0
  rw [Tryz.params8] at hA hval
  obtain ⟨v0, vs0, d0, ds0, p0, q0, hargs, rfl, rfl, h0, r0⟩ := trodAll_cons hA
  obtain ⟨v1, vs1, d1, ds1, p1, q1, rfl, rfl, rfl, h1, r1⟩ := trodAll_cons r0
  obtain ⟨rfl, rfl, rfl⟩ := trodAll_nil r1
  obtain rfl : args = #[v0, v1] := by cases args; simp_all
  obtain ⟨rfl, rfl⟩ := trodVars_none hV
  have k0 := h0
  have lt0 : ∀ x ∈ p0, x.block < W.heap.size := by obtain ⟨m, hm⟩ := k0; exact DataW.trod_lt m _ _ _ hm
  have k1 := h1
  have lt1 : ∀ x ∈ p1, x.block < W.heap.size := by obtain ⟨m, hm⟩ := k1; exact DataW.trod_lt m _ _ _ hm
  obtain ⟨x0, y0, z0, rfl⟩ := okWide_slice Tryz.underlying26 (hval 0 _ v0 rfl rfl)
  obtain ⟨n0, hn0⟩ := h0
  obtain ⟨A0, l0, C0, e0, hp0⟩ := ints_read hn0
  obtain ⟨rfl, rfl, rfl⟩ : x0 = A0 ∧ y0 = l0.length ∧ z0 = C0 := by simpa using e0
  obtain ⟨x1, y1, z1, rfl⟩ := okWide_slice Tryz.underlying26 (hval 1 _ v1 rfl rfl)
  obtain ⟨n1, hn1⟩ := h1
  obtain ⟨A1, l1, C1, e1, hp1⟩ := ints_read hn1
  obtain ⟨rfl, rfl, rfl⟩ : x1 = A1 ∧ y1 = l1.length ∧ z1 = C1 := by simpa using e1
  clear hA0
  refine (rankFirsts_walk x0 x1 z0 z1 l0 l1 W hp0 hp1).mono fun e W' ⟨he, kp⟩ => ?_
  have bel := kp.below
  subst he
  exact ⟨_, rfl, _, _, _, [], _, [], hW', trodAll_mk1 (shut_bool Tryz.underlying4 _), (trodAll_cons_mk (Below.trod laidOut (by kernel_rfl) (of_decide_eq_true (by kernel_rfl)) k0 bel lt0) (trodAll_cons_mk (Below.trod laidOut (by kernel_rfl) (of_decide_eq_true (by kernel_rfl)) k1 bel lt1) trodAll_mk0)), rfl, bel.frame _, fun h => by cases h⟩

set_option maxRecDepth 100000 in
theorem lifted (os : Os) (started : os.Started) (H : Type) (enc : TypeId × Value → H) (F : Stop.Interp) :
    ReturnsInHanded {} Tryz.checked os 8 .any ((OpenSpec.ofChange Rows.rankFirstsSpec).preRow enc Tryz.prog Tryz.f8 Rows.rankFirstsRow.domain false Rows.rankFirstsRow.laid) (((OpenSpec.ofChange Rows.rankFirstsSpec).at F).post enc Tryz.prog Tryz.f8 false true false false) := by
  obtain ⟨places, hx⟩ := reads os enc
  refine returnsInHanded_of_row (C := Tryz.checked) (s := OpenSpec.ofChange Rows.rankFirstsSpec) own started (by kernel_rfl) Tryz.func8
    (witness_row_at (enc := enc) (C := Tryz.checked) false (laidWorld os) zeroA rfl (by kernel_rfl) (by kernel_rfl) (by kernel_rfl)
      (OpenSpec.preRow_of_cond 8 hx (by kernel_rfl) (fun k hk => by cases hk) (by kernel_rfl) (laid_met os))) ?_
  intro W base args ds gs before hval hW _ _ _ _ _ _
  exact contract H enc W args ds gs before base hval hW

theorem said : Rows.RankFirstsSaid :=
  OpenClaim.holds_of_cond 8 Tryz.f8 rfl rfl rfl rfl rfl rfl rfl ⟨rfl, rfl, rfl, rfl, rfl⟩ rfl rfl rfl rfl rfl (by kernel_rfl) Tryz.func8 (by kernel_rfl)
    (of_decide_eq_true (by kernel_rfl)) (by unfold Func.isWrapper; first | (rw [if_pos (by decide +kernel)]; kernel_rfl) | (rw [if_neg (by decide +kernel)]; exact ⟨rfl, rfl⟩))
    (fun os started H enc _ F => by rw [OpenClaim.pre_eq_preRow]; exact lifted os started H enc F)

theorem plain (f : FuncId) (fn : Func) (hf : Tryz.pinned.checked.prog.funcNamed "exegete/exegetelaw10.RankFirsts" = some f) (hfn : Tryz.pinned.checked.prog.funcs[f]? = some fn) :
    true = Tryz.pinned.checked.prog.looks [] ∧ ∀ (j : Nat) t, fn.params[j]? = some t → Tryz.pinned.checked.prog.wantsStandIn t = false := by
  obtain rfl : f = 8 := Option.some.inj ((show Tryz.prog.funcNamed "exegete/exegetelaw10.RankFirsts" = some 8 by kernel_rfl).symm.trans hf) |>.symm
  obtain rfl : fn = Tryz.f8 := (Option.some.inj (Tryz.func8.symm.trans hfn)).symm
  refine ⟨by kernel_rfl, fun j t ht => ?_⟩
  rw [Tryz.params8] at ht
  have hm : t = 26 ∨ t = 26 := by simpa [or_assoc] using Array.mem_of_getElem? ht
  rcases hm with rfl | rfl
  · exact (show Tryz.prog.wantsStandIn 26 = false by kernel_rfl)
  · exact (show Tryz.prog.wantsStandIn 26 = false by kernel_rfl)

theorem card : Rows.RankFirstsCardSaid :=
  Claim7.holds_tied_plain_at .later [] _ _ _ _ said (fun _ h => by cases h) (by kernel_rfl) (fun _ h => by cases h) rankFirsts_row_tie rfl ⟨rfl, rfl⟩ (by kernel_rfl) rfl plain (by kernel_rfl)
end Go.Proofs.YtbpidoiellcccaaGreatDoor.RowRG
namespace Go.Proofs.YtbpidoiellcccaaGreatDoor
/-- The card of the law. -/
theorem rankFirsts_card : Rows.RankFirstsCardSaid := RowRG.card
#print axioms rankFirsts_card
end Go.Proofs.YtbpidoiellcccaaGreatDoor
