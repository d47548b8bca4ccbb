/- exegetelaw12's awake is true. -/
import Derived.Test.YtkminfdblimiiaaGreatDoorJ18
set_option linter.unusedVariables false
set_option linter.unusedSimpArgs false
namespace Go.Proofs.YtkminfdblimiiaaGreatDoor
open Go Go.RowKit Go.MapKept

set_option maxRecDepth 20000 in
set_option maxHeartbeats 4000000 in
theorem awake12_any (w : World) : Calls Tryz.prog 8 #[] w fun e w' => e = .returned (.bool true) ∧ Keep [] w w' := by
  have hA := text12_any 3 t12g f12g g12g text12g
  have hB := text12_any 3 t12h f12h g12h text12h
  have hC := text12_any 3 t12k f12k g12k text12k
  have hF := aw12
  generalize g12g = g at hA hF
  generalize g12h = h at hB hF
  generalize g12k = k at hC hF
  have HA := Lib.hid hA
  have HB := Lib.hid hB
  have HC := Lib.hid hC
  have HF := Lib.hid hF
  clear hA hB hC hF
  go_enter Tryz.func8, Tryz.ntmps8
  go_wp2_with fail
  refine (HA.out _).mono ?_
  rintro e w1 ⟨⟨row, rfl, hg⟩, K1⟩
  obtain ⟨A1, C1, D1, E1, rfl, hP, _⟩ := hg
  have B1 := Lib.hid (Blk.new w1 #[.slice A1 g.p.length C1, .slice D1 g.keys.length E1] 25)
  have HP1 := Lib.hid hP
  have K1a := Lib.hid (K1.trans ((Keep.refl [] w1).alloc (.cells #[.slice A1 g.p.length C1, .slice D1 g.keys.length E1] 25)))
  have K1b := Lib.hid ((Keep.refl [] w1).alloc (.cells #[.slice A1 g.p.length C1, .slice D1 g.keys.length E1] 25))
  clear hP K1
  go_wp2_with fail
  refine (HB.out _).mono ?_
  rintro e w2 ⟨⟨row, rfl, hg⟩, K2⟩
  obtain ⟨A2, C2, D2, E2, rfl, hP2, _⟩ := hg
  have B2 := Blk.new w2 #[.slice A2 h.p.length C2, .slice D2 h.keys.length E2] 25
  have b2 := B2.cell
  have K2b := (Keep.refl [] w2).alloc (.cells #[.slice A2 h.p.length C2, .slice D2 h.keys.length E2] 25)
  have HO := Lib.hid (order12_any A2 D2 C2 h.keys.length E2 h.p _ (hP2.mv0 K2b))
  have HB2 := Lib.hid B2
  have HP2 := Lib.hid hP2
  have HK2 := Lib.hid (⟨K2, K2b⟩ : _ ∧ _)
  clear hP2 K2 K2b B2
  go_wp2_with fail
  refine HO.out.mono ?_
  rintro e w3 ⟨⟨r, hr1, _, l, rfl, hl⟩, K3⟩
  obtain rfl : r = some [1, 0] := (hr1 HF.out.f).same HF.out.c
  have HL := Lib.hid hl
  have HK3 := Lib.hid K3
  clear hr1 hl K3 HO b2
  simp only [Option.isSome_some, Option.getD_some] at HL ⊢
  go_wp2_with fail
  refine (HC.out _).mono ?_
  rintro e w4 ⟨⟨row, rfl, hg⟩, K4⟩
  obtain ⟨A3, C3, D3, E3, rfl, hP3, _⟩ := hg
  have B3 := Blk.new w4 #[.slice A3 k.p.length C3, .slice D3 k.keys.length E3] 25
  have K4b := (Keep.refl [] w4).alloc (.cells #[.slice A3 k.p.length C3, .slice D3 k.keys.length E3] 25)
  have K35 := K4.trans K4b
  have K6 := (Keep.refl [] (w4.alloc (.cells #[.slice A3 k.p.length C3, .slice D3 k.keys.length E3] 25))).alloc (.cells #[.int .i64 1, .int .i64 0] 3)
  have B6 := Blk.new' (w4.alloc (.cells #[.slice A3 k.p.length C3, .slice D3 k.keys.length E3] 25)) #[.int .i64 1, .int .i64 0] 3 (b := w4.heap.size + 1) (by simp)
  have hI : IntC ((w4.alloc (.cells #[.slice A3 k.p.length C3, .slice D3 k.keys.length E3] 25)).alloc (.cells #[.int .i64 1, .int .i64 0] 3)) (.slice (some ⟨w4.heap.size + 1, 0, none⟩) 2 2) [1, 0] := ⟨_, _, rfl, by simp, fun _ => ⟨w4.heap.size + 1, 0, rfl, fun i hi => by
    rw [B6.cell]
    match i, hi with
    | 0, _ => rfl
    | 1, _ => rfl⟩⟩
  have hIN := ints_c l (.slice (some ⟨w4.heap.size + 1, 0, none⟩) 2 2) [1, 0] [1, 0] _ ((HL.out.keep K35).keep K6) hI
  rw [show decide (([1, 0] : List Int) = [1, 0]) = true from by decide] at hIN
  have HIN := Lib.hid hIN
  have H5 := Lib.hid (⟨B3, hP3.mv0 K4b, K35, K6⟩ : _ ∧ _ ∧ _ ∧ _)
  clear K4 K4b B3 hP3 K35 K6 B6 hI hIN HL
  go_wp2_with fail
  refine HIN.out.mono ?_
  rintro e w7 ⟨rfl, K7⟩
  have K57 := H5.out.2.2.2.trans K7
  have K37 := H5.out.2.2.1.trans K57
  have K27 := (HK2.out.2.trans HK3.out).trans K37
  have K17 := (K1b.out.trans HK2.out.1).trans K27
  have B17 := B1.out.keep (HK2.out.1.trans K27) (by simp)
  have B27 := HB2.out.keep (HK3.out.trans K37) (by simp)
  have B37 := H5.out.1.keep K57 (by simp)
  have HP17 := HP1.out.mv0 K17
  have HP27 := HP2.out.mv0 K27
  have HP37 := H5.out.2.1.mv0 K57
  have HB17 := Lib.hid (fun w' (K' : Keep [] w7 w') => (⟨B17.keep K' (by simp), B27.keep K' (by simp), B37.keep K' (by simp)⟩ : Blk w' _ _ _ ∧ Blk w' _ _ _ ∧ Blk w' _ _ _))
  have HPS := Lib.hid (fun w' (K' : Keep [] w7 w') => (⟨HP17.mv0 K', HP27.mv0 K', HP37.mv0 K'⟩ : Prods [] w' _ _ ∧ Prods [] w' _ _ ∧ Prods [] w' _ _))
  have HKW := Lib.hid (K1a.out.trans (HK2.out.1.trans K27))
  have b1 := B17.cell
  clear K57 K37 K27 K17 B17 B27 B37 HP17 HP27 HP37 K7 HIN H5 HK2 HK3 B1 HB2 HP1 HP2
  go_wp2_with fail
  refine (bad12_any A1 D1 C1 g.keys.length E1 g.p _ (HPS.out _ (Keep.refl _ _)).1).mono ?_
  rintro e w8 ⟨rfl, K8⟩
  rw [HF.out.a]
  have b2 := (HB17.out _ K8).2.1.cell
  clear b1
  go_wp2_with fail
  refine (bad12_any A2 D2 C2 h.keys.length E2 h.p _ (HPS.out _ K8).2.1).mono ?_
  rintro e w9 ⟨rfl, K9⟩
  rw [HF.out.b]
  have K79 := K8.trans K9
  have b3 := (HB17.out _ K79).2.2.cell
  clear b2
  go_wp2_with fail
  refine (laid12_any A3 D3 C3 k.keys.length E3 k.p _ (HPS.out _ K79).2.2).mono ?_
  rintro e w10 ⟨rfl, K10⟩
  rw [HF.out.d]
  have K710 := K79.trans K10
  have b2 := (HB17.out _ K710).2.1.cell
  clear b3
  go_wp2_with fail
  refine (laid12_any A2 D2 C2 h.keys.length E2 h.p _ (HPS.out _ K710).2.1).mono ?_
  rintro e w11 ⟨rfl, K11⟩
  rw [HF.out.e]
  have HKF := Lib.hid (HKW.out.trans (K710.trans K11))
  go_wp2
  go_ret
  exact ⟨rfl, HKF.out⟩
end Go.Proofs.YtkminfdblimiiaaGreatDoor
