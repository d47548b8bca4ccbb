/- Filters: the walks of least, Bad, Laid. -/
import Derived.Test.YtkminfdblimiiaaGreatDoorJ17
import Derived.Test.YtkminfdblimiiaaGreatDoorJ16
import Derived.Lib.Hide
import Derived.Test.YtkminfdblimiiaaGreatDoorJ14
set_option linter.unusedVariables false
set_option linter.unusedSimpArgs false
namespace Go.Proofs.YtkminfdblimiiaaGreatDoor
open Go Go.RowKit Go.MapKept

theorem bool_later {w w' : World} {lo : Nat} {v : Value} {bs : List Bool} (h : BoolV w lo v bs) (K : Keep [] w w') : BoolV w' lo v bs := h.keep K (by simp)
set_option maxRecDepth 20000 in
set_option maxHeartbeats 2000000 in
theorem bad1_any (A K : Option Addr) (C m D gb lo : Nat) (ps : List ProdS) (n : Nat) (v : Value) (w : World) (HP : Prods [] w (.slice A ps.length C) ps) (B : Blk w gb #[.slice A ps.length C, .slice K m D] 25) (hn : n < ps.length) (h60 : ps.length ≤ 60) (hv : BoolV w lo v (fromF ps n)) :
    Calls Tryz.prog 28 #[.int .i64 n, v, .pointer (some ⟨gb, 0, none⟩)] w fun e w' => e = .returned (.bool (badP ps n)) ∧ Keep [] w w' := by
  have HS := Lib.hid (some12_any 2 32 (.inr (.inr ⟨rfl, rfl⟩)) [] A K C m D lo ps v (fromF ps n) w HP hv (by rw [fromF_len]; exact Nat.le_refl _) (by rw [fromF_len]; omega))
  obtain ⟨V, F, rfl, hF, hc⟩ := hv.cells
  rw [fromF_len] at HS
  have hl : (fromF ps n).length = ps.length := fromF_len ps n
  obtain ⟨rb, rfl, hcl⟩ := hc (by omega)
  have q0 : w.cell? ⟨rb, n, none⟩ = some (.bool ((fromF ps n).getD n false)) := by
    rw [List.getD_eq_getElem?_getD, List.getElem?_eq_getElem (by omega : n < (fromF ps n).length)]
    exact hcl n (by omega)
  have hb : badP ps n = ((fromF ps n).getD n false || someM ps (fromF ps n) 32) := rfl
  rw [hb, hl]
  have hn' : (n : Int) < (ps.length : Int) := by omega
  have g0 := B.cell
  generalize someM ps (fromF ps n) 32 = sm at HS ⊢
  generalize (fromF ps n).getD n false = x at q0 ⊢
  clear hb hc hcl hv hl HP B
  cases x with
  | true =>
    clear HS
    go_enter Tryz.func28, Tryz.ntmps28
    go_wp2
    go_ret
    exact ⟨rfl, Keep.refl _ _⟩
  | false =>
    go_enter Tryz.func28, Tryz.ntmps28
    go_wp2_with fail
    refine HS.out.mono ?_
    rintro e w1 ⟨rfl, K1⟩
    go_wp2
    go_ret
    exact ⟨rfl, K1⟩
set_option maxRecDepth 20000 in
set_option maxHeartbeats 2000000 in
theorem laid1_any (A K : Option Addr) (C m D gb lo : Nat) (ps : List ProdS) (n : Nat) (v : Value) (w : World) (HP : Prods [] w (.slice A ps.length C) ps) (B : Blk w gb #[.slice A ps.length C, .slice K m D] 25) (hn : n < ps.length) (h60 : ps.length ≤ 60) (hv : BoolV w lo v (fromF ps n)) :
    Calls Tryz.prog 30 #[.int .i64 n, v, .pointer (some ⟨gb, 0, none⟩)] w fun e w' => e = .returned (.bool (laidP ps n)) ∧ Keep [] w w' := by
  have HS := Lib.hid (fun w' (K' : Keep [] w w') => some12_any 1 28 (.inr (.inl ⟨rfl, rfl⟩)) [] A K C m D lo ps v (fromF ps n) w' (HP.mv0 K') (hv.keep K' (by simp)) (by rw [fromF_len]; exact Nat.le_refl _) (by rw [fromF_len]; omega))
  obtain ⟨bp, op, A2, C2, N2, F2, rfl, _, e0, e1, e2, _, _⟩ := HP.pick n hn
  have HH := Lib.hid (has12_any 1 28 (.inr (.inl ⟨rfl, rfl⟩)) (.slice A2 ps[n].a.length C2) (.slice N2 ps[n].nt.length F2) ps[n].marks w)
  have hb : laidP ps n = (hasM ps[n].marks 28 || someM ps (fromF ps n) 28) := by
    unfold laidP
    rw [mk_at hn]
  rw [hb]
  have hn' : (n : Int) < (ps.length : Int) := by omega
  have HB := Lib.hid B
  have g0 := B.cell
  generalize someM ps (fromF ps n) 28 = sm at HS ⊢
  generalize hasM ps[n].marks 28 = x at HH ⊢
  generalize ps[n] = p at e0 e1 e2 HH
  obtain ⟨pa, pm, pn⟩ := p
  simp only at e0 e1 e2 HH
  clear hb hv HP B
  go_enter Tryz.func30, Tryz.ntmps30
  go_wp2_with fail
  refine HH.out.mono ?_
  rintro e w1 ⟨rfl, K1⟩
  have HS1 := Lib.hid (HS.out w1 K1)
  have g1 := (HB.out.keep K1 (by simp)).cell
  clear g0 e0 e1 e2 HH HS
  cases x with
  | true =>
    clear HS1
    go_wp2
    go_ret
    exact ⟨rfl, K1⟩
  | false =>
    go_wp2_with fail
    refine HS1.out.mono ?_
    rintro e w2 ⟨rfl, K2⟩
    go_wp2
    go_ret
    exact ⟨rfl, K1.trans K2⟩
set_option maxRecDepth 20000 in
set_option maxHeartbeats 4000000 in
theorem leastBad_any (A K : Option Addr) (C m D gb : Nat) (ps : List ProdS) (w : World) (HP : Prods [] w (.slice A ps.length C) ps) (BG : Blk w gb #[.slice A ps.length C, .slice K m D] 25) :
    Calls Tryz.prog 27 #[.agg #[.slice A ps.length C, .slice K m D], .func (.func 28) #[] #[.pointer (some ⟨gb, 0, none⟩)]] w fun e w' => e = .returned (.int .i64 (badR ps)) ∧ Keep [] w w' := by
  have K0 := (Keep.refl [] w).alloc (.cells #[.slice A ps.length C, .slice K m D] 25)
  have B0 := Blk.new w #[.slice A ps.length C, .slice K m D] 25
  have HC := Lib.hid (may_any [] (.slice A ps.length C) (.slice K m D) ps _ (HP.mv0 K0))
  have HPP := Lib.hid HP
  have HG := Lib.hid BG
  obtain ⟨r, hr⟩ : ∃ r, r = badR ps := ⟨_, rfl⟩
  rw [← hr]
  have HRES := Lib.hid hr
  clear hr HP BG
  go_enter Tryz.func27, Tryz.ntmps27
  go_wp2_with fail
  refine HC.out.mono ?_
  rintro e w1 ⟨rfl, K1⟩
  have B1 := B0.keep K1 (by simp)
  have b1 := B1.cell
  have HB1 := Lib.hid B1
  have K01 := K0.trans K1
  clear HC B0 K0 B1
  cases hg : gmay ps with
  | false =>
    have HF : Hid (r = -1) := Lib.hid (by rw [HRES.out]; unfold badR; rw [if_neg (by simp [hg])])
    go_wp2
    go_ret
    exact ⟨by rw [HF.out]; rfl, K01⟩
  | true =>
    obtain ⟨hl0, hl1⟩ := gmay_len hg
    have HW := Lib.hid (within12_any A K C m D ps w1 (HPP.out.mv0 K01) hg)
    have HK01 := Lib.hid K01
    have HL : Hid (IsLeast (fun n => n < ps.length ∧ (filtN ps n && badP ps n) = true) r) := Lib.hid (by rw [HRES.out]; unfold badR; rw [if_pos hg]; exact leastF_law _ _)
    clear K01 K1 HRES
    go_wp2_with fail
    refine HW.out.mono ?_
    rintro e w2 ⟨⟨mb, n2, Dm, rfl, hmb, hn2, hown, hrows⟩, K2⟩
    have HK2 := Lib.hid (HK01.out.trans K2)
    have HRW := Lib.hid hrows
    clear HW b1 HK01 K2
    go_wp2_with (at_range; refine Hid.out ?_)
    refine Lib.hid ?_
    refine wpList_range_own _ rfl _ 46 rfl 3 39 intK Tryz.underlying46 heldE mb n2 Dm rfl hown ?_
    intro w3 hrg3 hg3 hs3
    go_wp2
    go_frame
    have K3 : Keep [] w2 w3 := Keep.ofNone hg3
    have HROW := HRW
    have HK3 := Lib.hid K3
    have HK2r := Lib.hid (HK2.out.trans K3)
    have HSZ := Lib.hid (show w.heap.size < w2.heap.size from by have := HB1.out.lt; have := hmb; have := hown.lt; omega)
    have HST : Hid (w3.ranges Tryz.prog 3 heldE mb w2.heap.size n2 Dm (Go.Maps.has Dm) (Go.Maps.size Dm) ∧ IsLeast (fun j => Past (filtN ps) (Go.Maps.has Dm) j ∧ badP ps j = true) (-1)) := Lib.hid ⟨hrg3, IsLeast.none _ (fun j hj => past_zero HRW.out j hj.1)⟩
    have hmlt : mb < w2.heap.size := hown.lt
    clear hown hrows hrg3 hg3 K3 HK2
    go_loopw [5] (fun ov wr => ∃ (left : Lit → Bool) (cnt : Nat) (z : Int), ov = .int .i64 z ∧ wr.ranges Tryz.prog 3 heldE mb w2.heap.size n2 Dm left cnt ∧ IsLeast (fun j => Past (filtN ps) left j ∧ badP ps j = true) z ∧ Keep [w2.heap.size] w3 wr) (fun _ wr => wr.rangeLeft mb w2.heap.size)
    case atStart => exact ⟨_, _, -1, rfl, HST.out.1, HST.out.2, Keep.refl _ _⟩
    case round =>
      clear HST
      obtain ⟨left, cnt, z, rfl, hrg, hlz, Kr⟩ := hrel
      have HLZ := Lib.hid hlz
      have HKr := Lib.hid Kr
      clear hlz Kr
      go_wp2_with (at_next; refine Hid.out ?_)
      refine Lib.hid ?_
      refine wpList_next_ranges _ rfl _ rfl 3 intK heldE (Value.int .i64) (fun v => v) (fun key kl hkey => by obtain ⟨x, rfl, _⟩ := Go.Maps.keyOf_int_inv Tryz.underlying3 hkey; exact ⟨x, rfl⟩) (fun v y _ => ⟨v, rfl⟩) mb w2.heap.size n2 Dm left cnt rfl hrg ?_ ?_
      · intro _ hl0
        have HF : Hid (r = z) := Lib.hid (HL.out.same HLZ.out (fun j => by
          rw [past_end hl0]
          constructor
          · rintro ⟨h1, h2⟩
            simp only [Bool.and_eq_true] at h2
            exact h2
          · rintro ⟨h1, h2⟩
            have : j < ps.length := by unfold filtN at h1; simp at h1; exact h1.1
            exact ⟨this, by simp [h1, h2]⟩))
        have HKF := Lib.hid (HK2r.out.then HKr.out (fun x hx => by simp at hx; subst hx; right; have := HSZ.out; omega))
        go_wp2
        go_ret
        exact ⟨by rw [HF.out]; rfl, HKF.out⟩
      · intro x c kl y w4 cnt4 hkey hlk hv hat hrg4 hlt4 hg4 hs4 hen
        try dsimp only at hen
        try dsimp only at hv
        have hyc := heldE_inv c y hv
        obtain ⟨n, rfl, rfl, hS, hnl, hbv⟩ := HROW.out.entry hkey (fun z => by rw [hat z, hyc])
        have K4 : Keep [w2.heap.size] w3 w4 := HKr.out.then (Keep.ofBut hg4) (fun x hx => .inl hx)
        have K04 : Keep [] w w4 := HK2r.out.then K4 (fun x hx => by simp at hx; subst hx; right; have := HSZ.out; omega)
        have K24 : Keep [] w2 w4 := HK3.out.then K4 (fun x hx => by simp at hx; subst hx; exact .inr (Nat.le_refl _))
        have hbv4 : BoolV w4 0 c (fromF ps n) := (bool_later hbv K24).mono (Nat.zero_le _)
        have HCALL := Lib.hid (bad1_any A K C m D gb 0 ps n c w4 (HPP.out.mv0 K04) (HG.out.keep K04 (by simp)) hnl hl1 hbv4)
        have hmore := IsLeast.more (Q := fun j => Past (filtN ps) (fun z => left z && !z.sameKey (nl n)) j ∧ badP ps j = true) HLZ.out (x := n) (fun j => by
          constructor
          · rintro ⟨h1, h2⟩
            rcases (past_step hS j).1 h1 with h3 | h3
            · exact .inl ⟨h3, h2⟩
            · exact .inr ⟨h3, (past_step hS n).2 (.inr rfl), h3 ▸ h2⟩
          · rintro (⟨h1, h2⟩ | ⟨h3, h1, h2⟩)
            · exact ⟨(past_step hS j).2 (.inl h1), h2⟩
            · exact ⟨(past_step hS j).2 (.inr h3), by rw [h3]; exact h2⟩) (fun h => past_not hlk h.1)
        have hq : (Past (filtN ps) (fun z => left z && !z.sameKey (nl n)) n ∧ badP ps n = true) ↔ badP ps n = true := by
          rw [past_step hS]
          exact ⟨fun h => h.2, fun h => ⟨.inr rfl, h⟩⟩
        simp only [hq] at hmore
        have HM := Lib.hid hmore
        have HLT := Lib.hid (show wr.rangeLeft mb w2.heap.size = cnt from hrg.left_eq)
        have HK4 := Lib.hid K4
        clear hq hmore hbv4 hbv K24 K04 hv hyc hat hkey hlk hg4 hs4 K4 hrg
        generalize badP ps n = f at HCALL HM
        by_cases hz : z = -1
        · subst hz
          go_wp2_with fail
          refine HCALL.out.mono ?_
          rintro e w5 ⟨rfl, K5⟩
          have hrg5 := hrg4.kept K5.toNone (by simp) (by simp)
          have K35 := HK4.out.then K5 (by simp)
          clear HCALL K5 hrg4
          cases f with
          | true =>
            have HN := Lib.hid (HM.out.2.1 rfl (by simp))
            clear HM
            go_wp2
            go_roundw
            case rel => exact ⟨_, cnt4, n, rfl, hrg5, HN.out, K35⟩
            case measure => rw [hrg5.left_eq, HLT.out]; exact hlt4
          | false =>
            have HN := Lib.hid (HM.out.1 (by simp))
            clear HM
            go_wp2
            go_roundw
            case rel => exact ⟨_, cnt4, -1, rfl, hrg5, HN.out, K35⟩
            case measure => rw [hrg5.left_eq, HLT.out]; exact hlt4
        · have hzb : (z == -1) = false := by simpa using hz
          by_cases hlt : (n : Int) < z
          · have hd : decide ((n : Int) < z) = true := by simpa using hlt
            go_wp2_with fail
            refine HCALL.out.mono ?_
            rintro e w5 ⟨rfl, K5⟩
            have hrg5 := hrg4.kept K5.toNone (by simp) (by simp)
            have K35 := HK4.out.then K5 (by simp)
            clear HCALL K5 hrg4
            cases f with
            | true =>
              have HN := Lib.hid (HM.out.2.1 rfl (.inr hlt))
              clear HM
              go_wp2
              go_roundw
              case rel => exact ⟨_, cnt4, n, rfl, hrg5, HN.out, K35⟩
              case measure => rw [hrg5.left_eq, HLT.out]; exact hlt4
            | false =>
              have HN := Lib.hid (HM.out.1 (by simp))
              clear HM
              go_wp2
              go_roundw
              case rel => exact ⟨_, cnt4, z, rfl, hrg5, HN.out, K35⟩
              case measure => rw [hrg5.left_eq, HLT.out]; exact hlt4
          · have hd : decide ((n : Int) < z) = false := by simpa using hlt
            have hge : z ≤ (n : Int) := by omega
            have HN := Lib.hid (HM.out.2.2 (fun h => h.elim hz hlt))
            clear HM HCALL hlt
            go_wp2
            go_roundw
            case rel => exact ⟨_, cnt4, z, rfl, hrg4, HN.out, HK4.out⟩
            case measure => rw [hrg4.left_eq, HLT.out]; exact hlt4
set_option maxRecDepth 20000 in
set_option maxHeartbeats 4000000 in
theorem leastLaid_any (A K : Option Addr) (C m D gb : Nat) (ps : List ProdS) (w : World) (HP : Prods [] w (.slice A ps.length C) ps) (BG : Blk w gb #[.slice A ps.length C, .slice K m D] 25) :
    Calls Tryz.prog 27 #[.agg #[.slice A ps.length C, .slice K m D], .func (.func 30) #[] #[.pointer (some ⟨gb, 0, none⟩)]] w fun e w' => e = .returned (.int .i64 (laidR ps)) ∧ Keep [] w w' := by
  have K0 := (Keep.refl [] w).alloc (.cells #[.slice A ps.length C, .slice K m D] 25)
  have B0 := Blk.new w #[.slice A ps.length C, .slice K m D] 25
  have HC := Lib.hid (may_any [] (.slice A ps.length C) (.slice K m D) ps _ (HP.mv0 K0))
  have HPP := Lib.hid HP
  have HG := Lib.hid BG
  obtain ⟨r, hr⟩ : ∃ r, r = laidR ps := ⟨_, rfl⟩
  rw [← hr]
  have HRES := Lib.hid hr
  clear hr HP BG
  go_enter Tryz.func27, Tryz.ntmps27
  go_wp2_with fail
  refine HC.out.mono ?_
  rintro e w1 ⟨rfl, K1⟩
  have B1 := B0.keep K1 (by simp)
  have b1 := B1.cell
  have HB1 := Lib.hid B1
  have K01 := K0.trans K1
  clear HC B0 K0 B1
  cases hg : gmay ps with
  | false =>
    have HF : Hid (r = -1) := Lib.hid (by rw [HRES.out]; unfold laidR; rw [if_neg (by simp [hg])])
    go_wp2
    go_ret
    exact ⟨by rw [HF.out]; rfl, K01⟩
  | true =>
    obtain ⟨hl0, hl1⟩ := gmay_len hg
    have HW := Lib.hid (within12_any A K C m D ps w1 (HPP.out.mv0 K01) hg)
    have HK01 := Lib.hid K01
    have HL : Hid (IsLeast (fun n => n < ps.length ∧ (filtN ps n && laidP ps n) = true) r) := Lib.hid (by rw [HRES.out]; unfold laidR; rw [if_pos hg]; exact leastF_law _ _)
    clear K01 K1 HRES
    go_wp2_with fail
    refine HW.out.mono ?_
    rintro e w2 ⟨⟨mb, n2, Dm, rfl, hmb, hn2, hown, hrows⟩, K2⟩
    have HK2 := Lib.hid (HK01.out.trans K2)
    have HRW := Lib.hid hrows
    clear HW b1 HK01 K2
    go_wp2_with (at_range; refine Hid.out ?_)
    refine Lib.hid ?_
    refine wpList_range_own _ rfl _ 46 rfl 3 39 intK Tryz.underlying46 heldE mb n2 Dm rfl hown ?_
    intro w3 hrg3 hg3 hs3
    go_wp2
    go_frame
    have K3 : Keep [] w2 w3 := Keep.ofNone hg3
    have HROW := HRW
    have HK3 := Lib.hid K3
    have HK2r := Lib.hid (HK2.out.trans K3)
    have HSZ := Lib.hid (show w.heap.size < w2.heap.size from by have := HB1.out.lt; have := hmb; have := hown.lt; omega)
    have HST : Hid (w3.ranges Tryz.prog 3 heldE mb w2.heap.size n2 Dm (Go.Maps.has Dm) (Go.Maps.size Dm) ∧ IsLeast (fun j => Past (filtN ps) (Go.Maps.has Dm) j ∧ laidP ps j = true) (-1)) := Lib.hid ⟨hrg3, IsLeast.none _ (fun j hj => past_zero HRW.out j hj.1)⟩
    have hmlt : mb < w2.heap.size := hown.lt
    clear hown hrows hrg3 hg3 K3 HK2
    go_loopw [5] (fun ov wr => ∃ (left : Lit → Bool) (cnt : Nat) (z : Int), ov = .int .i64 z ∧ wr.ranges Tryz.prog 3 heldE mb w2.heap.size n2 Dm left cnt ∧ IsLeast (fun j => Past (filtN ps) left j ∧ laidP ps j = true) z ∧ Keep [w2.heap.size] w3 wr) (fun _ wr => wr.rangeLeft mb w2.heap.size)
    case atStart => exact ⟨_, _, -1, rfl, HST.out.1, HST.out.2, Keep.refl _ _⟩
    case round =>
      clear HST
      obtain ⟨left, cnt, z, rfl, hrg, hlz, Kr⟩ := hrel
      have HLZ := Lib.hid hlz
      have HKr := Lib.hid Kr
      clear hlz Kr
      go_wp2_with (at_next; refine Hid.out ?_)
      refine Lib.hid ?_
      refine wpList_next_ranges _ rfl _ rfl 3 intK heldE (Value.int .i64) (fun v => v) (fun key kl hkey => by obtain ⟨x, rfl, _⟩ := Go.Maps.keyOf_int_inv Tryz.underlying3 hkey; exact ⟨x, rfl⟩) (fun v y _ => ⟨v, rfl⟩) mb w2.heap.size n2 Dm left cnt rfl hrg ?_ ?_
      · intro _ hl0
        have HF : Hid (r = z) := Lib.hid (HL.out.same HLZ.out (fun j => by
          rw [past_end hl0]
          constructor
          · rintro ⟨h1, h2⟩
            simp only [Bool.and_eq_true] at h2
            exact h2
          · rintro ⟨h1, h2⟩
            have : j < ps.length := by unfold filtN at h1; simp at h1; exact h1.1
            exact ⟨this, by simp [h1, h2]⟩))
        have HKF := Lib.hid (HK2r.out.then HKr.out (fun x hx => by simp at hx; subst hx; right; have := HSZ.out; omega))
        go_wp2
        go_ret
        exact ⟨by rw [HF.out]; rfl, HKF.out⟩
      · intro x c kl y w4 cnt4 hkey hlk hv hat hrg4 hlt4 hg4 hs4 hen
        try dsimp only at hen
        try dsimp only at hv
        have hyc := heldE_inv c y hv
        obtain ⟨n, rfl, rfl, hS, hnl, hbv⟩ := HROW.out.entry hkey (fun z => by rw [hat z, hyc])
        have K4 : Keep [w2.heap.size] w3 w4 := HKr.out.then (Keep.ofBut hg4) (fun x hx => .inl hx)
        have K04 : Keep [] w w4 := HK2r.out.then K4 (fun x hx => by simp at hx; subst hx; right; have := HSZ.out; omega)
        have K24 : Keep [] w2 w4 := HK3.out.then K4 (fun x hx => by simp at hx; subst hx; exact .inr (Nat.le_refl _))
        have hbv4 : BoolV w4 0 c (fromF ps n) := (bool_later hbv K24).mono (Nat.zero_le _)
        have HCALL := Lib.hid (laid1_any A K C m D gb 0 ps n c w4 (HPP.out.mv0 K04) (HG.out.keep K04 (by simp)) hnl hl1 hbv4)
        have hmore := IsLeast.more (Q := fun j => Past (filtN ps) (fun z => left z && !z.sameKey (nl n)) j ∧ laidP ps j = true) HLZ.out (x := n) (fun j => by
          constructor
          · rintro ⟨h1, h2⟩
            rcases (past_step hS j).1 h1 with h3 | h3
            · exact .inl ⟨h3, h2⟩
            · exact .inr ⟨h3, (past_step hS n).2 (.inr rfl), h3 ▸ h2⟩
          · rintro (⟨h1, h2⟩ | ⟨h3, h1, h2⟩)
            · exact ⟨(past_step hS j).2 (.inl h1), h2⟩
            · exact ⟨(past_step hS j).2 (.inr h3), by rw [h3]; exact h2⟩) (fun h => past_not hlk h.1)
        have hq : (Past (filtN ps) (fun z => left z && !z.sameKey (nl n)) n ∧ laidP ps n = true) ↔ laidP ps n = true := by
          rw [past_step hS]
          exact ⟨fun h => h.2, fun h => ⟨.inr rfl, h⟩⟩
        simp only [hq] at hmore
        have HM := Lib.hid hmore
        have HLT := Lib.hid (show wr.rangeLeft mb w2.heap.size = cnt from hrg.left_eq)
        have HK4 := Lib.hid K4
        clear hq hmore hbv4 hbv K24 K04 hv hyc hat hkey hlk hg4 hs4 K4 hrg
        generalize laidP ps n = f at HCALL HM
        by_cases hz : z = -1
        · subst hz
          go_wp2_with fail
          refine HCALL.out.mono ?_
          rintro e w5 ⟨rfl, K5⟩
          have hrg5 := hrg4.kept K5.toNone (by simp) (by simp)
          have K35 := HK4.out.then K5 (by simp)
          clear HCALL K5 hrg4
          cases f with
          | true =>
            have HN := Lib.hid (HM.out.2.1 rfl (by simp))
            clear HM
            go_wp2
            go_roundw
            case rel => exact ⟨_, cnt4, n, rfl, hrg5, HN.out, K35⟩
            case measure => rw [hrg5.left_eq, HLT.out]; exact hlt4
          | false =>
            have HN := Lib.hid (HM.out.1 (by simp))
            clear HM
            go_wp2
            go_roundw
            case rel => exact ⟨_, cnt4, -1, rfl, hrg5, HN.out, K35⟩
            case measure => rw [hrg5.left_eq, HLT.out]; exact hlt4
        · have hzb : (z == -1) = false := by simpa using hz
          by_cases hlt : (n : Int) < z
          · have hd : decide ((n : Int) < z) = true := by simpa using hlt
            go_wp2_with fail
            refine HCALL.out.mono ?_
            rintro e w5 ⟨rfl, K5⟩
            have hrg5 := hrg4.kept K5.toNone (by simp) (by simp)
            have K35 := HK4.out.then K5 (by simp)
            clear HCALL K5 hrg4
            cases f with
            | true =>
              have HN := Lib.hid (HM.out.2.1 rfl (.inr hlt))
              clear HM
              go_wp2
              go_roundw
              case rel => exact ⟨_, cnt4, n, rfl, hrg5, HN.out, K35⟩
              case measure => rw [hrg5.left_eq, HLT.out]; exact hlt4
            | false =>
              have HN := Lib.hid (HM.out.1 (by simp))
              clear HM
              go_wp2
              go_roundw
              case rel => exact ⟨_, cnt4, z, rfl, hrg5, HN.out, K35⟩
              case measure => rw [hrg5.left_eq, HLT.out]; exact hlt4
          · have hd : decide ((n : Int) < z) = false := by simpa using hlt
            have hge : z ≤ (n : Int) := by omega
            have HN := Lib.hid (HM.out.2.2 (fun h => h.elim hz hlt))
            clear HM HCALL hlt
            go_wp2
            go_roundw
            case rel => exact ⟨_, cnt4, z, rfl, hrg4, HN.out, HK4.out⟩
            case measure => rw [hrg4.left_eq, HLT.out]; exact hlt4
end Go.Proofs.YtkminfdblimiiaaGreatDoor
namespace Go.Proofs.YtkminfdblimiiaaGreatDoor
open Go Go.RowKit Go.MapKept

def IntRow (_S : List Nat) (_w : World) (x : Int) (row : Array Value) : Prop := row = #[.int .i64 x]
theorem intRow_stab : Stab IntRow := fun _ _ _ _ _ _ _ h _ _ _ => h
theorem info_int : (Tryz.prog.info? 3).map (fun i => (i.zero, i.size, i.bytes)) = some (some (.int .i64 0), 1, 8) := by kernel_rfl
theorem intRow_one : OneC IntRow := by
  intro S w x row h u hu
  rw [show row = _ from h] at hu
  simp at hu
  subst hu
  rfl
/-- These numbers stand there. -/
def IntC (w : World) (v : Value) (xs : List Int) : Prop := ∃ A C, v = .slice A xs.length C ∧ xs.length ≤ 1000000 ∧ (0 < xs.length → ∃ b o, A = some ⟨b, o, none⟩ ∧ ∀ i (h : i < xs.length), w.cell? ⟨b, o + i, none⟩ = some (.int .i64 xs[i]))
theorem IntC.keep {w w' : World} {v : Value} {xs : List Int} (h : IntC w v xs) (K : Keep [] w w') : IntC w' v xs := by
  obtain ⟨A, C, h1, h2, h3⟩ := h
  refine ⟨A, C, h1, h2, fun h0 => ?_⟩
  obtain ⟨b, o, rfl, hc⟩ := h3 h0
  exact ⟨b, o, rfl, fun i hi => Keep.cell (T := []) K (hc i hi) (by simp)⟩
theorem IntC.own {S : List Nat} {w : World} {base : Nat} {E : TypeId} {v : Value} {xs : List Int} (h : OwnL IntRow S w base E 1 v xs) (hl : xs.length ≤ 1000000) : IntC w v xs := by
  have hr := h.read intRow_stab (S' := []) (by simp) (by simp)
  obtain ⟨A, C, rfl, _, hc⟩ := SlOf.at hr
  refine ⟨A, C, rfl, hl, fun h0 => ?_⟩
  obtain ⟨b, o, rfl, _, hq⟩ := hc h0
  refine ⟨b, o, rfl, fun i hi => ?_⟩
  obtain ⟨row, _, h2, h3⟩ := hq i hi
  rw [show row = _ from h3] at h2
  simpa using h2 0 (by omega)
set_option maxHeartbeats 2000000 in
theorem ints_c (v u : Value) (bs cs : List Int) (w : World) (H : IntC w v bs) (G : IntC w u cs) :
    Calls Tryz.prog 12 #[v, u] w fun e w' => e = .returned (.bool (decide (bs = cs))) ∧ Keep [] w w' := by
  obtain ⟨A, C, rfl, hbl, hc⟩ := H
  obtain ⟨B, D, rfl, hcl, hd⟩ := G
  have HH := Lib.hid hc; clear hc
  have GG := Lib.hid hd; clear hd
  by_cases hl : bs.length = cs.length
  · have hlb : ((bs.length : Int) != (cs.length : Int)) = false := by simp [hl]
    have HL := Lib.hid hl
    have hl2 : (cs.length : Int) = (bs.length : Int) := by omega
    clear hl
    go_enter Tryz.func12, Tryz.ntmps12
    go_wp2
    go_loopw [5] (fun i wr => ∃ k : Nat, k ≤ bs.length ∧ i = .int .i64 k ∧ Hid (∀ j (hj : j < k) (h1 : j < bs.length) (h2 : j < cs.length), bs[j] = cs[j]) ∧ Keep [] w wr) (fun i _ => bs.length - (intOf i).toNat)
    case atStart => exact ⟨0, by omega, rfl, Lib.hid (fun j hj => by omega), Keep.refl _ _⟩
    case round =>
      obtain ⟨k, hk, rfl, hno, Kr⟩ := hrel
      by_cases hlt : k < bs.length
      · have hlt' : (k : Int) < (bs.length : Int) := by omega
        have hltc : k < cs.length := by omega
        obtain ⟨b, o, rfl, hc⟩ := HH.out (by omega)
        obtain ⟨c, p, rfl, hd⟩ := GG.out (by omega)
        have e0 := Kr.cell (hc k hlt) (by simp)
        have e1 := Kr.cell (hd k hltc) (by simp)
        have HLT := Lib.hid hlt
        have HE : Hid (bs[k] = cs[k] → ∀ j (hj : j < k + 1) (h1 : j < bs.length) (h2 : j < cs.length), bs[j] = cs[j]) := Lib.hid (fun he j hj h1 h2 => by
          by_cases e : j = k
          · subst e; exact he
          · exact hno.out j (by omega) h1 h2)
        have HN : Hid (bs[k] ≠ cs[k] → decide (bs = cs) = false) := Lib.hid (fun hne => by simp; intro e; subst e; exact hne rfl)
        clear hc hd hno
        generalize bs[k] = x at e0 HE HN
        generalize cs[k] = y at e1 HE HN
        by_cases hxy : x = y
        · subst hxy
          have hq : (x != x) = false := by simp
          go_wp2
          go_quiet (fail)
          go_wp2
          go_roundw
          case rel => exact ⟨k + 1, by have := HLT.out; omega, by go_num, Lib.hid (HE.out (by simp)), Kr.drewN _⟩
          case measure => simp [intOf]; have := HLT.out; omega
        · have hq : (x != y) = true := by simpa using hxy
          have HX := Lib.hid hxy
          clear hxy
          go_wp2
          go_quiet (fail)
          go_wp2
          go_ret
          rw [HN.out HX.out]
          exact ⟨rfl, Kr.drewN _⟩
      · have heq : decide (bs = cs) = true := by
          simp only [decide_eq_true_eq]
          exact List.ext_getElem HL.out (fun j h1 h2 => hno.out j (by omega) h1 h2)
        have HEQ := Lib.hid heq
        obtain rfl : k = bs.length := by omega
        clear heq hno
        go_wp2
        go_ret
        rw [HEQ.out]
        exact ⟨rfl, Kr⟩
  · have hlb : ((bs.length : Int) != (cs.length : Int)) = true := by simp; omega
    have hne : decide (bs = cs) = false := by simp; intro e; exact hl (by rw [e])
    rw [hne]
    clear hl hne
    go_enter Tryz.func12, Tryz.ntmps12
    go_wp2
    go_ret
    exact ⟨rfl, Keep.refl _ _⟩
end Go.Proofs.YtkminfdblimiiaaGreatDoor
namespace Go.Proofs.YtkminfdblimiiaaGreatDoor
open Go Go.RowKit Go.MapKept

set_option maxHeartbeats 2000000 in
theorem bad12_any (A K : Option Addr) (C m D : Nat) (ps : List ProdS) (w : World) (HP : Prods [] w (.slice A ps.length C) ps) :
    Calls Tryz.prog 15 #[.agg #[.slice A ps.length C, .slice K m D]] w fun e w' => e = .returned (.int .i64 (badR ps)) ∧ Keep [] w w' := by
  have K0 := (Keep.refl [] w).alloc (.cells #[.slice A ps.length C, .slice K m D] 25)
  have hmf : ∀ (fn : Fn) (first cap : Array Value) (w : World), (Instr.makeFunc fn first cap).run Tryz.prog w = .ok (.func fn first cap) w := fun _ _ _ _ => rfl
  have HC := Lib.hid (leastBad_any A K C m D w.heap.size ps _ (HP.mv0 K0) (Blk.new w #[.slice A ps.length C, .slice K m D] 25))
  clear HP
  generalize badR ps = r at HC ⊢
  go_enter Tryz.func15, Tryz.ntmps15
  go_wp2_with fail
  refine HC.out.mono ?_
  rintro e w1 ⟨rfl, K1⟩
  go_wp2
  go_ret
  exact ⟨rfl, K0.trans K1⟩
set_option maxHeartbeats 2000000 in
theorem laid12_any (A K : Option Addr) (C m D : Nat) (ps : List ProdS) (w : World) (HP : Prods [] w (.slice A ps.length C) ps) :
    Calls Tryz.prog 17 #[.agg #[.slice A ps.length C, .slice K m D]] w fun e w' => e = .returned (.int .i64 (laidR ps)) ∧ Keep [] w w' := by
  have K0 := (Keep.refl [] w).alloc (.cells #[.slice A ps.length C, .slice K m D] 25)
  have hmf : ∀ (fn : Fn) (first cap : Array Value) (w : World), (Instr.makeFunc fn first cap).run Tryz.prog w = .ok (.func fn first cap) w := fun _ _ _ _ => rfl
  have HC := Lib.hid (leastLaid_any A K C m D w.heap.size ps _ (HP.mv0 K0) (Blk.new w #[.slice A ps.length C, .slice K m D] 25))
  clear HP
  generalize laidR ps = r at HC ⊢
  go_enter Tryz.func17, Tryz.ntmps17
  go_wp2_with fail
  refine HC.out.mono ?_
  rintro e w1 ⟨rfl, K1⟩
  go_wp2
  go_ret
  exact ⟨rfl, K0.trans K1⟩
/-- How many entries a map has. -/
def mapSize (w : World) (b : Nat) : Nat := match w.heap[b]? with
  | some (.map es _) => es.size
  | _ => 0
theorem mapSize_eq {w : World} {b n : Nat} {D : DataW Value} (h : w.ownsMap Tryz.prog 3 heldE b n D) : mapSize w b = Go.Maps.size D := by
  obtain ⟨es, clock, hb, F, hs, rfl⟩ := h
  unfold mapSize
  rw [hb]
  simp [Go.Maps.size, length_read]
theorem size_none {D : DataW Value} (h : Go.Maps.size D = 0) (hm : Go.Maps.IsMap D) (kl : Lit) : Go.Maps.has D kl = false := by
  obtain ⟨es, rfl⟩ := hm
  have : es = [] := List.eq_nil_of_length_eq_zero h
  subst this
  rfl
theorem size_some {D : DataW Value} (h : 0 < Go.Maps.size D) (hm : Go.Maps.IsMap D) (hk : ∀ es, D = .map es → ∀ p ∈ es, WideAt.IsKeyLit p.1) : ∃ kl, Go.Maps.has D kl = true := by
  obtain ⟨es, rfl⟩ := hm
  obtain ⟨p, hp⟩ := List.exists_mem_of_length_pos h
  refine ⟨p.1, ?_⟩
  rw [Go.Maps.has_eq, List.any_eq_true]
  exact ⟨p, hp, by have := hk es rfl p hp; revert this; cases p.1 <;> simp [WideAt.IsKeyLit, Lit.sameKey]⟩
theorem MRows.size_zero {w : World} {b : Nat} {ps : List ProdS} {D : DataW Value} {S : Nat → Bool} (h : MRows w b ps D S) (hm : Go.Maps.IsMap D) (h0 : Go.Maps.size D = 0) (n : Nat) : S n = false := by
  cases hs : S n with
  | false => rfl
  | true =>
    have := (h.2 n hs).2.1
    rw [size_none h0 hm] at this; cases this
theorem MRows.size_pos {w w' : World} {b n : Nat} {ps : List ProdS} {D : DataW Value} {S : Nat → Bool} (h : MRows w b ps D S) (ho : w'.ownsMap Tryz.prog 3 heldE b n D) (h0 : 0 < Go.Maps.size D) : ∃ n, S n = true := by
  obtain ⟨kl, hk⟩ := size_some h0 ho.isMap (fun es he p hp => by
    obtain ⟨es', e1, _, e2⟩ := ho.entries intK
    rw [he] at e1
    cases e1
    exact e2 p hp)
  obtain ⟨n, _, hn⟩ := h.1 kl hk
  exact ⟨n, hn⟩
theorem MRows.size_del {w w' : World} {b n x : Nat} {ps : List ProdS} {D : DataW Value} {S : Nat → Bool} (h : MRows w b ps D S) (ho : w'.ownsMap Tryz.prog 3 heldE b n D) (hx : S x = true) : Go.Maps.size (D.del (nl x)) + 1 = Go.Maps.size D := by
  have h1 := Go.Maps.size_del (k := nl x) (ho.tidy intK)
  rw [(h.2 x hx).2.1] at h1
  simpa using h1
theorem one_int {S : List Nat} {w : World} {b : Nat} {T : TypeId} {x : Int} (B : Blk w b #[.int .i64 x] T) (hb : b ∉ S) : SlOf IntRow S w 1 (.slice (some ⟨b, 0, none⟩) 1 1) [x] := by
  have h := Sl.of_blk (S := S) (k := 1) (xs := [#[.int .i64 x]]) 1 B hb (by simp) (fun i hi => by
    obtain rfl : i = 0 := by simpa using hi
    exact ⟨rfl, fun j hj => by
      match j, hj with
      | 0, _ => rfl⟩)
  refine ⟨[#[.int .i64 x]], h, rfl, fun i hi hi' => ?_⟩
  obtain rfl : i = 0 := by simpa using hi
  rfl
theorem _root_.Go.World.ownsMap.keepK {w w' : World} {b n : Nat} {D : DataW Value} {T : List Nat} (h : w.ownsMap Tryz.prog 3 heldE b n D) (K : Keep T w w') (hb : b ∉ T) : w'.ownsMap Tryz.prog 3 heldE b n D := by
  have hlt := h.lt
  obtain ⟨es, clock, h1, h2⟩ := h
  exact ⟨es, clock, (K.block b hlt hb).trans h1, h2⟩
theorem BoolV.at {w : World} {lo : Nat} {v : Value} {bs : List Bool} (h : BoolV w lo v bs) (h0 : 0 < bs.length) : ∃ rb F, v = .slice (some ⟨rb, 0, none⟩) bs.length F ∧ lo ≤ rb ∧ ∀ i (hi : i < bs.length), w.cell? ⟨rb, i, none⟩ = some (.bool bs[i]) := by
  rcases h with ⟨rfl, _⟩ | ⟨hne, rb, rfl, hB, hlo⟩
  · simp at h0
  · exact ⟨rb, _, rfl, hlo, fun i hi => by rw [hB.cell, boolC_at _ _ hi]⟩
/-- What Order hands back. -/
def OrdPost (ps : List ProdS) (e : Ending) (w' : World) : Prop :=
  ∃ r, (gmay ps = true → OrdRel ps (filtN ps) [] r) ∧ (gmay ps = false → r = none) ∧ ∃ v, e = .returned (.tuple #[v, .bool r.isSome]) ∧ IntC w' v (r.getD [])
theorem ordPost_mk {ps : List ProdS} {e : Ending} {w' : World} (r : Option (List Int)) (h1 : gmay ps = true → OrdRel ps (filtN ps) [] r) (h2 : gmay ps = false → r = none) (v : Value) (he : e = .returned (.tuple #[v, .bool r.isSome])) (hc : IntC w' v (r.getD [])) : OrdPost ps e w' := ⟨r, h1, h2, v, he, hc⟩
theorem intC_nil (w : World) : IntC w (.slice none 0 0) [] := ⟨none, 0, rfl, by simp, fun h => absurd h (by simp)⟩
set_option maxRecDepth 20000 in
set_option maxHeartbeats 8000000 in
theorem order12_any (A K : Option Addr) (C m D : Nat) (ps : List ProdS) (w : World) (HP : Prods [] w (.slice A ps.length C) ps) :
    Calls Tryz.prog 10 #[.agg #[.slice A ps.length C, .slice K m D]] w fun e w' => OrdPost ps e w' ∧ Keep [] w w' := by
  have K0 := (Keep.refl [] w).alloc (.cells #[.slice A ps.length C, .slice K m D] 25)
  have B0 := Blk.new w #[.slice A ps.length C, .slice K m D] 25
  have HC := Lib.hid (may_any [] (.slice A ps.length C) (.slice K m D) ps _ (HP.mv0 K0))
  have HPP := Lib.hid HP
  obtain ⟨ii, hii, hi0, hi1, hi2⟩ := info_parts info_int
  clear HP
  go_enter Tryz.func10, Tryz.ntmps10
  go_wp2_with fail
  refine HC.out.mono ?_
  rintro e w1 ⟨rfl, K1⟩
  have B1 := B0.keep K1 (by simp)
  have b1 := B1.cell
  have HB1 := Lib.hid B1
  have K01 := K0.trans K1
  clear HC B0 K0 B1
  cases hg : gmay ps with
  | false =>
    go_wp2
    go_ret2
    exact ⟨ordPost_mk none (fun h => by rw [hg] at h; cases h) (fun _ => rfl) _ rfl (intC_nil _), K01⟩
  | true =>
    obtain ⟨hl0, hl1⟩ := gmay_len hg
    have HW := Lib.hid (within12_any A K C m D ps w1 (HPP.out.mv0 K01) hg)
    have HK01 := Lib.hid K01
    clear K01 K1
    go_wp2_with fail
    refine HW.out.mono ?_
    rintro e w2 ⟨⟨mb, n2, Dm, rfl, hmb, hn2, hown, hrows⟩, K2⟩
    have HK2 := Lib.hid (HK01.out.trans K2)
    have hwz : w.heap.size < w2.heap.size := by have := HB1.out.lt; have := hown.lt; omega
    have HST : Hid (w2.ownsMap Tryz.prog 3 heldE mb n2 Dm ∧ MRows w2 mb ps Dm (filtN ps) ∧ OwnL IntRow [mb] w2 w2.heap.size 3 1 (.slice none 0 0) [] ∧ Go.Maps.size Dm ≤ 60) := Lib.hid ⟨hown, hrows, OwnL.nil _ _ _ _ _, Nat.le_trans hown.size_le hn2⟩
    have hmlt : mb < w2.heap.size := hown.lt
    have hmw : w.heap.size ≤ mb := by have := HB1.out.lt; omega
    clear HW b1 HK01 K2 hown hrows
    go_wp2
    go_loopw [5] (fun ov wr => ∃ (S : Nat → Bool) (out : List Int) (D : DataW Value) (n : Nat), wr.ownsMap Tryz.prog 3 heldE mb n D ∧ MRows w2 mb ps D S ∧ OwnL IntRow [mb] wr w2.heap.size 3 1 ov out ∧ out.length + Go.Maps.size D ≤ 60 ∧ Hid (∀ r, OrdRel ps S out r → OrdRel ps (filtN ps) [] r) ∧ Keep [mb] w2 wr) (fun _ wr => mapSize wr mb)
    case atStart => exact ⟨_, _, _, _, HST.out.1, HST.out.2.1, HST.out.2.2.1, by simpa using HST.out.2.2.2, Lib.hid (fun r h => h), Keep.refl _ _⟩
    case round =>
      clear HST
      obtain ⟨S, out, D1, n1, hown, hrows, hout, hlen, hord, Kr⟩ := hrel
      obtain ⟨Ao, Co, rfl⟩ := hout.slice
      have HRW := Lib.hid hrows
      have HOUT := Lib.hid hout
      have HKr := Lib.hid Kr
      have HMS := Lib.hid (mapSize_eq hown)
      clear Kr hrows
      go_wp2_with (at_len; refine Hid.out ?_)
      refine Lib.hid ?_
      refine wpList_len_own _ rfl _ 46 rfl 3 39 Tryz.underlying46 heldE mb n1 D1 rfl hown ?_
      by_cases hz : Go.Maps.size D1 = 0
      · have hS := HRW.out.size_zero hown.isMap hz
        have HR := Lib.hid (hord.out _ (OrdRel.done hS))
        have HI := Lib.hid (IntC.own hout (by omega))
        have HKF := Lib.hid (HK2.out.then HKr.out (fun x hx => by simp at hx; subst hx; exact .inr hmw))
        rw [hz]
        clear hS hz hown hout
        go_wp2
        go_ret2
        exact ⟨ordPost_mk (some out) (fun _ => HR.out) (fun h => by rw [hg] at h; cases h) _ rfl HI.out, HKF.out⟩
      · have hp : decide (0 < (Go.Maps.size D1 : Int)) = true := by simp; omega
        have hp' : (0 : Int) < (Go.Maps.size D1 : Int) := by omega
        have hp2 : 0 < Go.Maps.size D1 := by omega
        have HSP := Lib.hid (HRW.out.size_pos hown hp2)
        clear hout
        generalize hsz : Go.Maps.size D1 = sz at hp hp' hp2 hlen HMS ⊢
        have HSZ := Lib.hid hsz
        clear hsz hz
        go_wp2_with (at_range; refine Hid.out ?_)
        refine Lib.hid ?_
        refine wpList_range_own _ rfl _ 46 rfl 3 39 intK Tryz.underlying46 heldE mb n1 D1 rfl hown ?_
        intro w3 hrg3 hg3 hs3
        go_wp2
        go_frame
        have K3 : Keep [] wr w3 := Keep.ofNone hg3
        have HK3 := Lib.hid K3
        have HS2 : Hid (w3.ranges Tryz.prog 3 heldE mb wr.heap.size n1 D1 (Go.Maps.has D1) (Go.Maps.size D1) ∧ IsLeast (fun j => Past S (Go.Maps.has D1) j ∧ Free ps S j) (-1)) := Lib.hid ⟨hrg3, IsLeast.none _ (fun j hj => past_zero HRW.out j hj.1)⟩
        have hwr : w2.heap.size ≤ wr.heap.size := HKr.out.size
        clear hown hrg3 hg3 K3
        obtain ⟨wo, rfl⟩ : ∃ W : World, W = wr := ⟨_, rfl⟩
        go_loopw [6] (fun zv wr => ∃ (left : Lit → Bool) (cnt : Nat) (z : Int), zv = .int .i64 z ∧ wr.ranges Tryz.prog 3 heldE mb wo.heap.size n1 D1 left cnt ∧ IsLeast (fun j => Past S left j ∧ Free ps S j) z ∧ Keep [wo.heap.size] w3 wr) (fun _ wr => wr.rangeLeft mb wo.heap.size)
        case atStart => exact ⟨_, _, -1, rfl, HS2.out.1, HS2.out.2, Keep.refl _ _⟩
        case round =>
          clear HS2
          obtain ⟨left, cnt, z, rfl, hrg, hlz, Kq⟩ := hrel
          have HLZ := Lib.hid hlz
          have HKq := Lib.hid Kq
          clear hlz Kq
          go_wp2_with (at_next; refine Hid.out ?_)
          refine Lib.hid ?_
          refine wpList_next_ranges _ rfl _ rfl 3 intK heldE (Value.int .i64) (fun v => v) (fun key kl hkey => by obtain ⟨x, rfl, _⟩ := Go.Maps.keyOf_int_inv Tryz.underlying3 hkey; exact ⟨x, rfl⟩) (fun v y _ => ⟨v, rfl⟩) mb wo.heap.size n1 D1 left cnt rfl hrg ?_ ?_
          · intro _ hl0
            have HF : Hid (IsLeast (Free ps S) z) := Lib.hid (by
              have h := HLZ.out
              have e : (fun j => Past S left j ∧ Free ps S j) = Free ps S := funext fun j => propext ⟨fun h => h.2, fun h => ⟨(past_end hl0 j).2 h.1, h⟩⟩
              rw [e] at h
              exact h)
            have Ko : Keep [] wo wr := HK3.out.then HKq.out (fun x hx => by simp at hx; subst hx; exact .inr (Nat.le_refl _))
            have K2r : Keep [mb] w2 wr := HKr.out.then Ko (by simp)
            have HOWN := Lib.hid hrg.owns
            have HROW := HRW
            have HOUT2 := Lib.hid (HOUT.out.move intRow_stab (S' := [mb]) Ko (by simp) (fun x hx => .inl hx))
            have HK2r := Lib.hid K2r
            clear hl0 HLZ hrg Ko K2r HOUT HKr HKq HRW HK3
            by_cases hz : z = -1
            · subst hz
              have HR : Hid (OrdRel ps (filtN ps) [] none) := Lib.hid (by
                obtain ⟨n, hn⟩ := HSP.out
                refine hord.out _ (OrdRel.stuck hn (fun m hm => ?_))
                rcases HF.out with ⟨_, h⟩ | ⟨q, h, _⟩
                · exact h m hm
                · omega)
              have HKF := Lib.hid (HK2.out.then HK2r.out (fun x hx => by simp at hx; subst hx; exact .inr hmw))
              go_wp2
              go_ret2
              exact ⟨ordPost_mk none (fun _ => HR.out) (fun _ => rfl) _ rfl (intC_nil _), HKF.out⟩
            · obtain ⟨x, rfl, HFX⟩ : ∃ x : Nat, z = x ∧ Hid (Free ps S x ∧ ∀ j, Free ps S j → x ≤ j) := by
                rcases HF.out with ⟨h, _⟩ | ⟨q, h, h1, h2⟩
                · exact absurd h hz
                · exact ⟨q, h, Lib.hid ⟨h1, h2⟩⟩
              have hzb : ((x : Int) == -1) = false := by simp <;> omega
              have hxl : x < ps.length := (HROW.out.2 x HFX.out.1.1).1
              have HSD := Lib.hid (HROW.out.size_del HOWN.out HFX.out.1.1)
              clear HF hz
              go_wp2_with (at_delete; refine Hid.out ?_)
              refine Lib.hid ?_
              refine wpList_delete_own _ rfl _ _ 46 3 rfl 39 intK Tryz.underlying46 heldE mb n1 D1 rfl HOWN.out _ (nl x) rfl (key_nl (by omega)) ?_
              intro w8 hown8 hturn8
              have K8 := Keep.ofBut hturn8.grown
              have hout8 := HOUT2.out.move intRow_stab (S' := [mb]) K8 (fun t ht => .inl ⟨ht, fun h => by have := (HOUT2.out.base _ h).1; simp at ht; omega⟩) (fun x hx => .inl hx)
              have HO8 := Lib.hid (⟨hown8, hout8, HK2r.out.then K8 (fun x hx => .inl hx)⟩ : _ ∧ _ ∧ _)
              have hw28 : w2.heap.size ≤ w8.heap.size := HO8.out.2.2.size
              have hlo : out.length ≤ 60 := by omega
              clear hown8 hturn8 K8 hout8 HOUT2 HOWN HK2r
              go_wp2_with (at_builtin; refine Hid.out ?_)
              refine Lib.hid ?_
              have KB := (Keep.refl [] w8).alloc (.cells #[.int .i64 x] 3)
              refine wpList_append_data intRow_stab intRow_one rfl _ _ 32 rfl Tryz.underlying32 hii hi0 hi1 hi2 rfl (by omega) (S := [mb]) (base := w2.heap.size) (v := .slice Ao out.length Co) (A := some ⟨w8.heap.size, 0, none⟩) (m := 1) (C := 1) (xs := out) (ys := [(x : Int)]) rfl rfl
                (HO8.out.2.1.move intRow_stab KB (by simp) (fun x hx => .inl hx)) (one_int (Blk.new' _ _ 3 rfl) (fun hx => by rcases List.mem_append.1 hx with hx | hx; have := (HO8.out.2.1.base _ hx).2; omega; simp at hx; omega)) (by simp; omega) (by simp; omega) (by simp; omega) ?_
              intro A9 C9 w9 O9 K9 n9
              have hmb9 : mb ∉ ownB (.slice Ao out.length Co) := fun h => by have := (HO8.out.2.1.base _ h).1; omega
              have hown9 := (HO8.out.1.keepK KB (by simp)).keepK K9 hmb9
              have K29 : Keep [mb] w2 w9 := (HO8.out.2.2.then KB (by simp)).then K9 (fun x hx => .inr (HO8.out.2.1.base x hx).1)
              have HMS9 := Lib.hid (mapSize_eq hown9)
              have HREL : Hid (MRows w2 mb ps (D1.del (nl x)) (fun m => S m && !decide (m = x)) ∧ (∀ r, OrdRel ps (fun m => S m && !decide (m = x)) (out ++ [(x : Int)]) r → OrdRel ps (filtN ps) [] r)) := Lib.hid ⟨HROW.out.del x, fun r hr => hord.out r (OrdRel.step HFX.out.1 HFX.out.2 hr)⟩
              have HO9 := Lib.hid (⟨hown9, O9, K29⟩ : _ ∧ _ ∧ _)
              have hlen9 : (out ++ [(x : Int)]).length + Go.Maps.size (D1.del (nl x)) ≤ 60 := by simp; have := HSD.out; have := HSZ.out; omega
              have hlt9 : Go.Maps.size (D1.del (nl x)) < sz := by have := HSD.out; have := HSZ.out; omega
              clear O9 K9 n9 KB hown9 K29 hmb9 HO8
              generalize out.length + [(x : Int)].length = len9 at HO9 ⊢
              go_wp2
              go_roundw
              case rel => exact ⟨_, _, _, _, HO9.out.1, HREL.out.1, HO9.out.2.1, hlen9, Lib.hid HREL.out.2, HO9.out.2.2⟩
              case measure => rw [HMS9.out, HMS.out]; exact hlt9
          · intro x c kl y w4 cnt4 hkey hlk hv hat hrg4 hlt4 hg4 hs4 hen
            try dsimp only at hen
            try dsimp only at hv
            have hyc := heldE_inv c y hv
            obtain ⟨n, rfl, rfl, hS, hnl, hbv⟩ := HRW.out.entry hkey (fun z => by rw [hat z, hyc])
            have K4 : Keep [wo.heap.size] w3 w4 := HKq.out.then (Keep.ofBut hg4) (fun x hx => .inl hx)
            have K24 : Keep [mb] w2 w4 := (HKr.out.then HK3.out (by simp)).then K4 (fun x hx => by simp at hx; subst hx; exact .inr hwr)
            obtain ⟨rb, Fb, rfl, hrb, hcl⟩ := hbv.at (by rw [fromF_len]; omega)
            have HCL := Lib.hid (fun w' (K' : Keep [mb] w2 w') k (hk : k < ps.length) => (by
              have h := Keep.cell (T := [mb]) K' (hcl k (by rw [fromF_len]; exact hk)) (by simp; omega)
              unfold inN
              rw [List.getD_eq_getElem?_getD, List.getElem?_eq_getElem (by rw [fromF_len]; exact hk)]
              exact h : w'.cell? ⟨rb, k, none⟩ = some (.bool (inN ps n k))))
            have hmore := IsLeast.more (Q := fun j => Past S (fun z => left z && !z.sameKey (nl n)) j ∧ Free ps S j) HLZ.out (x := n) (fun j => by
              constructor
              · rintro ⟨h1, h2⟩
                rcases (past_step hS j).1 h1 with h3 | h3
                · exact .inl ⟨h3, h2⟩
                · exact .inr ⟨h3, (past_step hS n).2 (.inr rfl), h3 ▸ h2⟩
              · rintro (⟨h1, h2⟩ | ⟨h3, h1, h2⟩)
                · exact ⟨(past_step hS j).2 (.inl h1), h2⟩
                · exact ⟨(past_step hS j).2 (.inr h3), by rw [h3]; exact h2⟩) (fun h => past_not hlk h.1)
            have hq : (Past S (fun z => left z && !z.sameKey (nl n)) n ∧ Free ps S n) ↔ Free ps S n := ⟨fun h => h.2, fun h => ⟨(past_step hS n).2 (.inr rfl), h⟩⟩
            simp only [hq] at hmore
            have HM := Lib.hid hmore
            have HLT := Lib.hid (show wr.rangeLeft mb wo.heap.size = cnt from hrg.left_eq)
            have HK4 := Lib.hid K4
            have HK24 := Lib.hid K24
            have hw4 : wo.heap.size < w4.heap.size := by have := K4.size; omega
            have hlr : (fromF ps n).length = ps.length := fromF_len ps n
            rw [hlr] at hen ⊢
            have HSN := Lib.hid hS
            clear hq hmore hbv hcl hv hyc hat hkey hlk hg4 hs4 K4 K24 hrg hlr hS
            go_wp2_with (at_range; refine Hid.out ?_)
            refine Lib.hid ?_
            refine wpList_range_own _ rfl _ 46 rfl 3 39 intK Tryz.underlying46 heldE mb n1 D1 rfl hrg4.owns ?_
            intro w5 hrg5 hg5 hs5
            go_wp2
            go_frame
            have K45 : Keep [] w4 w5 := Keep.ofNone hg5
            have HK45 := Lib.hid K45
            have HS3 : Hid (w5.ranges Tryz.prog 3 heldE mb w4.heap.size n1 D1 (Go.Maps.has D1) (Go.Maps.size D1) ∧ w5.ranges Tryz.prog 3 heldE mb wo.heap.size n1 D1 (fun z => left z && !z.sameKey (nl n)) cnt4 ∧ (true = true ↔ ∀ k, Past S (Go.Maps.has D1) k → inN ps n k = false)) := Lib.hid ⟨hrg5, hrg4.kept hg5 (by simp) (by simp), by simp; exact fun k hk => absurd hk (past_zero HRW.out k)⟩
            clear hrg5 hg5 hrg4 K45
            obtain ⟨wq, rfl⟩ : ∃ W : World, W = wr := ⟨_, rfl⟩
            go_loopw [9] (fun bv wr => ∃ (left2 : Lit → Bool) (cnt2 : Nat) (b : Bool), bv = .bool b ∧ wr.ranges Tryz.prog 3 heldE mb w4.heap.size n1 D1 left2 cnt2 ∧ wr.ranges Tryz.prog 3 heldE mb wo.heap.size n1 D1 (fun z => left z && !z.sameKey (nl n)) cnt4 ∧ Hid (b = true ↔ ∀ k, Past S left2 k → inN ps n k = false) ∧ Keep [w4.heap.size] w5 wr) (fun _ wr => wr.rangeLeft mb w4.heap.size)
            case atStart => exact ⟨_, _, true, rfl, HS3.out.1, HS3.out.2.1, Lib.hid HS3.out.2.2, Keep.refl _ _⟩
            case round =>
              clear HS3
              obtain ⟨left2, cnt2, b, rfl, hrga, hrgb, hb, Kb⟩ := hrel
              have HKb := Lib.hid Kb
              have HRGB := Lib.hid hrgb
              clear Kb hrgb
              go_wp2_with (at_next; refine Hid.out ?_)
              refine Lib.hid ?_
              refine wpList_next_ranges _ rfl _ rfl 3 intK heldE (Value.int .i64) (fun v => v) (fun key kl hkey => by obtain ⟨x, rfl, _⟩ := Go.Maps.keyOf_int_inv Tryz.underlying3 hkey; exact ⟨x, rfl⟩) (fun v y _ => ⟨v, rfl⟩) mb w4.heap.size n1 D1 left2 cnt2 rfl hrga ?_ ?_
              · intro _ hl2
                have hfr : b = true ↔ Free ps S n := by
                  rw [hb.out]
                  exact ⟨fun h => ⟨HSN.out, fun k hk => h k ((past_end hl2 k).2 hk)⟩, fun h k hk => h.2 k ((past_end hl2 k).1 hk)⟩
                have K3e : Keep [wo.heap.size] w3 wr := HK4.out.then (HK45.out.then HKb.out (fun x hx => by simp at hx; subst hx; exact .inr (Nat.le_refl _))) (by simp)
                have HK3e := Lib.hid K3e
                have hms : wr.rangeLeft mb wo.heap.size < wq.rangeLeft mb wo.heap.size := by rw [HRGB.out.left_eq, HLT.out]; exact hlt4
                cases b with
                | false =>
                  have HN := Lib.hid (HM.out.1 (fun h => by have := hfr.2 h; cases this))
                  clear hfr hl2 hb HM hrga K3e
                  go_wp2
                  go_roundw
                  case rel => exact ⟨_, cnt4, z, rfl, HRGB.out, HN.out, HK3e.out⟩
                  case measure => exact hms
                | true =>
                  have HFR := Lib.hid (hfr.1 rfl)
                  clear hfr hl2 hb hrga K3e
                  by_cases hz : z = -1
                  · subst hz
                    have HN := Lib.hid (HM.out.2.1 HFR.out (by simp))
                    clear HM
                    go_wp2
                    go_roundw
                    case rel => exact ⟨_, cnt4, n, rfl, HRGB.out, HN.out, HK3e.out⟩
                    case measure => exact hms
                  · have hzb : (z == -1) = false := by simpa using hz
                    by_cases hlt : (n : Int) < z
                    · have hd : decide ((n : Int) < z) = true := by simpa using hlt
                      have HN := Lib.hid (HM.out.2.1 HFR.out (.inr hlt))
                      clear HM
                      go_wp2
                      go_roundw
                      case rel => exact ⟨_, cnt4, n, rfl, HRGB.out, HN.out, HK3e.out⟩
                      case measure => exact hms
                    · have hd : decide ((n : Int) < z) = false := by simpa using hlt
                      have hge : z ≤ (n : Int) := by omega
                      have HN := Lib.hid (HM.out.2.2 (fun h => h.elim hz hlt))
                      clear HM hlt
                      go_wp2
                      go_roundw
                      case rel => exact ⟨_, cnt4, z, rfl, HRGB.out, HN.out, HK3e.out⟩
                      case measure => exact hms
              · intro x2 c2 kl2 y2 w6 cnt6 hkey2 hlk2 hv2 hat2 hrg6 hlt6 hg6 hs6 hen2
                try dsimp only at hen2
                try dsimp only at hv2
                have hyc2 := heldE_inv c2 y2 hv2
                obtain ⟨k, rfl, rfl, hS2, hkl, _⟩ := HRW.out.entry hkey2 (fun z => by rw [hat2 z, hyc2])
                have K6 : Keep [w4.heap.size] w5 w6 := HKb.out.then (Keep.ofBut hg6) (fun x hx => .inl hx)
                have hrb6 := HRGB.out.kept hg6 (by simp; omega) (by simp; omega)
                have K26 : Keep [mb] w2 w6 := (HK24.out.then HK45.out (by simp)).then K6 (fun x hx => by simp at hx; subst hx; right; have := HK24.out.size; omega)
                have q0 := HCL.out w6 K26 k hkl
                have hkl' : (k : Int) < (ps.length : Int) := by omega
                have hst : ∀ b', b' = (b && !inN ps n k) → (b' = true ↔ ∀ j, Past S (fun z => left2 z && !z.sameKey (nl k)) j → inN ps n j = false) := fun b' hb' => by
                  rw [hb', Bool.and_eq_true, hb.out]
                  constructor
                  · rintro ⟨h1, h2⟩ j hj
                    rcases (past_step hS2 j).1 hj with h3 | h3
                    · exact h1 j h3
                    · rw [h3]; simpa using h2
                  · intro h
                    exact ⟨fun j hj => h j ((past_step hS2 j).2 (.inl hj)), by rw [h k ((past_step hS2 k).2 (.inr rfl))]; rfl⟩
                have HSTP := Lib.hid hst
                have hms : w6.rangeLeft mb w4.heap.size < wr.rangeLeft mb w4.heap.size := by rw [hrg6.left_eq, hrga.left_eq]; exact hlt6
                have HR6 := Lib.hid (⟨hrg6, hrb6, K6⟩ : _ ∧ _ ∧ _)
                generalize inN ps n k = ik at q0 HSTP
                clear hst hb hrg6 hrb6 K6 K26 hyc2 hat2 hkey2 hlk2 hv2 hg6 hs6 hrga hS2
                cases b <;> cases ik
                all_goals
                  go_wp2
                  go_roundw
                  case rel => exact ⟨_, cnt6, _, rfl, HR6.out.1, HR6.out.2.1, Lib.hid (HSTP.out _ rfl), HR6.out.2.2⟩
                  case measure => exact hms
end Go.Proofs.YtkminfdblimiiaaGreatDoor
namespace Go.Proofs.YtkminfdblimiiaaGreatDoor
open Go Go.RowKit Go.MapKept

def t12g : ByteArray := ⟨#[64, 108, 111, 110, 103, 32, 97, 32, 61, 32, 34, 120, 34, 32, 98, 59, 32, 98, 32, 61, 32, 34, 121, 34, 32, 97, 32, 124, 32, 59]⟩
def t12h : ByteArray := ⟨#[64, 108, 111, 110, 103, 32, 97, 32, 61, 32, 34, 120, 34, 32, 98, 59, 32, 64, 114, 101, 115, 32, 98, 32, 61, 32, 34, 121, 34, 59]⟩
def t12k : ByteArray := ⟨#[64, 114, 101, 115, 32, 97, 32, 61, 32, 98, 59, 32, 64, 111, 102, 102, 32, 98, 32, 61, 32, 34, 120, 34, 59]⟩
def f12g : FileS := ⟨[], [⟨⟨#[97]⟩, 1, .mk 4 ⟨#[]⟩ [] [.mk 1 ⟨#[120]⟩ [] [] 10, .mk 0 ⟨#[98]⟩ [] [] 14] 10, [], 6⟩, ⟨⟨#[98]⟩, 0, .mk 5 ⟨#[]⟩ [] [.mk 4 ⟨#[]⟩ [] [.mk 1 ⟨#[121]⟩ [] [] 21, .mk 0 ⟨#[97]⟩ [] [] 25] 21, .mk 4 ⟨#[]⟩ [] [] 29] 21, [], 17⟩]⟩
def f12h : FileS := ⟨[], [⟨⟨#[97]⟩, 1, .mk 4 ⟨#[]⟩ [] [.mk 1 ⟨#[120]⟩ [] [] 10, .mk 0 ⟨#[98]⟩ [] [] 14] 10, [], 6⟩, ⟨⟨#[98]⟩, 2, .mk 1 ⟨#[121]⟩ [] [] 26, [], 22⟩]⟩
def f12k : FileS := ⟨[], [⟨⟨#[97]⟩, 2, .mk 0 ⟨#[98]⟩ [] [] 9, [], 5⟩, ⟨⟨#[98]⟩, 4, .mk 1 ⟨#[120]⟩ [] [] 21, [], 17⟩]⟩
def g12g : GramS := ⟨[⟨[[⟨0, [⟨120, 120⟩], 0⟩, ⟨2, [], 1⟩]], 1, []⟩, ⟨[[⟨0, [⟨121, 121⟩], 0⟩, ⟨2, [], 0⟩], []], 0, []⟩], []⟩
def g12h : GramS := ⟨[⟨[[⟨0, [⟨120, 120⟩], 0⟩, ⟨2, [], 1⟩]], 1, []⟩, ⟨[[⟨0, [⟨121, 121⟩], 0⟩]], 2, []⟩], []⟩
def g12k : GramS := ⟨[⟨[[⟨2, [], 1⟩]], 2, []⟩, ⟨[[⟨0, [⟨120, 120⟩], 0⟩]], 4, []⟩], []⟩
theorem text12g : TextOK 3 t12g f12g g12g := by
  refine ⟨by decide, by decide, by decide, by kernel_rfl, by kernel_rfl, ⟨by decide, ?_, by decide, okFile_of (by kernel_rfl), by kernel_rfl, rfl⟩⟩
  · show [(⟨#[97]⟩ : ByteArray), ⟨#[98]⟩].Nodup
    decide
theorem text12h : TextOK 3 t12h f12h g12h := by
  refine ⟨by decide, by decide, by decide, by kernel_rfl, by kernel_rfl, ⟨by decide, ?_, by decide, okFile_of (by kernel_rfl), by kernel_rfl, rfl⟩⟩
  · show [(⟨#[97]⟩ : ByteArray), ⟨#[98]⟩].Nodup
    decide
theorem text12k : TextOK 3 t12k f12k g12k := by
  refine ⟨by decide, by decide, by decide, by kernel_rfl, by kernel_rfl, ⟨by decide, ?_, by decide, okFile_of (by kernel_rfl), by kernel_rfl, rfl⟩⟩
  · show [(⟨#[97]⟩ : ByteArray), ⟨#[98]⟩].Nodup
    decide
theorem ord12h : OrdRel g12h.p (filtN g12h.p) [] (some [1, 0]) := by
  have hb : ∀ n, filtN g12h.p n = true → n < 2 := fun n h => by
    unfold filtN at h
    simp only [Bool.and_eq_true, decide_eq_true_eq] at h
    exact h.1
  have h1 : filtN g12h.p 1 = true := by kernel_rfl
  have h0 : filtN g12h.p 0 = true := by kernel_rfl
  have i1 : inN g12h.p 1 0 = false ∧ inN g12h.p 1 1 = false ∧ inN g12h.p 0 1 = true ∧ inN g12h.p 0 0 = false := by refine ⟨?_, ?_, ?_, ?_⟩ <;> kernel_rfl
  generalize filtN g12h.p = S at hb h1 h0 ⊢
  generalize g12h.p = ps at i1 ⊢
  have e : ∀ k : Nat, k < 2 → k = 0 ∨ k = 1 := fun k h => by omega
  refine .step (n := 1) ⟨h1, fun k hk => ?_⟩ (fun m hm => ?_) (.step (n := 0) ⟨by simp [h0], fun k hk => ?_⟩ (fun m hm => by omega) ?_)
  · rcases e k (hb k hk) with rfl | rfl
    · exact i1.1
    · exact i1.2.1
  · by_cases hm1 : 1 ≤ m
    · exact hm1
    · obtain rfl : m = 0 := by omega
      have := hm.2 1 h1
      rw [i1.2.2.1] at this; cases this
  · simp at hk
    rcases e k (hb k hk.1) with rfl | rfl
    · exact i1.2.2.2
    · exact absurd rfl hk.2
  · exact .done fun n => by
      by_cases hn : S n = true
      · rcases e n (hb n hn) with rfl | rfl <;> simp
      · simp [hn]
structure Aw12 (g h k : GramS) : Prop where
  a : badR g.p = 0
  b : badR h.p = -1
  c : OrdRel h.p (filtN h.p) [] (some [1, 0])
  d : laidR k.p = 0
  e : laidR h.p = -1
  f : gmay h.p = true
theorem aw12 : Aw12 g12g g12h g12k := ⟨by kernel_rfl, by kernel_rfl, ord12h, by kernel_rfl, by kernel_rfl, by kernel_rfl⟩
end Go.Proofs.YtkminfdblimiiaaGreatDoor
