/- The reference's circle and order: the walks. -/
import Derived.Test.YtbpidoiellcccaaGreatDoorK31
set_option linter.unusedVariables false
set_option linter.unusedSimpArgs false
namespace Go.Proofs.YtbpidoiellcccaaGreatDoor
open Go Go.RowKit Go.MapKept

/-- What one reads of the lists of lefts. -/
theorem lRow_at {w : World} {A : Option Addr} {C : Nat} {ps : List ProdS} (H : SlOf LRow [] w 1 (.slice A ps.length C) (leftsA ps ps.length)) (hN : ps.length ≤ 62) : ∀ i, i < ps.length → ∃ b o Ai Ci, A = some ⟨b, o, none⟩ ∧ w.cell? ⟨b, o + i, none⟩ = some (.slice Ai (leftsR ps i).length Ci) ∧
    ((leftsR ps i).length ≤ 1000000 ∧ ∀ j, j < (leftsR ps i).length → ∃ c p, Ai = some ⟨c, p, none⟩ ∧ w.cell? ⟨c, p + j, none⟩ = some (.int .i64 (nth (leftsR ps i) j))) := fun i hi => by
  obtain ⟨A', C', hv, _, hr⟩ := SlOf.at H
  simp only [Value.slice.injEq] at hv
  obtain ⟨rfl, -, rfl⟩ := hv
  obtain ⟨b, o, e, _, h1⟩ := hr (by rw [leftsA_len]; omega)
  obtain ⟨row, _, h2, h3⟩ := h1 i (by rw [leftsA_len]; exact hi)
  have e2 : (leftsA ps ps.length)[i]'(by rw [leftsA_len]; exact hi) = leftsR ps i := by simp [leftsA]
  rw [e2] at h3
  obtain ⟨Ai, Ci, e3, h4⟩ := h3
  have h5 := h2 0 (by omega)
  rw [e3] at h5
  have hsh := leftsR_short ps i
  refine ⟨b, o, Ai, Ci, e, by simpa using h5, by omega, fun j hj => ?_⟩
  obtain ⟨Ai', Ci', e5, _, h6⟩ := IntC.data h4 (by omega)
  simp only [Value.slice.injEq] at e5
  obtain ⟨rfl, -, rfl⟩ := e5
  obtain ⟨c, p, e6, h7⟩ := h6 (by omega)
  exact ⟨c, p, e6, by rw [h7 j hj]; simp [nth, hj]⟩
set_option maxRecDepth 20000 in
set_option maxHeartbeats 4000000 in
theorem circleR_any (A K : Option Addr) (C m D : Nat) (ps : List ProdS) (w : World) (HP : Prods [] w (.slice A ps.length C) ps) (hN : ps.length ≤ 62) :
    Calls Tryz.prog 17 #[.agg #[.slice A ps.length C, .slice K m D]] w fun e w' => (∃ z, e = .returned (.int .i64 z) ∧ CirIs ps z) ∧ Keep [] w w' := by
  have K0 := (Keep.refl [] w).alloc (.cells #[.slice A ps.length C, .slice K m D] 25)
  have HP0 : Prods [] _ (.slice A ps.length C) ps := HP.mv0 K0
  have B0 := Blk.new w #[.slice A ps.length C, .slice K m D] 25
  have HMY := Lib.hid (may8_any [] A K C m D ps _ HP0)
  have HH := Lib.hid (⟨HP0, B0, K0⟩ : _ ∧ _ ∧ _)
  have b0 := B0.cell 0
  have b1 := B0.cell 1
  clear HP HP0 B0 K0
  generalize hnn : ps.length = N at *
  have HNN := Lib.hid hnn
  clear hnn
  go_enter Tryz.func17, Tryz.ntmps17
  go_wp2_with fail
  refine HMY.out.mono ?_
  rintro e w1 ⟨rfl, K1⟩
  have c0 := (HH.out.2.1.keep K1 (by simp)).cell 0
  have c1 := (HH.out.2.1.keep K1 (by simp)).cell 1
  have hLA := leftsA_any A K C m D ps w1 (by rw [HNN.out]; exact HH.out.1.mv0 K1) (by rw [HNN.out]; exact hN)
  rw [HNN.out] at hLA
  have HLA := Lib.hid hLA
  have HK1 := Lib.hid K1
  clear hLA K1 HMY b0 b1
  go_wp2_with fail
  refine HLA.out.mono ?_
  rintro e w2 ⟨⟨v, rfl, OL⟩, K2⟩
  obtain ⟨AL, CL, rfl⟩ := OL.slice
  rw [leftsA_len] at OL ⊢
  have HSL := Lib.hid (⟨by rw [HNN.out]; exact OL.read lRow_stab (by simp) (by simp), HH.out.2.2.trans (HK1.out.trans K2)⟩ : SlOf LRow [] w2 1 (.slice AL ps.length CL) (leftsA ps ps.length) ∧ Keep [] w w2) |> fun h => h
  clear OL K2 HLA c0 c1
  cases hg : gmay ps with
  | false =>
    have HF : Hid (CirIs ps (-1)) := Lib.hid (.inl ⟨hg, rfl⟩)
    clear hg
    go_wp2
    go_loopw [5] (fun iv wr => iv = .int .i64 0 ∧ Hid (Keep [] w wr)) (fun _ _ => 0)
    case atStart => exact ⟨rfl, Lib.hid HSL.out.2⟩
    case round =>
      obtain ⟨rfl, HI⟩ := hrel
      by_cases h0 : 0 < N
      · have h02 : (0 : Int) < (N : Int) := by omega
        go_wp2
        go_ret
        exact ⟨⟨_, rfl, HF.out⟩, HI.out⟩
      · have h02 : decide ((0 : Int) < (N : Int)) = false := decide_eq_false (by omega)
        go_wp2
        go_ret
        exact ⟨⟨_, rfl, HF.out⟩, HI.out⟩
  | true =>
    have HG := Lib.hid hg
    clear hg
    go_wp2
    go_loopw [5] (fun iv wr => ∃ (n : Nat), iv = .int .i64 n ∧ n ≤ N ∧ Hid ((∀ k, k < n → ¬ Comes (lfP ps) k k) ∧ Keep [] w2 wr)) (fun iv _ => N - (intOf iv).toNat)
    case atStart => exact ⟨0, rfl, by omega, Lib.hid ⟨fun k hk => by omega, Keep.refl _ _⟩⟩
    case round =>
      obtain ⟨n, rfl, hn, HI⟩ := hrel
      by_cases hlt : n < N
      · have hlt2 : (n : Int) < (N : Int) := by omega
        have hC := comesR_any AL CL ps n wr (SlOf.move HSL.out.1 lRow_stab (by omega) HI.out.2 (by simp) (fun x hx => .inl hx)) (by rw [HNN.out]; exact hN)
        rw [HNN.out] at hC
        have HC := Lib.hid hC
        clear hC
        go_wp2_with fail
        refine HC.out.mono ?_
        rintro e w3 ⟨⟨bs, rfl, BB, hbl, hbs⟩, K3⟩
        have t0 := BB.cell n
        rw [boolC_at _ _ (by rw [hbl]; exact hlt), gB_at] at t0
        have hbn := hbs n
        have HX := Lib.hid (⟨hbn, K3⟩ : _ ∧ _)
        clear BB K3 HC hbs hbn
        generalize gB bs n = b at t0 HX
        cases b with
        | true =>
          have HF : Hid (CirIs ps n ∧ Keep [] w w3) := Lib.hid ⟨.inr ⟨HG.out, .inr ⟨n, rfl, ⟨by rw [HNN.out]; exact hlt, HX.out.1.1 rfl⟩, fun k hk => by
            by_cases h : n ≤ k
            · exact h
            · exact absurd hk.2 (HI.out.1 k (by omega))⟩⟩, HSL.out.2.trans (HI.out.2.trans HX.out.2)⟩
          go_wp2
          go_ret
          exact ⟨⟨_, rfl, HF.out.1⟩, HF.out.2⟩
        | false =>
          have HN : Hid ((∀ k, k < n + 1 → ¬ Comes (lfP ps) k k) ∧ Keep [] w2 w3) := Lib.hid ⟨fun k hk hc => by
            by_cases h : k = n
            · subst h; have := HX.out.1.2 hc; cases this
            · exact HI.out.1 k (by omega) hc, HI.out.2.trans HX.out.2⟩
          go_wp2
          go_roundw
          case rel => exact ⟨n + 1, by go_num, by omega, HN⟩
          case measure => simp [intOf]; omega
      · obtain rfl : n = N := by omega
        have hd : decide ((n : Int) < (n : Int)) = false := by simp
        have HF : Hid (CirIs ps (-1) ∧ Keep [] w wr) := Lib.hid ⟨.inr ⟨HG.out, .inl ⟨rfl, fun k hk => HI.out.1 k (by have := HNN.out; omega) hk.2⟩⟩, HSL.out.2.trans HI.out.2⟩
        clear hlt
        go_wp2
        go_ret
        exact ⟨⟨_, rfl, HF.out.1⟩, HF.out.2⟩
end Go.Proofs.YtbpidoiellcccaaGreatDoor
namespace Go.Proofs.YtbpidoiellcccaaGreatDoor
open Go Go.RowKit Go.MapKept

theorem rnk_exists {lf : Nat → Nat → Bool} {N : Nat} : ∀ c (S : Nat → Bool), cntB N S ≤ c → (∀ n, S n = true → n < N) → ∃ r, RnkRel lf S r := by
  classical
  intro c
  induction c with
  | zero =>
    intro S hc hS
    exact ⟨[], .done (fun n hn => by
      have := cntB_none (k := N) (f := S) (by omega) n (hS n hn.1)
      rw [hn.1] at this; cases this)⟩
  | succ c ih =>
    intro S hc hS
    by_cases h : ∃ n, Ready lf S n
    · obtain ⟨n, hn, hl⟩ : ∃ n, Ready lf S n ∧ ∀ m, Ready lf S m → n ≤ m := by
        obtain ⟨n, hn⟩ := h
        induction n using Nat.strongRecOn with
        | _ n ihn =>
          by_cases h2 : ∃ m, m < n ∧ Ready lf S m
          · obtain ⟨m, hm, hr⟩ := h2
            exact ihn m hm hr
          · exact ⟨n, hn, fun m hm => by
              by_cases h3 : n ≤ m
              · exact h3
              · exact absurd ⟨m, by omega, hm⟩ h2⟩
      have hd := cntB_del N (f := S) (hS n hn.1) hn.1
      obtain ⟨r, hr⟩ := ih (del S n) (by unfold del; omega) (fun m hm => hS m (by simp [del] at hm; exact hm.1))
      exact ⟨_, .step hn hl hr⟩
    · exact ⟨[], .done (fun n hn => h ⟨n, hn⟩)⟩
/-- The least that is ready from c on. -/
def NextR (ps : List ProdS) (S : Nat → Bool) (c : Nat) (z : Int) : Prop := (z = -1 ∧ ∀ j, c ≤ j → ¬ Ready (lfP ps) S j) ∨ ∃ n : Nat, z = n ∧ Ready (lfP ps) S n ∧ ∀ j, c ≤ j → Ready (lfP ps) S j → n ≤ j
theorem NextR.skip {ps : List ProdS} {S : Nat → Bool} {i : Nat} {z : Int} (h : NextR ps S (i + 1) z) (hn : ¬ Ready (lfP ps) S i) : NextR ps S i z := by
  rcases h with ⟨rfl, h⟩ | ⟨n, rfl, h1, h2⟩
  · refine .inl ⟨rfl, fun j hj hr => ?_⟩
    by_cases e : j = i
    · subst e; exact hn hr
    · exact h j (by omega) hr
  · refine .inr ⟨n, rfl, h1, fun j hj hr => ?_⟩
    by_cases e : j = i
    · subst e; exact absurd hr hn
    · exact h2 j (by omega) hr
theorem NextR.take {ps : List ProdS} {S : Nat → Bool} {i : Nat} (hn : Ready (lfP ps) S i) : NextR ps S i i := .inr ⟨i, rfl, hn, fun j hj _ => hj⟩
/-- Where the scan stands: z is what is next to be looked at. -/
def ScanI (ps : List ProdS) (S : Nat → Bool) (z nv : Int) : Prop := (z = -1 ∧ NextR ps S 0 nv) ∨ ∃ i : Nat, z = i ∧ i < ps.length ∧ NextR ps S (i + 1) nv
theorem ScanI.next {ps : List ProdS} {S : Nat → Bool} {i : Nat} {nv : Int} (hi : i < ps.length) (h : NextR ps S i nv) : ScanI ps S ((i : Int) - 1) nv := by
  cases i with
  | zero => exact .inl ⟨by omega, h⟩
  | succ i => exact .inr ⟨i, by omega, by omega, h⟩
/-- Whether i is ready, as it is reckoned. -/
def allR3 (S : Nat → Bool) (th : List Bool) (i : Nat) (L : List Int) : Bool := S i && L.all fun z => gB th z.toNat
theorem allR3_snoc (S : Nat → Bool) (th : List Bool) (i : Nat) (L : List Int) (j : Nat) (q : Nat) (h : L.take (j + 1) = L.take j ++ [(q : Int)]) : allR3 S th i (L.take (j + 1)) = (allR3 S th i (L.take j) && gB th q) := by
  unfold allR3
  rw [h, List.all_append]
  simp [Bool.and_assoc]
theorem allR3_iff {ps : List ProdS} {S : Nat → Bool} {th : List Bool} {i : Nat} (hi : i < ps.length) (ht : ∀ m, m < ps.length → gB th m = !S m) : allR3 S th i (leftsR ps i) = true ↔ Ready (lfP ps) S i := by
  unfold allR3 Ready
  rw [Bool.and_eq_true, List.all_eq_true]
  constructor
  · rintro ⟨h1, h2⟩
    refine ⟨h1, fun k hk => ?_⟩
    have h3 := h2 _ ((lfP_mem hi).1 hk)
    rw [Int.toNat_natCast, ht k (lfP_lt hk).2] at h3
    simpa using h3
  · rintro ⟨h1, h2⟩
    refine ⟨h1, fun z hz => ?_⟩
    have h3 := leftsR_in z hz
    obtain ⟨k, rfl⟩ : ∃ k : Nat, z = k := ⟨z.toNat, by omega⟩
    rw [Int.toNat_natCast, ht k (by omega), h2 k ((lfP_mem hi).2 hz)]
    rfl
/-- The rounds' world. -/
def OrdW (ps : List ProdS) (tb base : Nat) (W : World) (o : List Int) (S : Nat → Bool) (th : List Bool) (ov : Value) (wr : World) : Prop :=
  NumV wr base ov o ∧ Blk wr tb (boolC th) 4 ∧ tb ∉ ownB ov ∧ RnkTo (lfP ps) (allS ps) o S ∧ th.length = ps.length ∧ (∀ m, m < ps.length → gB th m = !S m) ∧ Keep [] W wr
set_option maxRecDepth 20000 in
set_option maxHeartbeats 4000000 in
theorem order9_any (A K : Option Addr) (C m D : Nat) (ps : List ProdS) (w : World) (HP : Prods [] w (.slice A ps.length C) ps) (hN : ps.length ≤ 62) :
    Calls Tryz.prog 12 #[.agg #[.slice A ps.length C, .slice K m D]] w fun e w' => (∃ v r b, e = .returned (.tuple #[v, .bool b]) ∧ NumV w' w.heap.size v r ∧ OrdIs ps r b) ∧ Keep [] w w' := by
  obtain ⟨i0, hi0, hz0, hz1, hz2⟩ := info_parts info_int
  have hmb := fun w => make_bools w ps.length (by omega)
  have K0 := (Keep.refl [] w).alloc (.cells #[.slice A ps.length C, .slice K m D] 25)
  have HP0 : Prods [] _ (.slice A ps.length C) ps := HP.mv0 K0
  have B0 := Blk.new w #[.slice A ps.length C, .slice K m D] 25
  have HMY := Lib.hid (may8_any [] A K C m D ps _ HP0)
  have HH := Lib.hid (⟨HP0, B0, K0⟩ : _ ∧ _ ∧ _)
  have b0 := B0.cell 0
  have b1 := B0.cell 1
  clear HP HP0 B0 K0
  generalize hnn : ps.length = N at *
  have HNN := Lib.hid hnn
  clear hnn
  go_enter Tryz.func12, Tryz.ntmps12
  go_wp2_with fail
  refine HMY.out.mono ?_
  rintro e w1 ⟨rfl, K1⟩
  have c0 := (HH.out.2.1.keep K1 (by simp)).cell 0
  have c1 := (HH.out.2.1.keep K1 (by simp)).cell 1
  have HK1 := Lib.hid (⟨K1, HH.out.2.2.trans K1⟩ : _ ∧ _)
  clear K1 HMY b0 b1
  cases hg : gmay ps with
  | false =>
    have HG := Lib.hid hg
    clear hg
    go_wp2
    go_ret2
    exact ⟨⟨_, _, _, rfl, NumV.nil _ _, .inl ⟨HG.out, rfl, rfl⟩⟩, HK1.out.2⟩
  | true =>
    have HG := Lib.hid hg
    clear hg
    have hCI := circleR_any A K C m D ps w1 (by rw [HNN.out]; exact HH.out.1.mv0 HK1.out.1) (by rw [HNN.out]; exact hN)
    rw [HNN.out] at hCI
    have HCI := Lib.hid hCI
    clear hCI
    go_wp2_with fail
    refine HCI.out.mono ?_
    rintro e w2 ⟨⟨z, rfl, hz⟩, K2⟩
    have KW2 := HK1.out.1.trans K2
    have d0 := (HH.out.2.1.keep KW2 (by simp)).cell 0
    have d1 := (HH.out.2.1.keep KW2 (by simp)).cell 1
    have HK2 := Lib.hid (⟨KW2, HH.out.2.2.trans KW2⟩ : _ ∧ _)
    clear K2 KW2 HCI c0 c1
    rcases hz with ⟨h0, _⟩ | ⟨_, hz⟩
    · have := HG.out; rw [h0] at this; cases this
    · rcases hz with ⟨rfl, hnc⟩ | ⟨n, rfl, hcn, _⟩
      · have HNC := Lib.hid hnc
        have hLA := leftsA_any A K C m D ps w2 (by rw [HNN.out]; exact HH.out.1.mv0 HK2.out.1) (by rw [HNN.out]; exact hN)
        rw [HNN.out] at hLA
        have HLA := Lib.hid hLA
        clear hLA hnc
        go_wp2_with fail
        refine HLA.out.mono ?_
        rintro e w4 ⟨⟨v, rfl, OL⟩, K4⟩
        obtain ⟨AL, CL, rfl⟩ := OL.slice
        rw [leftsA_len] at OL ⊢
        have hSL : SlOf LRow [] w4 1 (.slice AL ps.length CL) (leftsA ps ps.length) := by rw [HNN.out]; exact OL.read lRow_stab (by simp) (by simp)
        have HRW := Lib.hid (lRow_at hSL (by rw [HNN.out]; exact hN))
        rw [HNN.out] at HRW
        have HK4 := Lib.hid (HK2.out.2.trans K4)
        have KB := (Keep.refl [] w4).alloc (.cells (boolC (List.replicate N false)) 4)
        have HST : Hid (OrdW ps w4.heap.size (w4.heap.size + 1) w4 [] (allS ps) (List.replicate N false) (.slice none 0 0) (w4.alloc (.cells (boolC (List.replicate N false)) 4))) := Lib.hid ⟨NumV.nil _ _, Blk.new w4 _ _, by simp [ownB, Value.ownBlock], .nil, by rw [HNN.out]; simp, fun m hm => by
          rw [HNN.out] at hm
          unfold gB
          rw [List.getD_eq_getElem?_getD, List.getElem?_replicate, if_pos hm]
          simp [allS, HNN.out, hm], KB⟩
        clear hSL OL K4 KB HLA d0 d1
        go_wp2
        go_loopw [7] (fun ov wr => ∃ (o : List Int) (S : Nat → Bool) (th : List Bool) (y : Nat), Hid (OrdW ps w4.heap.size (w4.heap.size + 1) w4 o S th ov wr) ∧ Hid (o.length + y = N) ∧ y ≤ N) (fun ov _ => N - (match ov with | .slice _ k _ => k | _ => 0))
        case atStart => exact ⟨[], _, _, N, HST, Lib.hid (by simp), Nat.le_refl _⟩
        case round =>
          obtain ⟨o, S, th, y, HI, HY, hyN⟩ := hrel
          obtain ⟨NV, BT, hto, hRT, hthl, hth, KW⟩ := HI.out
          obtain ⟨Ao, Co, rfl⟩ := NV.slice
          have hcnt := hRT.len (N := N) (fun n hn => by simpa [allS, HNN.out] using hn)
          have hall : cntB N (allS ps) = N := by
            unfold cntB
            have : (List.range N).countP (allS ps) = (List.range N).length := List.countP_eq_length.2 (fun n hn => by simpa [allS, HNN.out] using List.mem_range.1 hn)
            rw [this, List.length_range]
          rw [hall] at hcnt
          have hSN : ∀ n, S n = true → n < N := fun n hn => by have := hRT.sub n hn; simpa [allS, HNN.out] using this
          by_cases hy : y = 0
          · have hol : o.length = N := by have := HY.out; omega
            have HF := Lib.hid (⟨NV.low (by have := HK4.out.size; omega), .inr ⟨HG.out, o, hRT.end (fun n hn => by
              have h1 := cntB_none (k := N) (f := S) (by omega) n (hSN n hn.1)
              rw [hn.1] at h1; cases h1), .inr ⟨by rw [HNN.out]; omega, rfl, rfl⟩⟩, HK4.out.trans KW⟩ : NumV wr w.heap.size (.slice Ao o.length Co) o ∧ OrdIs ps o true ∧ Keep [] w wr)
            rw [hol] at HF ⊢
            clear NV BT hto hRT hthl hth KW HI hcnt hall hSN hol
            go_wp2
            go_ret2
            exact ⟨⟨_, _, _, rfl, HF.out.1, HF.out.2.1⟩, HF.out.2.2⟩
          · have holN : o.length < N := by have := HY.out; omega
            have hex : ∃ n, Ready (lfP ps) S n := by
              classical
              by_cases h : ∃ n, Ready (lfP ps) S n
              · exact h
              · exfalso
                obtain ⟨n, hn, hS⟩ := cntB_ex (k := N) (f := S) (by omega)
                obtain ⟨m, hm, hc⟩ := circle_is (N := N) (lf := lfP ps) _ S n (Nat.le_refl _) hSN hS (fun m hm => by
                  have h1 : ¬ Ready (lfP ps) S m := fun h2 => h ⟨m, h2⟩
                  unfold Ready at h1
                  rw [not_and] at h1
                  obtain ⟨k, hk⟩ := Classical.not_forall.1 (h1 hm)
                  rw [Classical.not_imp] at hk
                  exact ⟨k, .one hk.1, by simpa using hk.2⟩)
                exact HNC.out m ⟨by have := hSN m hm; have := HNN.out; omega, hc⟩
            have hsc : ScanI ps S ((N : Int) - 1) (-1) := .inr ⟨N - 1, by omega, by have := HNN.out; omega, .inl ⟨rfl, fun j hj hr => by have := hSN j hr.1; omega⟩⟩
            have HSC := Lib.hid hsc
            have HI2 := Lib.hid (⟨NV, BT, hto, hRT, hthl, hth, KW⟩ : _ ∧ _ ∧ _ ∧ _ ∧ _ ∧ _ ∧ _)
            have HEX := Lib.hid hex
            have HSN := Lib.hid hSN
            clear NV BT hto hRT hthl hth KW HI hcnt hall hSN hex hsc
            generalize hol : o.length = ol at *
            have HOL := Lib.hid hol
            have holN2 : (ol : Int) < (N : Int) := by omega
            clear hol
            obtain ⟨wo, rfl⟩ : ∃ wo : World, wo = wr := ⟨_, rfl⟩
            go_wp2
            go_loopw [8, 9] (fun nv iv wr => ∃ (z nz : Int), iv = .int .i64 z ∧ nv = .int .i64 nz ∧ (-1 ≤ z ∧ z < N) ∧ Hid (ScanI ps S z nz ∧ Keep [] wo wr)) (fun _ iv _ => (intOf iv + 1).toNat)
            case atStart => exact ⟨(N : Int) - 1, -1, rfl, rfl, by omega, Lib.hid ⟨HSC.out, Keep.refl _ _⟩⟩
            case round =>
              obtain ⟨z, nz, rfl, rfl, hzr, HJ⟩ := hrel
              obtain ⟨hsc, KJ⟩ := HJ.out
              rcases hsc with ⟨rfl, hnx⟩ | ⟨i, rfl, hiN, hnx⟩
              · obtain ⟨n, hnz, hrd, hls⟩ : ∃ n : Nat, nz = n ∧ Ready (lfP ps) S n ∧ ∀ m, Ready (lfP ps) S m → n ≤ m := by
                  rcases hnx with ⟨_, h⟩ | ⟨n, h1, h2, h3⟩
                  · obtain ⟨q, hq⟩ := HEX.out
                    exact absurd hq (h q (by omega))
                  · exact ⟨n, h1, h2, fun m hm => h3 m (by omega) hm⟩
                subst hnz
                have hnN : n < N := HSN.out n hrd.1
                have hnN2 : (n : Int) < (N : Int) := by omega
                obtain ⟨NV, BT, hto, hRT, hthl, hth, KW⟩ := HI2.out
                have BJ := BT.keep KJ (by simp)
                have t0 := BJ.cell n
                rw [boolC_at _ _ (by rw [hthl, HNN.out]; exact hnN)] at t0
                have t1 := BJ.frozen n
                have KS := (Keep.refl [w4.heap.size] wr).setCell (p := ⟨w4.heap.size, n, none⟩) (by simp) (.bool true)
                have BS := BJ.set n (.bool true)
                rw [boolC_set] at BS
                have NS := (NV.keep KJ (by simp)).keep KS (by simpa using hto)
                have htl : n < th.length := by rw [hthl, HNN.out]; exact hnN
                have hth2 : ∀ m, m < ps.length → gB (th.set n true) m = !(del S n) m := fun m hm => by
                  rw [gB_set _ _ _ htl]
                  by_cases e : m = n
                  · subst e; simp [del]
                  · rw [if_neg e, hth m hm, del_ne S e]
                have KWs : Keep [] w4 (wr.setCell ⟨w4.heap.size, n, none⟩ (.bool true)) := (KW.trans KJ).setCell (.inr (Nat.le_refl _)) _
                have hslt : w4.heap.size < wr.heap.size := BJ.lt
                have H7 := Lib.hid (⟨NS, BS, hto, hRT, by rw [List.length_set]; exact hthl, hth2, KWs, hrd, hls⟩ : _ ∧ _ ∧ _ ∧ _ ∧ (th.set n true).length = ps.length ∧ _ ∧ _ ∧ _ ∧ _)
                generalize th[n]'htl = old at t0
                clear NV BT hto hRT hthl hth KW BJ KS BS NS hth2 KWs hrd hls hnx KJ HJ
                obtain ⟨w7, hw7⟩ : ∃ w7, w7 = wr.setCell ⟨w4.heap.size, n, none⟩ (.bool true) := ⟨_, rfl⟩
                have hs7 : w7.heap.size = wr.heap.size := by rw [hw7]; simp
                rw [← hw7] at H7
                go_wp2_with (at_builtin; refine Hid.out ?_)
                refine Lib.hid ?_
                rw [← hs7, ← hw7]
                clear t0 t1 hw7
                have K6 := (Keep.refl [] w7).alloc (.cells #[.int .i64 (n : Int)] 3)
                have hbo := H7.out.1.base
                refine wpList_append_data intRow_stab intRow_one rfl _ _ 26 rfl Tryz.underlying26 hi0 hz0 hz1 hz2 rfl (by omega) (S := []) (base := w4.heap.size + 1) (v := .slice Ao ol Co) (A := some ⟨w7.heap.size, 0, none⟩) (m := 1) (C := 1) (xs := o) (ys := [(n : Int)]) rfl rfl
                  (H7.out.1.keep K6 (by simp)) (one_int (Blk.new' w7 _ 3 rfl) (fun hx => by have := (hbo _ (by simpa using hx)).2; omega)) (by have := HOL.out; simp; omega) (by have := HOL.out; simp; omega) (by simp; omega) ?_
                intro A9 C9 w9 O9 K9 n9
                rw [HOL.out] at O9 n9 ⊢
                have hto9 : w4.heap.size ∉ ownB (.slice A9 (ol + [(n : Int)].length) C9) := fun h => by
                  rcases n9 _ h with h | h
                  · exact H7.out.2.2.1 h
                  · simp at h; omega
                have HN := Lib.hid (⟨NumV.of O9, (H7.out.2.1.keep K6 (by simp)).keep K9 H7.out.2.2.1, hto9, .snoc H7.out.2.2.2.1 H7.out.2.2.2.2.2.2.2.1 H7.out.2.2.2.2.2.2.2.2, H7.out.2.2.2.2.1, H7.out.2.2.2.2.2.1, (H7.out.2.2.2.2.2.2.1.trans K6).then K9 (fun b hb => .inr (by have := (hbo b hb).1; omega))⟩ : OrdW ps w4.heap.size (w4.heap.size + 1) w4 (o ++ [(n : Int)]) (del S n) (th.set n true) (.slice A9 (ol + [(n : Int)].length) C9) w9)
                have HYY : Hid ((o ++ [(n : Int)]).length + (y - 1) = N) := Lib.hid (by have h1 := HOL.out; have h2 := HY.out; simp; omega)
                have HLT : Hid (ol < N) := Lib.hid holN
                clear O9 K9 n9 K6 hbo hto9 H7
                go_wp2
                go_roundw
                case rel => exact ⟨_, _, _, y - 1, HN, HYY, by omega⟩
                case measure => have := HLT.out; simp; omega
              · obtain ⟨wj, rfl⟩ : ∃ wj : World, wj = wr := ⟨_, rfl⟩
                rw [HNN.out] at hiN
                have hiN2 : (i : Int) < (N : Int) := by omega
                have hi0 : (0 : Int) ≤ (i : Int) := by omega
                have BJ := HI2.out.2.1.keep KJ (by simp)
                have t0 := BJ.cell i
                rw [boolC_at _ _ (by rw [HI2.out.2.2.2.2.1, HNN.out]; exact hiN), gB_at, HI2.out.2.2.2.2.2.1 i (by rw [HNN.out]; exact hiN)] at t0
                obtain ⟨b, oo, Ai, Ci, rfl, r0, hll, hrc⟩ := HRW.out i hiN
                have KWJ := HI2.out.2.2.2.2.2.2.trans KJ
                have hiff := allR3_iff (S := S) (th := th) (i := i) (by rw [HNN.out]; exact hiN) HI2.out.2.2.2.2.2.1
                have hst3 : allR3 S th i ((leftsR ps i).take 0) = S i := by simp [allR3]
                have HX := Lib.hid (⟨hnx, KJ, KWJ, BJ, hrc, r0, hiff⟩ : _ ∧ _ ∧ _ ∧ _ ∧ _ ∧ _ ∧ _)
                generalize hL : leftsR ps i = L at *
                have HL := Lib.hid hL
                have HS3 := Lib.hid hst3
                clear hnx KJ KWJ BJ hrc r0 hiff HJ hL hst3
                have hnn : (!(!S i)) = S i := by simp
                go_wp2
                go_loopw [10, 11] (fun av jv wr => ∃ (j : Nat), jv = .int .i64 j ∧ av = .bool (allR3 S th i (L.take j)) ∧ j ≤ L.length ∧ Hid (Keep [] wj wr)) (fun _ jv _ => L.length - (intOf jv).toNat)
                case atStart => exact ⟨0, rfl, by rw [HS3.out], by omega, Lib.hid (Keep.refl _ _)⟩
                case round =>
                  obtain ⟨j, rfl, rfl, hj, HQ⟩ := hrel
                  obtain ⟨hnx, KJ, KWJ, BJ, hrc, r0, hiff⟩ := HX.out
                  have r1 := (KWJ.trans HQ.out).cell r0 (by simp)
                  by_cases hjl : j < L.length
                  · obtain ⟨c, p, rfl, e0⟩ := hrc j hjl
                    have e1 := (KWJ.trans HQ.out).cell e0 (by simp)
                    have hmm : nth L j ∈ L := by simp [nth, hjl]
                    have hin3 := leftsR_in (ps := ps) (n := (i : Int)) (nth L j) (by rw [HL.out]; exact hmm)
                    obtain ⟨q, hq⟩ : ∃ q : Nat, nth L j = q := ⟨(nth L j).toNat, by omega⟩
                    rw [hq] at e1 hin3
                    have hqN : q < N := by have := HNN.out; omega
                    have u0 := (BJ.keep HQ.out (by simp)).cell q
                    rw [boolC_at _ _ (by rw [HI2.out.2.2.2.2.1, HNN.out]; exact hqN), gB_at] at u0
                    have htk : L.take (j + 1) = L.take j ++ [(q : Int)] := by rw [List.take_succ_eq_append_getElem hjl, ← hq]; simp [nth, hjl]
                    have hsn := allR3_snoc S th i L j q htk
                    have hjl2 : (j : Int) < (L.length : Int) := by omega
                    have hqN2 : (q : Int) < (N : Int) := by omega
                    generalize allR3 S th i (L.take j) = av at *
                    generalize gB th q = gq at *
                    have HSN3 := Lib.hid hsn
                    clear hnx KJ KWJ BJ hrc r0 hiff e0 hmm hin3 hq htk hsn
                    cases av with
                    | true =>
                      go_wp2
                      go_roundw
                      case rel => exact ⟨j + 1, by go_num, by rw [HSN3.out]; simp, by omega, HQ⟩
                      case measure => simp [intOf]; omega
                    | false =>
                      go_wp2
                      go_roundw
                      case rel => exact ⟨j + 1, by go_num, by rw [HSN3.out]; simp, by omega, HQ⟩
                      case measure => simp [intOf]; omega
                  · obtain rfl : j = L.length := by omega
                    rw [List.take_length]
                    have hjd : ¬ (L.length : Int) < (L.length : Int) := by omega
                    cases ha : allR3 S th i L with
                    | true =>
                      have HN : Hid (ScanI ps S ((i : Int) - 1) (i : Int) ∧ Keep [] wo wr) := Lib.hid ⟨ScanI.next (by rw [HNN.out]; exact hiN) (NextR.take (hiff.1 ha)), KJ.trans HQ.out⟩
                      clear hnx KJ KWJ BJ hrc r0 hiff ha hjl
                      go_wp2
                      go_roundw
                      case rel => exact ⟨(i : Int) - 1, _, by go_num, rfl, by omega, HN⟩
                      case measure => simp [intOf]
                    | false =>
                      have HN : Hid (ScanI ps S ((i : Int) - 1) nz ∧ Keep [] wo wr) := Lib.hid ⟨ScanI.next (by rw [HNN.out]; exact hiN) (hnx.skip (fun h => by have := hiff.2 h; rw [ha] at this; cases this)), KJ.trans HQ.out⟩
                      clear hnx KJ KWJ BJ hrc r0 hiff ha hjl
                      go_wp2
                      go_roundw
                      case rel => exact ⟨(i : Int) - 1, _, by go_num, rfl, by omega, HN⟩
                      case measure => simp [intOf]
      · have HF : Hid (OrdIs ps [] false) := Lib.hid (by
          obtain ⟨r, hr⟩ := rnk_exists (lf := lfP ps) (N := ps.length) _ (allS ps) (Nat.le_refl _) (fun n hn => by simpa [allS] using hn)
          exact .inr ⟨HG.out, r, hr, .inl ⟨((hr.few (N := ps.length) (fun n k h => lfP_lt h)).2).2 ⟨n, hcn⟩, rfl, rfl⟩⟩)
        have hn0 : (0 : Int) ≤ (n : Int) := by omega
        clear hcn d0 d1
        go_wp2
        go_ret2
        exact ⟨⟨_, _, _, rfl, NumV.nil _ _, HF.out⟩, HK2.out.2⟩
end Go.Proofs.YtbpidoiellcccaaGreatDoor
