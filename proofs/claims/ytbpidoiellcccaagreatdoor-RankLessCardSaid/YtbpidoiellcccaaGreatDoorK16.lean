/- A heap's up and down over a pile. -/
import Derived.Test.YtbpidoiellcccaaGreatDoorK15
set_option linter.unusedVariables false
set_option linter.unusedSimpArgs false
namespace Go.Proofs.YtbpidoiellcccaaGreatDoor
open Go Go.RowKit Go.MapKept

/-- The pile's box, and its numbers; since W only its own row has turned. -/
def PileAt (pb base : Nat) (v : Value) (W : World) (xs : List Int) (wr : World) : Prop := Blk wr pb #[v] 60 ∧ NumV wr base v xs ∧ Keep (ownB v) W wr
theorem PileAt.swap (pb base : Nat) (v : Value) (W : World) (xs : List Int) (i k : Nat) (wr : World) (h : PileAt pb base v W xs wr) (hpb : pb ∉ ownB v) (hi : i < xs.length) (hk : k < xs.length) :
    Calls Tryz.prog 199 #[.pointer (some ⟨pb, 0, none⟩), .int .i64 i, .int .i64 k] wr fun e w' => e = .returned (.tuple #[]) ∧ PileAt pb base v W (swapL xs i k) w' :=
  (swap_any pb base v xs i k wr h.1 h.2.1 hpb hi hk).mono fun _ _ h2 => ⟨h2.1, h2.2.1, h2.2.2.1, h.2.2.trans h2.2.2.2⟩
theorem PileAt.less (pb base : Nat) (v : Value) (W : World) (xs : List Int) (i k : Nat) (wr : World) (h : PileAt pb base v W xs wr) (hi : i < xs.length) (hk : k < xs.length) :
    Calls Tryz.prog 196 #[.pointer (some ⟨pb, 0, none⟩), .int .i64 i, .int .i64 k] wr fun e w' => e = .returned (.bool (decide (nth xs i < nth xs k))) ∧ PileAt pb base v W xs w' :=
  (less_any pb base v xs i k wr h.1 h.2.1 hi hk).mono fun _ _ h2 => ⟨h2.1, h.1.keep h2.2 (by simp), h.2.1.keep h2.2 (by simp), h.2.2.then h2.2 (by simp)⟩
theorem pile_less (pb : Nat) (w : World) : (method 361 62 (.pointer (some ⟨pb, 0, none⟩)) "Less").run Tryz.prog w = .ok (196, .pointer (some ⟨pb, 0, none⟩)) w := by kernel_rfl
theorem pile_swap (pb : Nat) (w : World) : (method 361 62 (.pointer (some ⟨pb, 0, none⟩)) "Swap").run Tryz.prog w = .ok (199, .pointer (some ⟨pb, 0, none⟩)) w := by kernel_rfl
theorem pile_len (pb : Nat) (w : World) : (method 361 62 (.pointer (some ⟨pb, 0, none⟩)) "Len").run Tryz.prog w = .ok (28, .pointer (some ⟨pb, 0, none⟩)) w := by kernel_rfl
theorem pile_push (pb : Nat) (w : World) : (method 361 62 (.pointer (some ⟨pb, 0, none⟩)) "Push").run Tryz.prog w = .ok (198, .pointer (some ⟨pb, 0, none⟩)) w := by kernel_rfl
theorem pile_pop (pb : Nat) (w : World) : (method 361 62 (.pointer (some ⟨pb, 0, none⟩)) "Pop").run Tryz.prog w = .ok (197, .pointer (some ⟨pb, 0, none⟩)) w := by kernel_rfl
set_option maxRecDepth 20000 in
set_option maxHeartbeats 4000000 in
theorem up_any (pb base : Nat) (v : Value) (xs : List Int) (n j : Nat) (W w : World) (H : PileAt pb base v W xs w) (hpb : pb ∉ ownB v) (hn : n = xs.length) (hj : j < n) (hl : n < 100000) (hu : HeapUp xs n j) :
    Calls Tryz.prog 107 #[.iface 62 (.pointer (some ⟨pb, 0, none⟩)), .int .i64 j] w fun e w' => e = .returned (.tuple #[]) ∧ ∃ ys : List Int, PileAt pb base v W ys w' ∧ ys.Perm xs ∧ HeapFrom ys 0 n := by
  have HH := Lib.hid H; clear H
  go_enter Tryz.func107, Tryz.ntmps107
  go_wp2
  go_loopw [1] (fun jv wr => ∃ (k : Nat) (ys : List Int), jv = .int .i64 k ∧ k < n ∧ Hid (PileAt pb base v W ys wr) ∧ Hid (ys.Perm xs ∧ HeapUp ys n k)) (fun jv _ => (intOf jv).toNat)
  case atStart => exact ⟨j, xs, rfl, hj, HH, Lib.hid ⟨List.Perm.refl _, hu⟩⟩
  case round =>
    obtain ⟨k, ys, rfl, hk, HP, HU⟩ := hrel
    have hyl : ys.length = n := by rw [hn]; exact HU.out.1.length_eq
    have hmL := pile_less pb
    have hmS := pile_swap pb
    by_cases hk0 : k = 0
    · subst hk0
      have HF := Lib.hid (heapUp_done HU.out.2 (.inl rfl))
      go_wp2
      go_end0
      exact ⟨rfl, ys, HP.out, HU.out.1, HF.out⟩
    · have hpl : par k < k := by unfold par; omega
      have hpar : ((k : Int) - 1) / 2 = ((par k : Nat) : Int) := by unfold par; omega
      have hpe : (((par k : Nat) : Int) == (k : Int)) = false := by simp; omega
      have hpe2 : ¬ ((par k : Nat) : Int) = (k : Int) := by omega
      have hLess := HP.out.less pb base v W ys k (par k) wr (by omega) (by omega)
      have HUP := Lib.hid (fun h => heapUp_step HU.out.2 (by omega) hk rfl (by omega) h)
      have HDN := Lib.hid (fun h => heapUp_done HU.out.2 (.inr h))
      generalize hpk : par k = p at *
      have HPK := Lib.hid hpk
      clear hpk
      have HL := Lib.hid hLess
      clear hLess
      by_cases hlt : nth ys k < nth ys p
      · have hdt : decide (nth ys k < nth ys p) = true := by simpa using hlt
        rw [hdt] at HL
        go_wp2_with fail
        refine HL.out.mono ?_
        rintro e w1 ⟨rfl, H1⟩
        have HSW := Lib.hid (H1.swap pb base v W ys p k w1 hpb (by omega) (by omega))
        go_wp2_with fail
        refine HSW.out.mono ?_
        rintro e w2 ⟨rfl, H2⟩
        have HFN := Lib.hid (⟨(swapL_perm (a := ys) (i := p) (j := k) (by omega) (by omega)).trans HU.out.1, HUP.out hlt⟩ : _ ∧ _)
        have HH2 := Lib.hid H2
        clear H1 H2 HSW HL HP HU
        go_wp2
        go_roundw
        case rel => exact ⟨p, _, rfl, by omega, HH2, HFN⟩
        case measure => simp [intOf]; omega
      · have hdt : decide (nth ys k < nth ys p) = false := by simpa using hlt
        rw [hdt] at HL
        have HFN := Lib.hid (HDN.out (by omega))
        go_wp2_with fail
        refine HL.out.mono ?_
        rintro e w1 ⟨rfl, H1⟩
        have HH1 := Lib.hid H1
        clear H1
        go_wp2
        go_end0
        exact ⟨rfl, ys, HH1.out, HU.out.1, HFN.out⟩
/-- A bool is handed back. -/
def SomeQ (e : Ending) : Prop := ∃ b, e = .returned (.bool b)
/-- What is kept on the way down. -/
def DownI (xs ys : List Int) (s n k : Nat) : Prop := ys.Perm xs ∧ (∀ c, n ≤ c → nth ys c = nth xs c) ∧ HeapBut ys s n k
theorem down_step {xs ys : List Int} {s n k j : Nat} (h : DownI xs ys s n k) (hl : n ≤ ys.length) (hs : s ≤ k) (hj0 : k < j) (hjn : j < n) (hp : par j = k) (_ : k < n) (hlt : nth ys j < nth ys k) (hc : ∀ c, 0 < c → c < n → par c = k → nth ys j ≤ nth ys c) : DownI xs (swapL ys k j) s n j := by
  refine ⟨(swapL_perm (by omega) (by omega)).trans h.1, fun c hc => ?_, heapBut_step h.2.2 hs (by omega) hjn hp hl hlt hc⟩
  rw [swapL_nth (by omega) (by omega), if_neg (by omega), if_neg (by omega)]
  exact h.2.1 c hc
theorem down_done {xs ys : List Int} {s n k j : Nat} (h : DownI xs ys s n k) (hle : nth ys k ≤ nth ys j) (hc : ∀ c, 0 < c → c < n → par c = k → nth ys j ≤ nth ys c) : ys.Perm xs ∧ (∀ c, n ≤ c → nth ys c = nth xs c) ∧ HeapFrom ys s n :=
  ⟨h.1, h.2.1, heapBut_done h.2.2 (fun c h0 hn hp => Int.le_trans hle (hc c h0 hn hp))⟩
set_option maxRecDepth 20000 in
set_option maxHeartbeats 8000000 in
theorem down_any (pb base : Nat) (v : Value) (xs : List Int) (n s : Nat) (W w : World) (H : PileAt pb base v W xs w) (hpb : pb ∉ ownB v) (hn : n ≤ xs.length) (hs : s ≤ n) (hl : n < 100000) (hu : HeapFrom xs (s + 1) n) :
    Calls Tryz.prog 53 #[.iface 62 (.pointer (some ⟨pb, 0, none⟩)), .int .i64 s, .int .i64 n] w fun e w' => SomeQ e ∧ ∃ ys : List Int, PileAt pb base v W ys w' ∧ ys.Perm xs ∧ (∀ c, n ≤ c → nth ys c = nth xs c) ∧ HeapFrom ys s n := by
  have HH := Lib.hid H; clear H
  have H0 : Hid (DownI xs xs s n s) := Lib.hid ⟨List.Perm.refl _, fun _ _ => rfl, heapBut_of hu⟩
  clear hu
  go_enter Tryz.func53, Tryz.ntmps53
  go_wp2
  go_loopw [7] (fun jv wr => ∃ (k : Nat) (ys : List Int), jv = .int .i64 k ∧ (s ≤ k ∧ k ≤ n) ∧ Hid (PileAt pb base v W ys wr) ∧ Hid (DownI xs ys s n k)) (fun jv _ => n - (intOf jv).toNat)
  case atStart => exact ⟨s, xs, rfl, ⟨Nat.le_refl _, hs⟩, HH, H0⟩
  case round =>
    obtain ⟨k, ys, rfl, ⟨hsk, hkn⟩, HP, HU⟩ := hrel
    have hyl : n ≤ ys.length := by have := HU.out.1.length_eq; omega
    have hmL := pile_less pb
    have hmS := pile_swap pb
    have e1 : (2 * (k : Int) + 1) = ((2 * k + 1 : Nat) : Int) := by omega
    generalize hj1 : 2 * k + 1 = j1 at e1
    have n0 : ¬ ((j1 : Int) < 0) := by omega
    by_cases hA : n ≤ j1
    · have hA' : (n : Int) ≤ (j1 : Int) := by omega
      have HF := Lib.hid (down_done HU.out (j := k) (Int.le_refl _) (fun c h0 hc hp => by unfold par at hp; omega))
      go_wp2
      go_ret
      exact ⟨⟨_, rfl⟩, ys, HP.out, HF.out⟩
    · have hA' : ¬ (n : Int) ≤ (j1 : Int) := by omega
      have e2 : ((j1 : Int) + 1) = ((j1 + 1 : Nat) : Int) := by omega
      generalize hj2 : j1 + 1 = j2 at e2
      by_cases hB : j2 < n
      · have hB' : (j2 : Int) < (n : Int) := by omega
        have HL0 := Lib.hid (HP.out.less pb base v W ys j2 j1 wr (by omega) (by omega))
        by_cases hC : nth ys j2 < nth ys j1
        · have hdc : decide (nth ys j2 < nth ys j1) = true := by simpa using hC
          rw [hdc] at HL0
          have HCH : ∀ c, 0 < c → c < n → par c = k → nth ys j2 ≤ nth ys c := fun c h0 hc hp => by
            have : c = j1 ∨ c = j2 := by unfold par at hp; omega
            rcases this with rfl | rfl <;> omega
          clear hdc hC HP
          go_wp2_with fail
          refine HL0.out.mono ?_
          rintro e w1 ⟨rfl, H1⟩
          have HP1 := Lib.hid H1
          clear H1 HL0
          have HST := Lib.hid (fun (h : nth ys j2 < nth ys k) => down_step HU.out hyl hsk (j := j2) (by omega) (by omega) (by unfold par; omega) (by omega) h HCH)
          have HDN := Lib.hid (fun (h : nth ys k ≤ nth ys j2) => down_done HU.out (j := j2) h HCH)
          have HL := Lib.hid (HP1.out.less pb base v W ys j2 k w1 (by omega) (by omega))
          clear HCH HP1 HU
          generalize nth ys j2 = yj at *
          generalize nth ys k = yk at *
          by_cases hlt : yj < yk
          · have hdt : decide (yj < yk) = true := by simpa using hlt
            rw [hdt] at HL
            have HFN := Lib.hid (HST.out hlt)
            go_wp2_with fail
            refine HL.out.mono ?_
            rintro e w2 ⟨rfl, H2⟩
            have HSW := Lib.hid (H2.swap pb base v W ys k j2 w2 hpb (by omega) (by omega))
            clear H2
            go_wp2_with fail
            refine HSW.out.mono ?_
            rintro e w3 ⟨rfl, H3⟩
            have HH3 := Lib.hid H3
            clear H3
            go_wp2
            go_roundw
            case rel => exact ⟨j2, _, rfl, by omega, HH3, HFN⟩
            case measure => simp [intOf]; omega
          · have hdt : decide (yj < yk) = false := by simpa using hlt
            rw [hdt] at HL
            have HFN := Lib.hid (HDN.out (by omega))
            go_wp2_with fail
            refine HL.out.mono ?_
            rintro e w2 ⟨rfl, H2⟩
            have HH2 := Lib.hid H2
            clear H2
            go_wp2
            go_ret
            exact ⟨⟨_, rfl⟩, ys, HH2.out, HFN.out⟩
        · have hdc : decide (nth ys j2 < nth ys j1) = false := by simpa using hC
          rw [hdc] at HL0
          have HCH : ∀ c, 0 < c → c < n → par c = k → nth ys j1 ≤ nth ys c := fun c h0 hc hp => by
            have : c = j1 ∨ c = j2 := by unfold par at hp; omega
            rcases this with rfl | rfl <;> omega
          clear hdc hC HP
          go_wp2_with fail
          refine HL0.out.mono ?_
          rintro e w1 ⟨rfl, H1⟩
          have HP1 := Lib.hid H1
          clear H1 HL0
          have HST := Lib.hid (fun (h : nth ys j1 < nth ys k) => down_step HU.out hyl hsk (j := j1) (by omega) (by omega) (by unfold par; omega) (by omega) h HCH)
          have HDN := Lib.hid (fun (h : nth ys k ≤ nth ys j1) => down_done HU.out (j := j1) h HCH)
          have HL := Lib.hid (HP1.out.less pb base v W ys j1 k w1 (by omega) (by omega))
          clear HCH HP1 HU
          generalize nth ys j1 = yj at *
          generalize nth ys k = yk at *
          by_cases hlt : yj < yk
          · have hdt : decide (yj < yk) = true := by simpa using hlt
            rw [hdt] at HL
            have HFN := Lib.hid (HST.out hlt)
            go_wp2_with fail
            refine HL.out.mono ?_
            rintro e w2 ⟨rfl, H2⟩
            have HSW := Lib.hid (H2.swap pb base v W ys k j1 w2 hpb (by omega) (by omega))
            clear H2
            go_wp2_with fail
            refine HSW.out.mono ?_
            rintro e w3 ⟨rfl, H3⟩
            have HH3 := Lib.hid H3
            clear H3
            go_wp2
            go_roundw
            case rel => exact ⟨j1, _, rfl, by omega, HH3, HFN⟩
            case measure => simp [intOf]; omega
          · have hdt : decide (yj < yk) = false := by simpa using hlt
            rw [hdt] at HL
            have HFN := Lib.hid (HDN.out (by omega))
            go_wp2_with fail
            refine HL.out.mono ?_
            rintro e w2 ⟨rfl, H2⟩
            have HH2 := Lib.hid H2
            clear H2
            go_wp2
            go_ret
            exact ⟨⟨_, rfl⟩, ys, HH2.out, HFN.out⟩
      · have hB' : decide ((j2 : Int) < (n : Int)) = false := by simp; omega
        have HCH : ∀ c, 0 < c → c < n → par c = k → nth ys j1 ≤ nth ys c := fun c h0 hc hp => by
          have : c = j1 := by unfold par at hp; omega
          subst this; exact Int.le_refl _
        obtain ⟨w1, hw1⟩ : ∃ w1, w1 = wr := ⟨_, rfl⟩
        have HP1 := HP
        clear HP
        rw [← hw1] at HP1 ⊢
        clear hw1
        have HST := Lib.hid (fun (h : nth ys j1 < nth ys k) => down_step HU.out hyl hsk (j := j1) (by omega) (by omega) (by unfold par; omega) (by omega) h HCH)
        have HDN := Lib.hid (fun (h : nth ys k ≤ nth ys j1) => down_done HU.out (j := j1) h HCH)
        have HL := Lib.hid (HP1.out.less pb base v W ys j1 k w1 (by omega) (by omega))
        clear HCH HP1 HU
        generalize nth ys j1 = yj at *
        generalize nth ys k = yk at *
        by_cases hlt : yj < yk
        · have hdt : decide (yj < yk) = true := by simpa using hlt
          rw [hdt] at HL
          have HFN := Lib.hid (HST.out hlt)
          go_wp2_with fail
          refine HL.out.mono ?_
          rintro e w2 ⟨rfl, H2⟩
          have HSW := Lib.hid (H2.swap pb base v W ys k j1 w2 hpb (by omega) (by omega))
          clear H2
          go_wp2_with fail
          refine HSW.out.mono ?_
          rintro e w3 ⟨rfl, H3⟩
          have HH3 := Lib.hid H3
          clear H3
          go_wp2
          go_roundw
          case rel => exact ⟨j1, _, rfl, by omega, HH3, HFN⟩
          case measure => simp [intOf]; omega
        · have hdt : decide (yj < yk) = false := by simpa using hlt
          rw [hdt] at HL
          have HFN := Lib.hid (HDN.out (by omega))
          go_wp2_with fail
          refine HL.out.mono ?_
          rintro e w2 ⟨rfl, H2⟩
          have HH2 := Lib.hid H2
          clear H2
          go_wp2
          go_ret
          exact ⟨⟨_, rfl⟩, ys, HH2.out, HFN.out⟩
end Go.Proofs.YtbpidoiellcccaaGreatDoor
namespace Go.Proofs.YtbpidoiellcccaaGreatDoor
open Go Go.RowKit Go.MapKept

theorem PileAt.len (pb base : Nat) (v : Value) (W : World) (xs : List Int) (wr : World) (h : PileAt pb base v W xs wr) :
    Calls Tryz.prog 28 #[.pointer (some ⟨pb, 0, none⟩)] wr fun e w' => e = .returned (.int .i64 xs.length) ∧ PileAt pb base v W xs w' := by
  obtain ⟨A, C, rfl⟩ := h.2.1.slice
  exact (len_any pb A xs.length C wr h.1).mono fun _ _ h2 => ⟨h2.1, h.1.keep h2.2 (by simp), h.2.1.keep h2.2 (by simp), h.2.2.then h2.2 (by simp)⟩
/-- Where the rounds of Init stand. -/
def InitI (xs ys : List Int) (n : Nat) (z : Int) : Prop := ys.Perm xs ∧ ((z = -1 ∧ HeapFrom ys 0 n) ∨ ∃ k : Nat, z = k ∧ k < n ∧ HeapFrom ys (k + 1) n)
theorem heap_start (xs : List Int) (n : Nat) : HeapFrom xs (n / 2) n := fun c h0 hn hs => by unfold par at hs; omega
theorem InitI.start (xs : List Int) (n : Nat) : InitI xs xs n ((n : Int) / 2 - 1) := by
  refine ⟨List.Perm.refl _, ?_⟩
  have h := heap_start xs n
  by_cases h0 : n / 2 = 0
  · rw [h0] at h; exact .inl ⟨by omega, h⟩
  · exact .inr ⟨n / 2 - 1, by omega, by omega, by rw [show n / 2 - 1 + 1 = n / 2 by omega]; exact h⟩
theorem InitI.next {xs ys zs : List Int} {n k : Nat} (hp : zs.Perm ys) (h1 : ys.Perm xs) (hk : k < n) (h : HeapFrom zs k n) : InitI xs zs n ((k : Int) - 1) := by
  refine ⟨hp.trans h1, ?_⟩
  cases k with
  | zero => exact .inl ⟨by omega, h⟩
  | succ k => exact .inr ⟨k, by omega, by omega, h⟩
set_option maxRecDepth 20000 in
set_option maxHeartbeats 4000000 in
theorem init_any (pb base : Nat) (v : Value) (xs : List Int) (n : Nat) (W w : World) (H : PileAt pb base v W xs w) (hpb : pb ∉ ownB v) (hn : n = xs.length) (hl : n < 100000) :
    Calls Tryz.prog 27 #[.iface 62 (.pointer (some ⟨pb, 0, none⟩))] w fun e w' => e = .returned (.tuple #[]) ∧ ∃ ys : List Int, PileAt pb base v W ys w' ∧ ys.Perm xs ∧ HeapFrom ys 0 n := by
  have hmN := pile_len pb
  have HLN := Lib.hid (H.len pb base v W xs w)
  rw [← hn] at HLN
  have HNN := Lib.hid hn
  clear H hn
  have hst := InitI.start xs n
  generalize hz0 : (n : Int) / 2 = z0 at hst
  have hz1 : -1 ≤ z0 - 1 ∧ z0 - 1 ≤ n := by omega
  have HST := Lib.hid hst
  clear hst
  go_enter Tryz.func27, Tryz.ntmps27
  go_wp2_with fail
  refine HLN.out.mono ?_
  rintro e w1 ⟨rfl, H1⟩
  have HH1 := Lib.hid H1
  clear H1 HLN
  go_wp2
  go_loopw [3] (fun jv wr => ∃ (z : Int) (ys : List Int), jv = .int .i64 z ∧ (-1 ≤ z ∧ z ≤ n) ∧ Hid (PileAt pb base v W ys wr) ∧ Hid (InitI xs ys n z)) (fun jv _ => (intOf jv + 1).toNat)
  case atStart => exact ⟨_, xs, rfl, hz1, HH1, HST⟩
  case round =>
    obtain ⟨z, ys, rfl, hzr, HP, HI⟩ := hrel
    obtain ⟨hp, hI⟩ := HI.out
    clear HI hz0
    rcases hI with ⟨rfl, hf⟩ | ⟨k, rfl, hk, hf⟩
    · have HF := Lib.hid (⟨hp, hf⟩ : _ ∧ _)
      clear hp hf
      go_wp2
      go_end0
      exact ⟨rfl, ys, HP.out, HF.out⟩
    · have HD := Lib.hid (down_any pb base v ys n k W wr HP.out hpb (by rw [hp.length_eq, ← HNN.out]; exact Nat.le_refl _) (by omega) hl hf)
      have HPM := Lib.hid hp
      clear hp hf HP
      go_wp2_with fail
      refine HD.out.mono ?_
      rintro e w2 ⟨⟨b, rfl⟩, zs, H2, p2, _, f2⟩
      have HN := Lib.hid (InitI.next p2 HPM.out hk f2)
      have HH2 := Lib.hid H2
      clear H2 p2 f2 HD
      go_wp2
      go_roundw
      case rel => exact ⟨(k : Int) - 1, zs, rfl, by omega, HH2, HN⟩
      case measure => simp [intOf]
end Go.Proofs.YtbpidoiellcccaaGreatDoor
namespace Go.Proofs.YtbpidoiellcccaaGreatDoor
open Go Go.RowKit Go.MapKept

/-- The box pb holds a heap of these numbers. -/
structure HeapV (w : World) (pb base : Nat) (v : Value) (xs : List Int) : Prop where
  box : Blk w pb #[v] 60
  num : NumV w base v xs
  out : pb ∉ ownB v
  few : xs.length < 100000
  heap : HeapFrom xs 0 xs.length
/-- From w to w' the heap in box pb has turned alone; it has numbers of which P is so. -/
def HeapGo (pb base : Nat) (v : Value) (w w' : World) (P : List Int → Prop) : Prop := ∃ v' ys, HeapV w' pb base v' ys ∧ (∀ b ∈ ownB v', b ∈ ownB v ∨ w.heap.size ≤ b) ∧ Keep (pb :: ownB v) w w' ∧ P ys
theorem heap_put {xs : List Int} {x : Int} (h : HeapFrom xs 0 xs.length) : HeapUp (xs ++ [x]) (xs.length + 1) xs.length := heapUp_of h (fun k hk => nth_app xs [x] k hk)
theorem heap_get {xs ys : List Int} {m : Nat} (hl : xs.length = m + 1) (h : HeapFrom xs 0 (m + 1)) (hp : ys.Perm (swapL xs 0 m)) (ht : ∀ c, m ≤ c → nth ys c = nth (swapL xs 0 m) c) (hf : HeapFrom ys 0 m) :
    nth ys m = nth xs 0 ∧ HeapFrom (ys.take m) 0 (ys.take m).length ∧ xs.Perm (nth xs 0 :: ys.take m) ∧ (∀ z ∈ xs, nth xs 0 ≤ z) ∧ (ys.take m).length = m := by
  have hyl : ys.length = m + 1 := by rw [hp.length_eq, swapL_len, hl]
  have e1 : nth ys m = nth xs 0 := by rw [ht m (Nat.le_refl _), swapL_nth (by omega) (by omega), if_pos rfl]
  have e2 : (ys.take m).length = m := by simp; omega
  refine ⟨e1, ?_, ?_, ?_, e2⟩
  · rw [e2]; exact hf.congr (fun k hk => nth_take ys m k hk)
  · have h3 := nth_last ys m hyl
    rw [e1] at h3
    have h4 : xs.Perm ys := ((hp.trans (swapL_perm (by omega) (by omega)))).symm
    rw [h3] at h4
    exact h4.trans List.perm_append_comm
  · intro z hz
    obtain ⟨i, hi, rfl⟩ := List.getElem_of_mem hz
    have := heap_min h i (by omega)
    simpa [nth, hi] using this
set_option maxRecDepth 20000 in
set_option maxHeartbeats 4000000 in
theorem heapPush_any (pb base : Nat) (v : Value) (xs : List Int) (x : Int) (w : World) (H : HeapV w pb base v xs) (hl : xs.length < 99999) (hbase : base ≤ w.heap.size) :
    Calls Tryz.prog 73 #[.iface 62 (.pointer (some ⟨pb, 0, none⟩)), .iface 3 (.int .i64 x)] w fun e w' => e = .returned (.tuple #[]) ∧ HeapGo pb base v w w' (fun ys => ys.Perm (xs ++ [x])) := by
  have hmP := pile_push pb
  have hmN := pile_len pb
  have hPU := Lib.hid (push_any pb base v xs x w H.box H.num H.out H.few hbase)
  have HU := Lib.hid (heap_put (x := x) H.heap)
  generalize hn : xs.length = n at *
  have HNN := Lib.hid hn
  clear H hn
  go_enter Tryz.func73, Tryz.ntmps73
  go_wp2_with fail
  refine hPU.out.mono ?_
  rintro e w1 ⟨rfl, ⟨v1, B1, N1, o1, n1⟩, K1⟩
  have hP1 : PileAt pb base v1 w1 (xs ++ [x]) w1 := ⟨B1, N1, Keep.refl _ _⟩
  have hLN := hP1.len pb base v1 w1 (xs ++ [x]) w1
  rw [List.length_append, HNN.out, List.length_singleton] at hLN
  have HLN := Lib.hid hLN
  have HK := Lib.hid (⟨o1, n1, K1⟩ : _ ∧ _ ∧ _)
  clear hP1 hLN B1 N1 o1 n1 K1 hPU
  go_wp2_with fail
  refine HLN.out.mono ?_
  rintro e w2 ⟨rfl, H2⟩
  have HUP := Lib.hid (up_any pb base v1 (xs ++ [x]) (n + 1) n w1 w2 H2 HK.out.1 (by have := HNN.out; simp; omega) (by omega) (by omega) HU.out)
  clear H2 HLN HU
  go_wp2_with fail
  refine HUP.out.mono ?_
  rintro e w3 ⟨rfl, ys, H3, p3, f3⟩
  have hF : HeapGo pb base v w w3 (fun ys => ys.Perm (xs ++ [x])) := ⟨v1, ys, ⟨H3.1, H3.2.1, HK.out.1, by rw [p3.length_eq]; have := HNN.out; simp; omega, by rw [p3.length_eq]; have := HNN.out; simp only [List.length_append, List.length_singleton, this]; exact f3⟩, HK.out.2.1, HK.out.2.2.then H3.2.2 (fun b hb => (HK.out.2.1 b hb).imp_left (fun h => List.mem_cons_of_mem _ h)), p3⟩
  have HF := Lib.hid hF
  clear H3 p3 f3 hF HUP
  go_wp2
  go_end0
  exact ⟨rfl, HF.out⟩
set_option maxRecDepth 20000 in
set_option maxHeartbeats 4000000 in
theorem heapPop_any (pb base : Nat) (v : Value) (xs : List Int) (w : World) (H : HeapV w pb base v xs) (h0 : 0 < xs.length) :
    Calls Tryz.prog 54 #[.iface 62 (.pointer (some ⟨pb, 0, none⟩))] w fun e w' => e = .returned (.iface 3 (.int .i64 (nth xs 0))) ∧ HeapGo pb base v w w' (fun ys => xs.Perm (nth xs 0 :: ys) ∧ ∀ z ∈ xs, nth xs 0 ≤ z) := by
  have hmO := pile_pop pb
  have hmN := pile_len pb
  have hmS := pile_swap pb
  obtain ⟨m, hm⟩ : ∃ m, xs.length = m + 1 := ⟨xs.length - 1, by omega⟩
  have hfew := H.few
  have hheap := H.heap
  have hout := H.out
  rw [hm] at hfew hheap
  have hP0 : PileAt pb base v w xs w := ⟨H.box, H.num, Keep.refl _ _⟩
  have hLN := hP0.len pb base v w xs w
  rw [hm] at hLN
  have HLN := Lib.hid hLN
  have HM := Lib.hid (⟨hm, hheap⟩ : _ ∧ _)
  clear H hP0 hLN hheap hm h0
  go_enter Tryz.func54, Tryz.ntmps54
  go_wp2_with fail
  refine HLN.out.mono ?_
  rintro e w1 ⟨rfl, H1⟩
  have HSW := Lib.hid (H1.swap pb base v w xs 0 m w1 hout (by have := HM.out.1; omega) (by have := HM.out.1; omega))
  clear H1 HLN
  go_wp2_with fail
  refine HSW.out.mono ?_
  rintro e w2 ⟨rfl, H2⟩
  have HDN := Lib.hid (down_any pb base v (swapL xs 0 m) m 0 w w2 H2 hout (by rw [swapL_len]; have := HM.out.1; omega) (by omega) (by omega) (heap_cut HM.out.2 (by have := HM.out.1; omega)))
  clear H2 HSW
  go_wp2_with fail
  refine HDN.out.mono ?_
  rintro e w3 ⟨⟨b, rfl⟩, ys, H3, p3, t3, f3⟩
  obtain ⟨g1, g2, g3, g4, g5⟩ := heap_get HM.out.1 HM.out.2 p3 t3 f3
  have hPO := pop_any pb base v ys m w3 H3.1 H3.2.1 hout (by rw [p3.length_eq, swapL_len, HM.out.1]) (by omega)
  rw [g1] at hPO
  have HPO := Lib.hid hPO
  have HG := Lib.hid (⟨g2, g3, g4, g5, H3.2.2⟩ : _ ∧ _ ∧ _ ∧ _ ∧ _)
  clear H3 p3 t3 f3 g1 g2 g3 g4 g5 hPO HDN
  go_wp2_with fail
  refine HPO.out.mono ?_
  rintro e w4 ⟨rfl, ⟨v4, B4, N4, o4⟩, K4⟩
  have hF : HeapGo pb base v w w4 (fun ys => xs.Perm (nth xs 0 :: ys) ∧ ∀ z ∈ xs, nth xs 0 ≤ z) := ⟨v4, ys.take m, ⟨B4, N4, by rw [o4]; exact hout, by rw [HG.out.2.2.2.1]; omega, HG.out.1⟩, fun b hb => .inl (by rw [o4] at hb; exact hb), (HG.out.2.2.2.2.mono (fun b hb => .inl (List.mem_cons_of_mem _ hb))).then K4 (fun b hb => .inl (by simp at hb; simp [hb])), HG.out.2.1, HG.out.2.2.1⟩
  have HF := Lib.hid hF
  clear B4 N4 o4 K4 hF HPO HG
  go_wp2
  go_ret
  exact ⟨rfl, HF.out⟩
set_option maxRecDepth 20000 in
set_option maxHeartbeats 4000000 in
theorem pileTake_any (pb base : Nat) (v : Value) (xs : List Int) (w : World) (H : HeapV w pb base v xs) (h0 : 0 < xs.length) :
    Calls Tryz.prog 29 #[.pointer (some ⟨pb, 0, none⟩)] w fun e w' => e = .returned (.int .i64 (nth xs 0)) ∧ HeapGo pb base v w w' (fun ys => xs.Perm (nth xs 0 :: ys) ∧ ∀ z ∈ xs, nth xs 0 ≤ z) := by
  have hta : ∀ (x : Int) (w : World), (Instr.typeAssert (.iface 3 (.int .i64 x)) 20 3 true).run Tryz.prog w = .ok (.tuple #[.int .i64 x, .bool true]) w := fun _ _ => by kernel_rfl
  have HPO := Lib.hid (heapPop_any pb base v xs w H h0)
  clear H
  generalize nth xs 0 = x at *
  go_enter Tryz.func29, Tryz.ntmps29
  go_wp2_with fail
  refine HPO.out.mono ?_
  rintro e w1 ⟨rfl, H1⟩
  have HF := Lib.hid H1
  clear H1 HPO
  go_wp2
  go_ret
  exact ⟨rfl, HF.out⟩
set_option maxRecDepth 20000 in
set_option maxHeartbeats 4000000 in
theorem pilePut_any (pb base : Nat) (v : Value) (xs : List Int) (x : Int) (w : World) (H : HeapV w pb base v xs) (hl : xs.length < 99999) (hbase : base ≤ w.heap.size) :
    Calls Tryz.prog 49 #[.pointer (some ⟨pb, 0, none⟩), .int .i64 x] w fun e w' => e = .returned (.tuple #[]) ∧ HeapGo pb base v w w' (fun ys => ys.Perm (xs ++ [x])) := by
  have HPU := Lib.hid (heapPush_any pb base v xs x w H hl hbase)
  clear H
  go_enter Tryz.func49, Tryz.ntmps49
  go_wp2_with fail
  refine HPU.out.mono ?_
  rintro e w1 ⟨rfl, H1⟩
  have HF := Lib.hid H1
  clear H1 HPU
  go_wp2
  go_end0
  exact ⟨rfl, HF.out⟩
end Go.Proofs.YtbpidoiellcccaaGreatDoor
namespace Go.Proofs.YtbpidoiellcccaaGreatDoor
open Go Go.RowKit Go.MapKept

theorem HeapV.keep {w w' : World} {pb base : Nat} {v : Value} {xs : List Int} {T : List Nat} (h : HeapV w pb base v xs) (K : Keep T w w') (hT : ∀ b ∈ T, b ∉ pb :: ownB v) : HeapV w' pb base v xs :=
  ⟨h.box.keep K (fun hb => hT _ hb (by simp)), h.num.keep K (fun b hb hv => hT b hb (by simp [hv])), h.out, h.few, h.heap⟩
/-- The heads of First's rounds. -/
def FirstI (pb base : Nat) (l out : List Int) (vo : Value) (W wr : World) : Prop :=
  ∃ v a, HeapV wr pb base v a ∧ NumV wr base vo out ∧ (∀ b ∈ ownB vo, b ∉ pb :: ownB v) ∧ Keep [] W wr ∧ (out ++ a).Perm l ∧ out.Pairwise (· ≤ ·) ∧ ∀ y ∈ out, ∀ z ∈ a, y ≤ z
set_option maxRecDepth 20000 in
set_option maxHeartbeats 4000000 in
theorem first_any (A : Option Addr) (C : Nat) (l : List Int) (w : World) (H : SlOf IntRow [] w 1 (.slice A l.length C) l) (hl : l.length < 90000) :
    Calls Tryz.prog 14 #[.slice A l.length C] w fun e w' => (∃ v s, e = .returned v ∧ NumV w' w.heap.size v s ∧ Rises l s) ∧ Keep [] w w' := by
  have hmf : ∀ (fn : Fn) (first cap : Array Value) (w : World), (Instr.makeFunc fn first cap).run Tryz.prog w = .ok (.func fn first cap) w := fun _ _ _ _ => rfl
  obtain ⟨i0, hi0, hz0, hz1, hz2⟩ := info_parts info_int
  have HC := Lib.hid (intClone_any A C l w H (by omega))
  have HLL := Lib.hid hl
  clear H
  generalize hln : l.length = n at *
  have HLN := Lib.hid hln
  clear hln
  go_enter Tryz.func14, Tryz.ntmps14
  go_wp2_with fail
  refine HC.out.mono ?_
  rintro e w1 ⟨⟨v1, rfl, N1, o1⟩, K1⟩
  obtain ⟨A1, C1, rfl⟩ := N1.slice
  rw [HLN.out] at N1 o1 ⊢
  generalize hv1 : Value.slice A1 n C1 = v1 at N1 o1
  have K2 := (Keep.refl [] w1).alloc (.cells #[v1] 60)
  have B2 := Blk.new w1 #[v1] 60
  have hob : w1.heap.size ∉ ownB v1 := fun h => by have := (N1.base _ h).2; omega
  have hP2 : PileAt w1.heap.size w.heap.size v1 _ l _ := ⟨B2, N1.keep K2 (by simp), Keep.refl _ _⟩
  have HIN := Lib.hid (init_any w1.heap.size w.heap.size v1 l n _ _ hP2 hob HLN.out.symm (by omega))
  have HK := Lib.hid (⟨hob, o1, K1.trans K2⟩ : _ ∧ _ ∧ _)
  have hsz := K1.size
  clear hP2 B2 K2 K1 N1 hob o1 HC
  subst hv1
  go_wp2_with fail
  refine HIN.out.mono ?_
  rintro e w3 ⟨rfl, ys, H3, p3, f3⟩
  have hyl : ys.length = n := by rw [p3.length_eq]; exact HLN.out
  have hF : FirstI w1.heap.size w.heap.size l [] (.slice none 0 0) w w3 := ⟨_, ys, ⟨H3.1, H3.2.1, HK.out.1, by omega, by rw [hyl]; exact f3⟩, NumV.nil _ _, by simp [ownB, Value.ownBlock], HK.out.2.2.then H3.2.2 (fun b hb => .inr (HK.out.2.1 b hb)), by simpa using p3, List.Pairwise.nil, by simp⟩
  have HF := Lib.hid hF
  clear H3 p3 f3 hF HIN hyl
  go_wp2
  go_loopw [4] (fun ov wr => ∃ (out : List Int) (m : Nat), Hid (FirstI w1.heap.size w.heap.size l out ov w wr) ∧ Hid (out.length + m = n) ∧ m ≤ n) (fun ov _ => n - (match ov with | .slice _ k _ => k | _ => 0))
  case atStart => exact ⟨[], n, HF, Lib.hid (by simp), Nat.le_refl _⟩
  case round =>
    obtain ⟨out, m, HI, HM, hmn⟩ := hrel
    obtain ⟨v, a, HV, NO, ob, KW, hp, hq, hb⟩ := HI.out
    have hla : a.length = m := by have h1 := hp.length_eq; have h2 := HM.out; have h3 := HLN.out; simp at h1; omega
    obtain ⟨Av, Cv, rfl⟩ := HV.num.slice
    have hLE := len_any w1.heap.size Av a.length Cv wr HV.box
    rw [hla] at hLE
    have HLE := Lib.hid hLE
    obtain ⟨Ao, Co, rfl⟩ := NO.slice
    by_cases h0 : m = 0
    · subst h0
      have ha0 : a = [] := List.eq_nil_of_length_eq_zero hla
      subst ha0
      have HF := Lib.hid (⟨NO, ⟨by simpa using hp, hq⟩, KW⟩ : _ ∧ Rises l out ∧ _)
      clear HV NO ob KW hp hq hb hLE HI
      generalize out.length = ol at *
      go_wp2_with fail
      refine HLE.out.mono ?_
      rintro e w4 ⟨rfl, K4⟩
      have HG := Lib.hid (⟨HF.out.1.keep K4 (by simp), HF.out.2.1, HF.out.2.2.trans K4⟩ : _ ∧ _ ∧ _)
      clear K4 HF
      go_wp2
      go_ret
      exact ⟨⟨_, _, rfl, HG.out.1, HG.out.2.1⟩, HG.out.2.2⟩
    · have HI2 := Lib.hid (⟨HV, NO, ob, KW, hp, hq, hb⟩ : _ ∧ _ ∧ _ ∧ _ ∧ _ ∧ _ ∧ _)
      have HOL : Hid (out.length + m = n) := HM
      clear HV NO ob KW hp hq hb hLE HI
      generalize hoz : out.length = ol at *
      have HOZ := Lib.hid hoz
      have hmp : (0 : Int) < (m : Int) := by omega
      clear hoz
      go_wp2_with fail
      refine HLE.out.mono ?_
      rintro e w4 ⟨rfl, K4⟩
      have hTK := pileTake_any w1.heap.size w.heap.size _ a w4 (HI2.out.1.keep K4 (by simp)) (by omega)
      generalize nth a 0 = x at *
      have HTK := Lib.hid hTK
      have HK4 := Lib.hid K4
      clear hTK K4 HLE
      go_wp2_with fail
      refine HTK.out.mono ?_
      rintro e w5 ⟨rfl, v5, b5, V5, o5, K5, p5, m5⟩
      have H5 := Lib.hid (⟨V5, o5, K5, p5, m5⟩ : _ ∧ _ ∧ _ ∧ _ ∧ _)
      clear V5 o5 K5 p5 m5 HTK
      go_wp2_with (at_builtin; refine Hid.out ?_)
      refine Lib.hid ?_
      have K6 := (Keep.refl [] w5).alloc (.cells #[.int .i64 x] 3)
      have hs4 := HK4.out.size
      have hs5 := H5.out.2.2.1.size
      have hbo := HI2.out.2.1.base
      have hsw := HI2.out.2.2.2.1.size
      have N5 : NumV w5 w.heap.size (.slice Ao ol Co) out := (HI2.out.2.1.keep HK4.out (by simp)).keep H5.out.2.2.1 (fun b hb hv => HI2.out.2.2.1 b hv hb)
      have d5 : ∀ b ∈ ownB (.slice Ao ol Co), b ∉ w1.heap.size :: ownB v5 := fun b hv hb => by
        rcases List.mem_cons.1 hb with h | h
        · exact HI2.out.2.2.1 b hv (by simp [h])
        · rcases H5.out.2.1 b h with h | h
          · exact HI2.out.2.2.1 b hv (by simp [h])
          · have := (hbo b hv).2; omega
      refine wpList_append_data intRow_stab intRow_one rfl _ _ 26 rfl Tryz.underlying26 hi0 hz0 hz1 hz2 rfl (by omega) (S := []) (base := w.heap.size) (v := .slice Ao ol Co) (A := some ⟨w5.heap.size, 0, none⟩) (m := 1) (C := 1) (xs := out) (ys := [x]) rfl rfl
        (N5.keep K6 (by simp)) (one_int (Blk.new w5 _ 3) (fun hx => by have := (hbo _ (by simpa using hx)).2; omega)) (by have := HOZ.out; have := HOL.out; simp; omega) (by have := HOZ.out; have := HOL.out; simp; omega) (by simp; omega) ?_
      intro A9 C9 w9 O9 K9 n9
      rw [HOZ.out] at O9 n9 ⊢
      have V9 := (H5.out.1.keep K6 (by simp)).keep K9 d5
      have hb5 := V9.num.base
      have hbx := V9.box.lt
      have d9 : ∀ b ∈ ownB (.slice A9 (ol + [x].length) C9), b ∉ w1.heap.size :: ownB v5 := fun b hv hb => by
        rcases n9 b hv with h | h
        · exact d5 b h hb
        · have h1 := H5.out.1.num.base
          have h2 := H5.out.1.box.lt
          simp at h
          rcases List.mem_cons.1 hb with h3 | h3
          · omega
          · have := (h1 b h3).2; omega
      have KF : Keep [] w w9 := (((HI2.out.2.2.2.1.trans HK4.out).then H5.out.2.2.1 (fun b hb => ?_)).trans K6).then K9 (fun b hb => .inr (hbo b hb).1)
      · have hst := rises_step HI2.out.2.2.2.2.1 HI2.out.2.2.2.2.2.1 HI2.out.2.2.2.2.2.2 H5.out.2.2.2.1 H5.out.2.2.2.2
        have hF : FirstI w1.heap.size w.heap.size l (out ++ [x]) (.slice A9 (ol + [x].length) C9) w w9 := ⟨v5, b5, V9, NumV.of O9, d9, KF, hst.1, hst.2.1, hst.2.2⟩
        have HF := Lib.hid hF
        have HMM : Hid ((out ++ [x]).length + (m - 1) = n) := Lib.hid (by have h1 := HOZ.out; have h2 := HOL.out; simp; omega)
        have HNM : Hid (ol + m = n) := HOL
        clear O9 K9 n9 V9 hb5 hbx d9 KF hst hF hbo N5 d5 K6
        go_wp2
        go_roundw
        case rel => exact ⟨_, m - 1, HF, HMM, by omega⟩
        case measure => have := HNM.out; simp; omega
      · rcases List.mem_cons.1 hb with h | h
        · exact .inr (by omega)
        · exact .inr (HI2.out.1.num.base b h).1
end Go.Proofs.YtbpidoiellcccaaGreatDoor
