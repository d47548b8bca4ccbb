/- What Few says: of nonterminals that may be, those that are few have small sets. -/
import Derived.Test.YtacihjabkiedcaaGreatDoorH18
import Derived.Test.YtacihjabkiedcaaGreatDoorH17
set_option linter.unusedVariables false
set_option linter.unusedSimpArgs false
namespace Go.Proofs.YtacihjabkiedcaaGreatDoor
open Go Go.RowKit Go.MapKept

/-- Ranges that are in order are not more than there are scalars. -/
theorem rmay_len {l : List Rng} (h : rmay l = true) : l.length ≤ 1200000 := by
  unfold rmay at h
  simp only [Bool.not_eq_true', List.any_eq_false, List.mem_range] at h
  have h1 : ∀ i, i < l.length → (i : Int) ≤ (rngAt l i).hi ∧ (rngAt l i).hi ≤ 1114111 := by
    intro i
    induction i with
    | zero =>
      intro hi
      have := h 0 hi
      simp only [badAt, Bool.not_eq_true, Bool.or_eq_false_iff, decide_eq_false_iff_not] at this
      constructor <;> omega
    | succ i ih =>
      intro hi
      have h2 := ih (by omega)
      have := h (i + 1) hi
      simp only [badAt, Bool.not_eq_true, Bool.or_eq_false_iff, Bool.and_eq_false_iff, decide_eq_false_iff_not, Nat.add_sub_cancel] at this
      constructor <;> omega
  by_cases h0 : l.length = 0
  · omega
  · have := h1 (l.length - 1) (by omega)
    omega
def SmallL (l : List SymS) : Prop := ∀ s ∈ l, s.r.length < 1000
def SmallP (p : ProdS) : Prop := ∀ a ∈ p.a, SmallL a
/-- Every set has less than a thousand ranges. -/
def SmallG (ps : List ProdS) : Prop := ∀ p ∈ ps, SmallP p
/-- No more than nonterminals that may be have. -/
def BoundG (ps : List ProdS) : Prop := ∀ p ∈ ps, p.a.length ≤ 8 ∧ p.nt.length ≤ 1200000 ∧ ∀ a ∈ p.a, a.length ≤ 40 ∧ ∀ s ∈ a, s.r.length ≤ 1200000
theorem gmay_bound {ps : List ProdS} (h : gmay ps = true) : BoundG ps := by
  unfold gmay at h
  simp only [Bool.and_eq_true, Bool.not_eq_true', List.any_eq_false] at h
  intro p hp
  have h1 := h.1.1 p hp
  unfold prodBad at h1
  simp only [Bool.not_eq_true, Bool.or_eq_false_iff, List.any_eq_false, decide_eq_false_iff_not, Bool.not_eq_false'] at h1
  refine ⟨by omega, rmay_len h1.1.2, fun a ha => ?_⟩
  have h2 := h1.2 a ha
  unfold altOdd at h2
  simp only [Bool.not_eq_true, Bool.or_eq_false_iff, List.any_eq_false, decide_eq_false_iff_not] at h2
  refine ⟨by omega, fun s hs => ?_⟩
  have h3 := h2.2 s hs
  unfold symBad at h3
  split at h3
  · unfold setR at h3
    simp only [Bool.not_eq_true, Bool.not_eq_false', Bool.and_eq_true] at h3
    exact rmay_len h3.2
  · split at h3
    · simp only [Bool.not_eq_true, Bool.or_eq_false_iff, decide_eq_false_iff_not] at h3
      omega
    · simp at h3
theorem small_snoc {α : Type} {P : α → Prop} {l : List α} {k : Nat} (h : ∀ j (hj : j < l.length), j < k → P l[j]) (hk : k < l.length) (hx : P l[k]) : ∀ j (hj : j < l.length), j < k + 1 → P l[j] := fun j hj hjk => by
  by_cases e : j = k
  · subst e; exact hx
  · exact h j hj (by omega)
theorem small_all {α : Type} {P : α → Prop} {l : List α} (h : ∀ j (hj : j < l.length), j < l.length → P l[j]) : ∀ a ∈ l, P a := fun a ha => by
  obtain ⟨j, hj, rfl⟩ := List.getElem_of_mem ha
  exact h j hj hj

/-- What Few hands back. -/
def FewB (ps : List ProdS) (e : Ending) : Prop := ∃ b, e = .returned (.bool b) ∧ (b = true → SmallG ps)
set_option maxRecDepth 20000 in
set_option maxHeartbeats 4000000 in
theorem few3_any (S : List Nat) (A K : Option Addr) (C m D : Nat) (ps : List ProdS) (w : World) (HP : Prods S w (.slice A ps.length C) ps) (hmk : m ≤ 9223372036854775807) (hB : BoundG ps) :
    Calls Tryz.prog 14 #[.agg #[.slice A ps.length C, .slice K m D]] w fun e w' => FewB ps e ∧ Keep [] w w' := by
  have K0 := (Keep.refl [] w).alloc (.cells #[.slice A ps.length C, .slice K m D] 25)
  have HP0 : Prods S _ (.slice A ps.length C) ps := SlOf.move HP prodRow_stab (by omega) K0 (by simp) (fun x hx => .inl hx)
  have B0 := Blk.new w #[.slice A ps.length C, .slice K m D] 25
  clear HP
  have hm := (SlOf.at HP0)
  obtain ⟨_, _, hv, hlen, hr⟩ := hm
  simp only [Value.slice.injEq, true_and] at hv
  obtain ⟨rfl, rfl⟩ := hv
  have hlen1 := hlen.1
  have HR := Lib.hid hr
  have HB := Lib.hid hB
  clear hr HP0 hlen hB
  have HNO : ∀ b : Bool, b = false → Hid (b = true → SmallG ps) := fun b h => Lib.hid (fun h' => by rw [h] at h'; cases h')
  go_enter Tryz.func14, Tryz.ntmps14
  by_cases h62 : 62 < ps.length
  · have h62' : (62 : Int) < (ps.length : Int) := by omega
    go_wp2
    go_ret
    exact ⟨⟨_, rfl, (HNO _ rfl).out⟩, K0⟩
  · have h62' : (ps.length : Int) ≤ 62 := by omega
    by_cases h12 : 12 < m
    · have h12' : (12 : Int) < (m : Int) := by omega
      go_wp2
      go_ret
      exact ⟨⟨_, rfl, (HNO _ rfl).out⟩, K0⟩
    · have h12' : (m : Int) ≤ 12 := by omega
      have hd1 : decide ((62 : Int) < (ps.length : Int)) = false := by simp; omega
      have hd2 : decide ((12 : Int) < (m : Int)) = false := by simp; omega
      go_wp2
      generalize w.alloc (.cells #[.slice A ps.length C, .slice K m D] 25) = W at HR B0 K0 ⊢
      have b0 := B0.cell 0
      go_loop [3, 4, 5, 6] (fun n i _ _ => ∃ k : Nat, k ≤ ps.length ∧ i = .int .i64 k ∧ ∃ x : Nat, n = .int .i64 x ∧ x < 1000 ∧ Hid (∀ j (hj : j < ps.length), j < k → SmallP ps[j])) (fun _ i _ _ => ps.length - (intOf i).toNat)
      case atStart => exact ⟨0, by omega, rfl, 0, rfl, by omega, Lib.hid (fun j _ h => absurd h (by omega))⟩
      case round =>
        obtain ⟨k, hk, rfl, x, rfl, hx0, HS⟩ := hrel
        by_cases hlt : k < ps.length
        · have hlt' : (k : Int) < (ps.length : Int) := by omega
          have HLT := Lib.hid hlt
          obtain ⟨b, o, rfl, hb, hc⟩ := HR.out (by omega)
          obtain ⟨prow, hz, hcell, hR⟩ := hc k hlt
          obtain ⟨A2, C2, N2, F2, rfl, hR2, hR3⟩ := hR
          have e0 := hcell 0 (by omega)
          have e2 := hcell 2 (by omega)
          simp at e0 e2
          obtain ⟨hp8, hnt, hpb⟩ := HB.out ps[k] (List.getElem_mem _)
          have HSN := Lib.hid (fun h : SmallP ps[k] => (small_snoc (P := SmallP) HS.out hlt h : ∀ j (hj : j < ps.length), j < k + 1 → SmallP ps[j]))
          generalize ps[k] = p at e0 e2 hR2 hR3 hp8 hnt hpb HSN
          have HPB := Lib.hid hpb
          clear hpb
          have hm2 := (SlOf.at hR2)
          obtain ⟨_, _, hv, hlen2, hr2⟩ := hm2
          simp only [Value.slice.injEq, true_and] at hv
          obtain ⟨rfl, rfl⟩ := hv
          have hlen2 := hlen2.1
          have HR2 := Lib.hid hr2
          clear hr2 hR2 hR3 hcell hc hz
          go_wp2
          go_loop [3, 5, 6] (fun n i _ => ∃ k2 : Nat, k2 ≤ p.a.length ∧ i = .int .i64 k2 ∧ ∃ x2 : Nat, n = .int .i64 x2 ∧ x2 ≤ 1300000 + 41 * k2 ∧ Hid (x2 < 1000 → ∀ j (hj : j < p.a.length), j < k2 → SmallL p.a[j])) (fun _ i _ => p.a.length - (intOf i).toNat)
          case atStart => exact ⟨0, by omega, rfl, x, rfl, by omega, Lib.hid (fun _ j _ h => absurd h (by omega))⟩
          case round =>
            obtain ⟨k2, hk2, rfl, x2, rfl, hx2, HS2⟩ := hrel
            by_cases hlt2 : k2 < p.a.length
            · have hlt2' : (k2 : Int) < (p.a.length : Int) := by omega
              have HLT2 := Lib.hid hlt2
              obtain ⟨b2, o2, rfl, hb2, hc2⟩ := HR2.out (by omega)
              obtain ⟨arow, hz2, hcell2, hR4⟩ := hc2 k2 hlt2
              obtain ⟨A3, C3, rfl, hR5⟩ := hR4
              have e3 := hcell2 0 (by omega)
              simp at e3
              obtain ⟨ha40, hab⟩ := HPB.out p.a[k2] (List.getElem_mem _)
              have HSA := Lib.hid (fun (h0 : ∀ j (hj : j < p.a.length), j < k2 → SmallL p.a[j]) (h : SmallL p.a[k2]) => (small_snoc (P := SmallL) h0 hlt2 h : ∀ j (hj : j < p.a.length), j < k2 + 1 → SmallL p.a[j]))
              generalize p.a[k2] = al at e3 hR5 ha40 hab HSA
              have HAB := Lib.hid hab
              clear hab
              have hm3 := (SlOf.at hR5)
              obtain ⟨_, _, hv, hlen3, hr3⟩ := hm3
              simp only [Value.slice.injEq, true_and] at hv
              obtain ⟨rfl, rfl⟩ := hv
              have hlen3 := hlen3.1
              have HR3 := Lib.hid hr3
              clear hr3 hR5 hcell2 hc2 hz2
              go_wp2
              go_loop [3, 6] (fun n i => ∃ k3 : Nat, k3 ≤ al.length ∧ i = .int .i64 k3 ∧ ∃ x3 : Nat, n = .int .i64 x3 ∧ x3 ≤ 1300041 + 41 * k2 ∧ Hid (x3 < 1000 → (∀ j (hj : j < p.a.length), j < k2 → SmallL p.a[j]) ∧ ∀ j (hj : j < al.length), j < k3 → al[j].r.length < 1000)) (fun _ i => al.length - (intOf i).toNat)
              case atStart => exact ⟨0, by omega, rfl, x2 + 1 + al.length, by go_num, by omega, Lib.hid (fun h => ⟨HS2.out (by omega), fun j _ h => absurd h (by omega)⟩)⟩
              case round =>
                obtain ⟨k3, hk3, rfl, x3, rfl, hx3, HS3⟩ := hrel
                by_cases hlt3 : k3 < al.length
                · have hlt3' : (k3 : Int) < (al.length : Int) := by omega
                  have HLT3 := Lib.hid hlt3
                  by_cases hx : x3 < 1000
                  · obtain ⟨b3, o3, rfl, hb3, hc3⟩ := HR3.out (by omega)
                    obtain ⟨srow, hz3, hcell3, hR6⟩ := hc3 k3 hlt3
                    obtain ⟨A4, C4, rfl, hR7⟩ := hR6
                    have e4 := hcell3 1 (by omega)
                    simp at e4
                    have hrl := HAB.out al[k3] (List.getElem_mem _)
                    have HIX := Lib.hid (fun h : x3 + al[k3].r.length < 1000 => (⟨(HS3.out (by omega)).1, small_snoc (P := fun s : SymS => s.r.length < 1000) (HS3.out (by omega)).2 hlt3 (by omega)⟩ : (∀ j (hj : j < p.a.length), j < k2 → SmallL p.a[j]) ∧ ∀ j (hj : j < al.length), j < k3 + 1 → al[j].r.length < 1000))
                    generalize al[k3].r = rr at e4 hrl HIX
                    have hx' : (x3 : Int) < 1000 := by omega
                    clear hR7 hcell3 hc3 hz3
                    go_wp2
                    go_round
                    case rel => exact ⟨k3 + 1, by have := HLT3.out; omega, by go_num, x3 + rr.length, by go_num, by omega, HIX⟩
                    case measure => simp [intOf]; have := HLT3.out; omega
                  · have hx' : (1000 : Int) ≤ (x3 : Int) := by omega
                    have hd3 : decide (x3 < 1000) = false := by simp; omega
                    clear hx
                    go_wp2
                    go_round
                    case rel => exact ⟨k2 + 1, by have := HLT2.out; omega, by go_num, x3, rfl, by omega, Lib.hid (fun h => absurd h (by omega))⟩
                    case measure => simp [intOf]; have := HLT2.out; omega
                · obtain rfl : k3 = al.length := by omega
                  have HIX : Hid (x3 < 1000 → ∀ j (hj : j < p.a.length), j < k2 + 1 → SmallL p.a[j]) := Lib.hid (fun h => HSA.out (HS3.out h).1 (small_all (P := fun s : SymS => s.r.length < 1000) (HS3.out h).2))
                  go_wp2
                  go_round
                  case rel => exact ⟨k2 + 1, by have := HLT2.out; omega, by go_num, x3, rfl, by omega, HIX⟩
                  case measure => simp [intOf]; have := HLT2.out; omega
            · obtain rfl : k2 = p.a.length := by omega
              by_cases hxe : x2 + p.nt.length < 1000
              · have hxe' : ((x2 : Int) + (p.nt.length : Int)) < 1000 := by omega
                have hxd : decide (1000 ≤ x2 + p.nt.length) = false := by simp; omega
                have HIX : Hid (∀ j (hj : j < ps.length), j < k + 1 → SmallP ps[j]) := Lib.hid (HSN.out (small_all (P := SmallL) (HS2.out (by omega))))
                go_wp2
                go_round
                case rel => exact ⟨k + 1, by have := HLT.out; omega, by go_num, x2 + p.nt.length, by go_num, hxe, HIX⟩
                case measure => simp [intOf]; have := HLT.out; omega
              · have hxe' : 1000 ≤ ((x2 : Int) + (p.nt.length : Int)) := by omega
                have hxd : decide (1000 ≤ x2 + p.nt.length) = true := by simp; omega
                clear hxe
                go_wp2
                go_ret
                exact ⟨⟨_, rfl, (HNO _ rfl).out⟩, K0⟩
        · obtain rfl : k = ps.length := by omega
          go_wp2
          go_ret
          exact ⟨⟨_, rfl, fun _ => small_all (P := SmallP) HS.out⟩, K0⟩
theorem few2_any (S : List Nat) (A K : Option Addr) (C m D : Nat) (ps : List ProdS) (w : World) (HP : Prods S w (.slice A ps.length C) ps) (hmk : m ≤ 9223372036854775807) :
    Calls Tryz.prog 14 #[.agg #[.slice A ps.length C, .slice K m D]] w fun e w' => (∃ b, e = .returned (.bool b) ∧ (b = true → gmay ps = true → SmallG ps)) ∧ Keep [] w w' := by
  by_cases hB : BoundG ps
  · exact (few3_any S A K C m D ps w HP hmk hB).mono fun e w' ⟨⟨b, h1, h2⟩, h3⟩ => ⟨⟨b, h1, fun h _ => h2 h⟩, h3⟩
  · exact (few_any S A K C m D ps w HP hmk).mono fun e w' ⟨⟨b, h1⟩, h3⟩ => ⟨⟨b, h1, fun _ h => absurd (gmay_bound h) hB⟩, h3⟩
end Go.Proofs.YtacihjabkiedcaaGreatDoor
