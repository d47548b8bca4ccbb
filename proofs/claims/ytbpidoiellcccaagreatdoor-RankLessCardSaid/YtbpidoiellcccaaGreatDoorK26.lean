/- Rows of bools that a call made. -/
import Derived.Test.YtbpidoiellcccaaGreatDoorK14
set_option linter.unusedVariables false
set_option linter.unusedSimpArgs false
namespace Go.Proofs.YtbpidoiellcccaaGreatDoor
open Go Go.RowKit Go.MapKept

/-- The place of a bool. -/
def idxB (bs : List Bool) (x : Bool) : Int := match bs.findIdx? (fun b => b == x) with
  | some i => i
  | none => -1
theorem idxB_hit (bs : List Bool) (x : Bool) (k : Nat) (h : k < bs.length) (hx : bs[k] = x) (hn : ∀ j (hj : j < k), bs[j]'(by omega) ≠ x) : idxB bs x = k := by
  have : bs.findIdx? (fun b => b == x) = some k := by
    rw [List.findIdx?_eq_some_iff_getElem]
    exact ⟨h, by simp [hx], fun j hj => by simp [hn j hj]⟩
  unfold idxB
  rw [this]
theorem idxB_miss (bs : List Bool) (x : Bool) (hn : ∀ j (hj : j < bs.length), bs[j] ≠ x) : idxB bs x = -1 := by
  have : bs.findIdx? (fun b => b == x) = none := by
    rw [List.findIdx?_eq_none_iff]
    intro b hb
    obtain ⟨j, hj, rfl⟩ := List.getElem_of_mem hb
    simp [hn j hj]
  unfold idxB
  rw [this]
theorem BoolV.cells {w : World} {lo : Nat} {v : Value} {bs : List Bool} (h : BoolV w lo v bs) : ∃ A C, v = .slice A bs.length C ∧ bs.length ≤ C ∧ (0 < bs.length → ∃ b, A = some ⟨b, 0, none⟩ ∧ ∀ i (hi : i < bs.length), w.cell? ⟨b, i, none⟩ = some (.bool bs[i])) := by
  rcases h with ⟨rfl, rfl⟩ | ⟨hne, rb, rfl, hB, _⟩
  · exact ⟨none, 0, rfl, by simp, fun h => absurd h (by simp)⟩
  · exact ⟨_, _, rfl, Nat.le_refl _, fun _ => ⟨rb, rfl, fun i hi => by rw [hB.cell, boolC_at _ _ hi]⟩⟩
theorem BoolV.keep {w w' : World} {lo : Nat} {v : Value} {bs : List Bool} {S : List Nat} (h : BoolV w lo v bs) (K : Keep S w w') (hS : ∀ b ∈ S, b < lo) : BoolV w' lo v bs := by
  rcases h with ⟨rfl, rfl⟩ | ⟨hne, rb, rfl, hB, hlo⟩
  · exact .inl ⟨rfl, rfl⟩
  · exact .inr ⟨hne, rb, rfl, hB.keep K (fun hb => by have := hS rb hb; omega), hlo⟩
theorem BoolV.mono {w : World} {lo lo' : Nat} {v : Value} {bs : List Bool} (h : BoolV w lo v bs) (hl : lo' ≤ lo) : BoolV w lo' v bs := by
  rcases h with h | ⟨hne, rb, h1, hB, hlo⟩
  · exact .inl h
  · exact .inr ⟨hne, rb, h1, hB, by omega⟩
end Go.Proofs.YtbpidoiellcccaaGreatDoor
namespace Go.Proofs.YtbpidoiellcccaaGreatDoor
open Go Go.RowKit Go.MapKept

/-- Some bool was handed back. -/
def SomeB (e : Ending) : Prop := ∃ b, e = .returned (.bool b)
set_option maxRecDepth 20000 in
set_option maxHeartbeats 4000000 in
theorem few_any (S : List Nat) (A K : Option Addr) (C m D : Nat) (ps : List ProdS) (w : World) (HP : Prods S w (.slice A ps.length C) ps) (hmk : m ≤ 9223372036854775807) :
    Calls Tryz.prog 10 #[.agg #[.slice A ps.length C, .slice K m D]] w fun e w' => SomeB e ∧ Keep [] w w' := by
  have K0 := (Keep.refl [] w).alloc (.cells #[.slice A ps.length C, .slice K m D] 25)
  have HP0 : Prods S _ (.slice A ps.length C) ps := SlOf.move HP prodRow_stab (by omega) K0 (by simp) (fun x hx => .inl hx)
  have B0 := Blk.new w #[.slice A ps.length C, .slice K m D] 25
  clear HP
  have hm := (SlOf.at HP0)
  obtain ⟨_, _, hv, hlen, hr⟩ := hm
  simp only [Value.slice.injEq, true_and] at hv
  obtain ⟨rfl, rfl⟩ := hv
  have hlen1 := hlen.1
  have HR := Lib.hid hr
  clear hr HP0 hlen
  go_enter Tryz.func10, Tryz.ntmps10
  by_cases h62 : 62 < ps.length
  · have h62' : (62 : Int) < (ps.length : Int) := by omega
    go_wp2
    go_ret
    exact ⟨⟨_, rfl⟩, K0⟩
  · have h62' : (ps.length : Int) ≤ 62 := by omega
    by_cases h12 : 12 < m
    · have h12' : (12 : Int) < (m : Int) := by omega
      go_wp2
      go_ret
      exact ⟨⟨_, rfl⟩, K0⟩
    · have h12' : (m : Int) ≤ 12 := by omega
      have hd1 : decide ((62 : Int) < (ps.length : Int)) = false := by simp; omega
      have hd2 : decide ((12 : Int) < (m : Int)) = false := by simp; omega
      go_wp2
      generalize w.alloc (.cells #[.slice A ps.length C, .slice K m D] 25) = W at HR B0 K0 ⊢
      have b0 := B0.cell 0
      go_loop [3, 4, 5, 6] (fun n i _ _ => ∃ k : Nat, k ≤ ps.length ∧ i = .int .i64 k ∧ ∃ x, n = .int .i64 x) (fun _ i _ _ => ps.length - (intOf i).toNat)
      case atStart => exact ⟨0, by omega, rfl, _, rfl⟩
      case round =>
        obtain ⟨k, hk, rfl, x, rfl⟩ := hrel
        by_cases hlt : k < ps.length
        · have hlt' : (k : Int) < (ps.length : Int) := by omega
          have HLT := Lib.hid hlt
          obtain ⟨b, o, rfl, hb, hc⟩ := HR.out (by omega)
          obtain ⟨prow, hz, hcell, hR⟩ := hc k hlt
          obtain ⟨A2, C2, N2, F2, rfl, hR2, hR3⟩ := hR
          have e0 := hcell 0 (by omega)
          have e2 := hcell 2 (by omega)
          simp at e0 e2
          generalize ps[k] = p at e0 e2 hR2 hR3
          have hm2 := (SlOf.at hR2)
          obtain ⟨_, _, hv, hlen2, hr2⟩ := hm2
          simp only [Value.slice.injEq, true_and] at hv
          obtain ⟨rfl, rfl⟩ := hv
          have hlen2 := hlen2.1
          have HR2 := Lib.hid hr2
          clear hr2 hR2 hR3 hcell hc hz
          go_wp2
          go_loop [3, 5, 6] (fun n i _ => ∃ k : Nat, k ≤ p.a.length ∧ i = .int .i64 k ∧ ∃ x, n = .int .i64 x) (fun _ i _ => p.a.length - (intOf i).toNat)
          case atStart => exact ⟨0, by omega, rfl, _, rfl⟩
          case round =>
            obtain ⟨k2, hk2, rfl, x2, rfl⟩ := hrel
            by_cases hlt2 : k2 < p.a.length
            · have hlt2' : (k2 : Int) < (p.a.length : Int) := by omega
              have HLT2 := Lib.hid hlt2
              obtain ⟨b2, o2, rfl, hb2, hc2⟩ := HR2.out (by omega)
              obtain ⟨arow, hz2, hcell2, hR4⟩ := hc2 k2 hlt2
              obtain ⟨A3, C3, rfl, hR5⟩ := hR4
              have e3 := hcell2 0 (by omega)
              simp at e3
              generalize p.a[k2] = al at e3 hR5
              have hm3 := (SlOf.at hR5)
              obtain ⟨_, _, hv, hlen3, hr3⟩ := hm3
              simp only [Value.slice.injEq, true_and] at hv
              obtain ⟨rfl, rfl⟩ := hv
              have hlen3 := hlen3.1
              have HR3 := Lib.hid hr3
              clear hr3 hR5 hcell2 hc2 hz2
              go_wp2
              go_loop [3, 6] (fun n i => ∃ k : Nat, k ≤ al.length ∧ i = .int .i64 k ∧ ∃ x, n = .int .i64 x) (fun _ i => al.length - (intOf i).toNat)
              case atStart => exact ⟨0, by omega, rfl, _, rfl⟩
              case round =>
                obtain ⟨k3, hk3, rfl, x3, rfl⟩ := hrel
                by_cases hlt3 : k3 < al.length
                · have hlt3' : (k3 : Int) < (al.length : Int) := by omega
                  have HLT3 := Lib.hid hlt3
                  by_cases hx : x3 < 1000
                  · obtain ⟨b3, o3, rfl, hb3, hc3⟩ := HR3.out (by omega)
                    obtain ⟨srow, hz3, hcell3, hR6⟩ := hc3 k3 hlt3
                    obtain ⟨A4, C4, rfl, hR7⟩ := hR6
                    have e4 := hcell3 1 (by omega)
                    simp at e4
                    clear hR7 hcell3 hc3 hz3
                    go_wp2
                    go_round
                    case rel => exact ⟨k3 + 1, by have := HLT3.out; omega, by go_num, _, rfl⟩
                    case measure => simp [intOf]; have := HLT3.out; omega
                  · have hx' : 1000 ≤ x3 := by omega
                    have hd3 : decide (x3 < 1000) = false := by simp; omega
                    clear hx
                    go_wp2
                    go_round
                    case rel => exact ⟨k2 + 1, by have := HLT2.out; omega, by go_num, _, rfl⟩
                    case measure => simp [intOf]; have := HLT2.out; omega
                · obtain rfl : k3 = al.length := by omega
                  go_wp2
                  go_round
                  case rel => exact ⟨k2 + 1, by have := HLT2.out; omega, by go_num, _, rfl⟩
                  case measure => simp [intOf]; have := HLT2.out; omega
            · obtain rfl : k2 = p.a.length := by omega
              go_wp2
              · go_ret
                exact ⟨⟨_, rfl⟩, K0⟩
              · go_round
                case rel => exact ⟨k + 1, by have := HLT.out; omega, by go_num, _, rfl⟩
                case measure => simp [intOf]; have := HLT.out; omega
        · obtain rfl : k = ps.length := by omega
          go_wp2
          go_ret
          exact ⟨⟨_, rfl⟩, K0⟩
end Go.Proofs.YtbpidoiellcccaaGreatDoor
