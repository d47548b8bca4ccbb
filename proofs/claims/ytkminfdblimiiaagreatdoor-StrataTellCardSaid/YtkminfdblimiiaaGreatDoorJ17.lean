/- Maps of rows of bools: who is within each of some nonterminals. -/
import Derived.Test.YtkminfdblimiiaaGreatDoorJ16
import Derived.Maps.RangeWalk
import Derived.Maps.OwnSet
import Derived.Maps.OwnOps
import Derived.Deep.RegionHeld3
set_option linter.unusedVariables false
set_option linter.unusedSimpArgs false
namespace Go.Proofs.YtkminfdblimiiaaGreatDoor
open Go Go.RowKit Go.MapKept

/-- An element reads as itself. -/
def heldE (v : Value) : Option (DataW Value × List MemPlace) := some (.held v, [])
theorem heldE_inv (v : Value) (y : DataW Value × List MemPlace) (h : heldE v = some y) : y.1 = .held v := by
  unfold heldE at h
  cases h
  rfl
def nl (n : Nat) : Lit := .int .i64 n
theorem nl_key (n : Nat) : WideAt.IsKeyLit (nl n) := trivial
theorem nl_inj {n m : Nat} (h : nl n = nl m) : n = m := by
  unfold nl at h
  simp at h
  omega
theorem nl_same (n m : Nat) : (nl n).sameKey (nl m) = decide (n = m) := by
  by_cases h : n = m
  · subst h
    simp [nl, Lit.sameKey]
  · rw [Maps.sameKey_ne (fun e => h (nl_inj e))]
    simp [h]
/-- At each number of S there stands who is within it; the rows lie behind block b. -/
def MRows (w : World) (b : Nat) (ps : List ProdS) (D : DataW Value) (S : Nat → Bool) : Prop :=
  (∀ kl, Maps.has D kl = true → ∃ n : Nat, kl = nl n ∧ S n = true) ∧
  ∀ n, S n = true → n < ps.length ∧ Maps.has D (nl n) = true ∧ ∃ v, (∀ z, D.atKey (nl n) z = .held v) ∧ BoolV w (b + 1) v (fromF ps n)
theorem MRows.keep {w w' : World} {b : Nat} {ps : List ProdS} {D : DataW Value} {S : Nat → Bool} (h : MRows w b ps D S) {T : List Nat} (K : Keep T w w') (hT : ∀ t ∈ T, t ≤ b ∨ w.heap.size ≤ t) : MRows w' b ps D S := by
  refine ⟨h.1, fun n hn => ?_⟩
  obtain ⟨h1, h2, v, h3, h4⟩ := h.2 n hn
  exact ⟨h1, h2, v, h3, h4.keep (Keep.mono (S' := T.filter (· ≤ b)) K (fun t ht => by
    rcases hT t ht with h5 | h5
    · exact .inl (by simp [ht, h5])
    · exact .inr h5)) (fun t ht => by simp at ht; omega)⟩
theorem MRows.none (w : World) (b : Nat) (ps : List ProdS) : MRows w b ps (.map []) (fun _ => false) :=
  ⟨fun kl h => by simp [Maps.has] at h, fun n h => by cases h⟩
theorem MRows.put {w : World} {b : Nat} {ps : List ProdS} {D : DataW Value} {S : Nat → Bool} (h : MRows w b ps D S) (hD : Maps.IsMap D) {n : Nat} (hn : n < ps.length) {v : Value} (hv : BoolV w (b + 1) v (fromF ps n)) :
    MRows w b ps (D.put (nl n) (.held v)) (fun m => S m || decide (m = n)) := by
  refine ⟨fun kl hk => ?_, fun m hm => ?_⟩
  · by_cases e : kl = nl n
    · exact ⟨n, e, by simp⟩
    · rw [Maps.has_put_other e] at hk
      obtain ⟨m, h1, h2⟩ := h.1 kl hk
      exact ⟨m, h1, by simp [h2]⟩
  · by_cases e : m = n
    · subst e
      exact ⟨hn, Maps.has_put_same hD (nl_key m) _, v, fun z => Maps.atKey_put_same hD (nl_key m) _ z, hv⟩
    · have hS : S m = true := by simpa [e] using hm
      obtain ⟨h1, h2, u, h3, h4⟩ := h.2 m hS
      have hne : nl m ≠ nl n := fun e' => e (nl_inj e')
      exact ⟨h1, by rw [Maps.has_put_other hne]; exact h2, u, fun z => by rw [Maps.atKey_put_other hne]; exact h3 z, h4⟩
theorem MRows.del {w : World} {b : Nat} {ps : List ProdS} {D : DataW Value} {S : Nat → Bool} (h : MRows w b ps D S) (n : Nat) : MRows w b ps (D.del (nl n)) (fun m => S m && !decide (m = n)) := by
  refine ⟨fun kl hk => ?_, fun m hm => ?_⟩
  · by_cases e : kl = nl n
    · rw [e, Maps.has_del_same] at hk; cases hk
    · rw [Maps.has_del_other e] at hk
      obtain ⟨m, h1, h2⟩ := h.1 kl hk
      exact ⟨m, h1, by subst h1; simp [h2]; exact fun e' => e (by rw [e'])⟩
  · simp at hm
    obtain ⟨h1, h2, u, h3, h4⟩ := h.2 m hm.1
    have hne : nl m ≠ nl n := fun e' => hm.2 (nl_inj e')
    exact ⟨h1, by rw [Maps.has_del_other hne]; exact h2, u, fun z => by rw [Maps.atKey_del_other hne]; exact h3 z, h4⟩
theorem MRows.ext {w : World} {b : Nat} {ps : List ProdS} {D : DataW Value} {S S' : Nat → Bool} (h : MRows w b ps D S) (e : ∀ n, S n = S' n) : MRows w b ps D S' := by
  have : S = S' := funext e
  rw [← this]; exact h
/-- What an entry is. -/
theorem MRows.entry {w : World} {b : Nat} {ps : List ProdS} {D : DataW Value} {S : Nat → Bool} (h : MRows w b ps D S) {x : Int} {c : Value} {kl : Lit} (hk : keyOf Tryz.prog 3 (.int .i64 x) = some kl) (hat : ∀ z, D.atKey kl z = .held c) :
    ∃ n : Nat, x = n ∧ kl = nl n ∧ S n = true ∧ n < ps.length ∧ BoolV w (b + 1) c (fromF ps n) := by
  obtain ⟨y, e1, e2, _⟩ := Maps.keyOf_int_inv Tryz.underlying3 hk
  simp only [Value.int.injEq, true_and] at e1
  subst e1
  obtain ⟨n, e3, hS⟩ := h.1 kl (Maps.has_true_of_atKey hat)
  have e4 : x = n := by rw [e2] at e3; unfold nl at e3; simpa using e3
  obtain ⟨h1, h2, v, h3, h4⟩ := h.2 n hS
  have e5 : (DataW.held c : DataW Value) = .held v := by rw [← hat .nil, ← h3 .nil, e3]
  simp only [DataW.held.injEq] at e5
  exact ⟨n, e4, e3, hS, h1, by rw [e5]; exact h4⟩
/-- What is done of a range: those that are no longer to come. -/
def Past (S : Nat → Bool) (left : Lit → Bool) (n : Nat) : Prop := S n = true ∧ left (nl n) = false
theorem past_zero {w : World} {b : Nat} {ps : List ProdS} {D : DataW Value} {S : Nat → Bool} (h : MRows w b ps D S) (n : Nat) : ¬ Past S (Maps.has D) n := fun ⟨h1, h2⟩ => by
  have := (h.2 n h1).2.1
  rw [h2] at this; cases this
theorem past_step {S : Nat → Bool} {left : Lit → Bool} {x : Nat} (hS : S x = true) (n : Nat) : Past S (fun z => left z && !z.sameKey (nl x)) n ↔ Past S left n ∨ n = x := by
  unfold Past
  simp only [nl_same]
  by_cases e : n = x
  · subst e; simp [hS]
  · simp [e]
theorem past_not {S : Nat → Bool} {left : Lit → Bool} {x : Nat} (h : left (nl x) = true) : ¬ Past S left x := fun ⟨_, h2⟩ => by rw [h] at h2; cases h2
theorem past_end {S : Nat → Bool} {left : Lit → Bool} (h : ∀ k, left k = false) (n : Nat) : Past S left n ↔ S n = true := by simp [Past, h]
end Go.Proofs.YtkminfdblimiiaaGreatDoor
namespace Go.Proofs.YtkminfdblimiiaaGreatDoor
open Go Go.RowKit Go.MapKept

/-- Some bool was handed back. -/
def SomeB (e : Ending) : Prop := ∃ b, e = .returned (.bool b)
set_option maxRecDepth 20000 in
set_option maxHeartbeats 4000000 in
theorem few_any (S : List Nat) (A K : Option Addr) (C m D : Nat) (ps : List ProdS) (w : World) (HP : Prods S w (.slice A ps.length C) ps) (hmk : m ≤ 9223372036854775807) :
    Calls Tryz.prog 9 #[.agg #[.slice A ps.length C, .slice K m D]] w fun e w' => SomeB e ∧ Keep [] w w' := by
  have K0 := (Keep.refl [] w).alloc (.cells #[.slice A ps.length C, .slice K m D] 25)
  have HP0 : Prods S _ (.slice A ps.length C) ps := SlOf.move HP prodRow_stab (by omega) K0 (by simp) (fun x hx => .inl hx)
  have B0 := Blk.new w #[.slice A ps.length C, .slice K m D] 25
  clear HP
  have hm := (SlOf.at HP0)
  obtain ⟨_, _, hv, hlen, hr⟩ := hm
  simp only [Value.slice.injEq, true_and] at hv
  obtain ⟨rfl, rfl⟩ := hv
  have hlen1 := hlen.1
  have HR := Lib.hid hr
  clear hr HP0 hlen
  go_enter Tryz.func9, Tryz.ntmps9
  by_cases h62 : 62 < ps.length
  · have h62' : (62 : Int) < (ps.length : Int) := by omega
    go_wp2
    go_ret
    exact ⟨⟨_, rfl⟩, K0⟩
  · have h62' : (ps.length : Int) ≤ 62 := by omega
    by_cases h12 : 12 < m
    · have h12' : (12 : Int) < (m : Int) := by omega
      go_wp2
      go_ret
      exact ⟨⟨_, rfl⟩, K0⟩
    · have h12' : (m : Int) ≤ 12 := by omega
      have hd1 : decide ((62 : Int) < (ps.length : Int)) = false := by simp; omega
      have hd2 : decide ((12 : Int) < (m : Int)) = false := by simp; omega
      go_wp2
      generalize w.alloc (.cells #[.slice A ps.length C, .slice K m D] 25) = W at HR B0 K0 ⊢
      have b0 := B0.cell 0
      go_loop [3, 4, 5, 6] (fun n i _ _ => ∃ k : Nat, k ≤ ps.length ∧ i = .int .i64 k ∧ ∃ x, n = .int .i64 x) (fun _ i _ _ => ps.length - (intOf i).toNat)
      case atStart => exact ⟨0, by omega, rfl, _, rfl⟩
      case round =>
        obtain ⟨k, hk, rfl, x, rfl⟩ := hrel
        by_cases hlt : k < ps.length
        · have hlt' : (k : Int) < (ps.length : Int) := by omega
          have HLT := Lib.hid hlt
          obtain ⟨b, o, rfl, hb, hc⟩ := HR.out (by omega)
          obtain ⟨prow, hz, hcell, hR⟩ := hc k hlt
          obtain ⟨A2, C2, N2, F2, rfl, hR2, hR3⟩ := hR
          have e0 := hcell 0 (by omega)
          have e2 := hcell 2 (by omega)
          simp at e0 e2
          generalize ps[k] = p at e0 e2 hR2 hR3
          have hm2 := (SlOf.at hR2)
          obtain ⟨_, _, hv, hlen2, hr2⟩ := hm2
          simp only [Value.slice.injEq, true_and] at hv
          obtain ⟨rfl, rfl⟩ := hv
          have hlen2 := hlen2.1
          have HR2 := Lib.hid hr2
          clear hr2 hR2 hR3 hcell hc hz
          go_wp2
          go_loop [3, 5, 6] (fun n i _ => ∃ k : Nat, k ≤ p.a.length ∧ i = .int .i64 k ∧ ∃ x, n = .int .i64 x) (fun _ i _ => p.a.length - (intOf i).toNat)
          case atStart => exact ⟨0, by omega, rfl, _, rfl⟩
          case round =>
            obtain ⟨k2, hk2, rfl, x2, rfl⟩ := hrel
            by_cases hlt2 : k2 < p.a.length
            · have hlt2' : (k2 : Int) < (p.a.length : Int) := by omega
              have HLT2 := Lib.hid hlt2
              obtain ⟨b2, o2, rfl, hb2, hc2⟩ := HR2.out (by omega)
              obtain ⟨arow, hz2, hcell2, hR4⟩ := hc2 k2 hlt2
              obtain ⟨A3, C3, rfl, hR5⟩ := hR4
              have e3 := hcell2 0 (by omega)
              simp at e3
              generalize p.a[k2] = al at e3 hR5
              have hm3 := (SlOf.at hR5)
              obtain ⟨_, _, hv, hlen3, hr3⟩ := hm3
              simp only [Value.slice.injEq, true_and] at hv
              obtain ⟨rfl, rfl⟩ := hv
              have hlen3 := hlen3.1
              have HR3 := Lib.hid hr3
              clear hr3 hR5 hcell2 hc2 hz2
              go_wp2
              go_loop [3, 6] (fun n i => ∃ k : Nat, k ≤ al.length ∧ i = .int .i64 k ∧ ∃ x, n = .int .i64 x) (fun _ i => al.length - (intOf i).toNat)
              case atStart => exact ⟨0, by omega, rfl, _, rfl⟩
              case round =>
                obtain ⟨k3, hk3, rfl, x3, rfl⟩ := hrel
                by_cases hlt3 : k3 < al.length
                · have hlt3' : (k3 : Int) < (al.length : Int) := by omega
                  have HLT3 := Lib.hid hlt3
                  by_cases hx : x3 < 1000
                  · obtain ⟨b3, o3, rfl, hb3, hc3⟩ := HR3.out (by omega)
                    obtain ⟨srow, hz3, hcell3, hR6⟩ := hc3 k3 hlt3
                    obtain ⟨A4, C4, rfl, hR7⟩ := hR6
                    have e4 := hcell3 1 (by omega)
                    simp at e4
                    clear hR7 hcell3 hc3 hz3
                    go_wp2
                    go_round
                    case rel => exact ⟨k3 + 1, by have := HLT3.out; omega, by go_num, _, rfl⟩
                    case measure => simp [intOf]; have := HLT3.out; omega
                  · have hx' : 1000 ≤ x3 := by omega
                    have hd3 : decide (x3 < 1000) = false := by simp; omega
                    clear hx
                    go_wp2
                    go_round
                    case rel => exact ⟨k2 + 1, by have := HLT2.out; omega, by go_num, _, rfl⟩
                    case measure => simp [intOf]; have := HLT2.out; omega
                · obtain rfl : k3 = al.length := by omega
                  go_wp2
                  go_round
                  case rel => exact ⟨k2 + 1, by have := HLT2.out; omega, by go_num, _, rfl⟩
                  case measure => simp [intOf]; have := HLT2.out; omega
            · obtain rfl : k2 = p.a.length := by omega
              go_wp2
              · go_ret
                exact ⟨⟨_, rfl⟩, K0⟩
              · go_round
                case rel => exact ⟨k + 1, by have := HLT.out; omega, by go_num, _, rfl⟩
                case measure => simp [intOf]; have := HLT.out; omega
        · obtain rfl : k = ps.length := by omega
          go_wp2
          go_ret
          exact ⟨⟨_, rfl⟩, K0⟩
end Go.Proofs.YtkminfdblimiiaaGreatDoor
namespace Go.Proofs.YtkminfdblimiiaaGreatDoor
open Go Go.RowKit Go.MapKept

/-- Ranges that are in order are not more than there are scalars. -/
theorem rmay_len {l : List Rng} (h : rmay l = true) : l.length ≤ 1200000 := by
  unfold rmay at h
  simp only [Bool.not_eq_true', List.any_eq_false, List.mem_range] at h
  have h1 : ∀ i, i < l.length → (i : Int) ≤ (rngAt l i).hi ∧ (rngAt l i).hi ≤ 1114111 := by
    intro i
    induction i with
    | zero =>
      intro hi
      have := h 0 hi
      simp only [badAt, Bool.not_eq_true, Bool.or_eq_false_iff, decide_eq_false_iff_not] at this
      constructor <;> omega
    | succ i ih =>
      intro hi
      have h2 := ih (by omega)
      have := h (i + 1) hi
      simp only [badAt, Bool.not_eq_true, Bool.or_eq_false_iff, Bool.and_eq_false_iff, decide_eq_false_iff_not, Nat.add_sub_cancel] at this
      constructor <;> omega
  by_cases h0 : l.length = 0
  · omega
  · have := h1 (l.length - 1) (by omega)
    omega
def SmallL (l : List SymS) : Prop := ∀ s ∈ l, s.r.length < 1000
def SmallP (p : ProdS) : Prop := ∀ a ∈ p.a, SmallL a
/-- Every set has less than a thousand ranges. -/
def SmallG (ps : List ProdS) : Prop := ∀ p ∈ ps, SmallP p
/-- No more than nonterminals that may be have. -/
def BoundG (ps : List ProdS) : Prop := ∀ p ∈ ps, p.a.length ≤ 8 ∧ p.nt.length ≤ 1200000 ∧ ∀ a ∈ p.a, a.length ≤ 40 ∧ ∀ s ∈ a, s.r.length ≤ 1200000
theorem gmay_bound {ps : List ProdS} (h : gmay ps = true) : BoundG ps := by
  unfold gmay at h
  simp only [Bool.and_eq_true, Bool.not_eq_true', List.any_eq_false] at h
  intro p hp
  have h1 := h.1.1 p hp
  unfold prodBad at h1
  simp only [Bool.not_eq_true, Bool.or_eq_false_iff, List.any_eq_false, decide_eq_false_iff_not, Bool.not_eq_false'] at h1
  refine ⟨by omega, rmay_len h1.1.2, fun a ha => ?_⟩
  have h2 := h1.2 a ha
  unfold altOdd at h2
  simp only [Bool.not_eq_true, Bool.or_eq_false_iff, List.any_eq_false, decide_eq_false_iff_not] at h2
  refine ⟨by omega, fun s hs => ?_⟩
  have h3 := h2.2 s hs
  unfold symBad at h3
  split at h3
  · unfold setR at h3
    simp only [Bool.not_eq_true, Bool.not_eq_false', Bool.and_eq_true] at h3
    exact rmay_len h3.2
  · split at h3
    · simp only [Bool.not_eq_true, Bool.or_eq_false_iff, decide_eq_false_iff_not] at h3
      omega
    · simp at h3
theorem small_snoc {α : Type} {P : α → Prop} {l : List α} {k : Nat} (h : ∀ j (hj : j < l.length), j < k → P l[j]) (hk : k < l.length) (hx : P l[k]) : ∀ j (hj : j < l.length), j < k + 1 → P l[j] := fun j hj hjk => by
  by_cases e : j = k
  · subst e; exact hx
  · exact h j hj (by omega)
theorem small_all {α : Type} {P : α → Prop} {l : List α} (h : ∀ j (hj : j < l.length), j < l.length → P l[j]) : ∀ a ∈ l, P a := fun a ha => by
  obtain ⟨j, hj, rfl⟩ := List.getElem_of_mem ha
  exact h j hj hj

/-- What Few hands back. -/
def FewB (ps : List ProdS) (e : Ending) : Prop := ∃ b, e = .returned (.bool b) ∧ (b = true → SmallG ps)
set_option maxRecDepth 20000 in
set_option maxHeartbeats 4000000 in
theorem few3_any (S : List Nat) (A K : Option Addr) (C m D : Nat) (ps : List ProdS) (w : World) (HP : Prods S w (.slice A ps.length C) ps) (hmk : m ≤ 9223372036854775807) (hB : BoundG ps) :
    Calls Tryz.prog 9 #[.agg #[.slice A ps.length C, .slice K m D]] w fun e w' => FewB ps e ∧ Keep [] w w' := by
  have K0 := (Keep.refl [] w).alloc (.cells #[.slice A ps.length C, .slice K m D] 25)
  have HP0 : Prods S _ (.slice A ps.length C) ps := SlOf.move HP prodRow_stab (by omega) K0 (by simp) (fun x hx => .inl hx)
  have B0 := Blk.new w #[.slice A ps.length C, .slice K m D] 25
  clear HP
  have hm := (SlOf.at HP0)
  obtain ⟨_, _, hv, hlen, hr⟩ := hm
  simp only [Value.slice.injEq, true_and] at hv
  obtain ⟨rfl, rfl⟩ := hv
  have hlen1 := hlen.1
  have HR := Lib.hid hr
  have HB := Lib.hid hB
  clear hr HP0 hlen hB
  have HNO : ∀ b : Bool, b = false → Hid (b = true → SmallG ps) := fun b h => Lib.hid (fun h' => by rw [h] at h'; cases h')
  go_enter Tryz.func9, Tryz.ntmps9
  by_cases h62 : 62 < ps.length
  · have h62' : (62 : Int) < (ps.length : Int) := by omega
    go_wp2
    go_ret
    exact ⟨⟨_, rfl, (HNO _ rfl).out⟩, K0⟩
  · have h62' : (ps.length : Int) ≤ 62 := by omega
    by_cases h12 : 12 < m
    · have h12' : (12 : Int) < (m : Int) := by omega
      go_wp2
      go_ret
      exact ⟨⟨_, rfl, (HNO _ rfl).out⟩, K0⟩
    · have h12' : (m : Int) ≤ 12 := by omega
      have hd1 : decide ((62 : Int) < (ps.length : Int)) = false := by simp; omega
      have hd2 : decide ((12 : Int) < (m : Int)) = false := by simp; omega
      go_wp2
      generalize w.alloc (.cells #[.slice A ps.length C, .slice K m D] 25) = W at HR B0 K0 ⊢
      have b0 := B0.cell 0
      go_loop [3, 4, 5, 6] (fun n i _ _ => ∃ k : Nat, k ≤ ps.length ∧ i = .int .i64 k ∧ ∃ x : Nat, n = .int .i64 x ∧ x < 1000 ∧ Hid (∀ j (hj : j < ps.length), j < k → SmallP ps[j])) (fun _ i _ _ => ps.length - (intOf i).toNat)
      case atStart => exact ⟨0, by omega, rfl, 0, rfl, by omega, Lib.hid (fun j _ h => absurd h (by omega))⟩
      case round =>
        obtain ⟨k, hk, rfl, x, rfl, hx0, HS⟩ := hrel
        by_cases hlt : k < ps.length
        · have hlt' : (k : Int) < (ps.length : Int) := by omega
          have HLT := Lib.hid hlt
          obtain ⟨b, o, rfl, hb, hc⟩ := HR.out (by omega)
          obtain ⟨prow, hz, hcell, hR⟩ := hc k hlt
          obtain ⟨A2, C2, N2, F2, rfl, hR2, hR3⟩ := hR
          have e0 := hcell 0 (by omega)
          have e2 := hcell 2 (by omega)
          simp at e0 e2
          obtain ⟨hp8, hnt, hpb⟩ := HB.out ps[k] (List.getElem_mem _)
          have HSN := Lib.hid (fun h : SmallP ps[k] => (small_snoc (P := SmallP) HS.out hlt h : ∀ j (hj : j < ps.length), j < k + 1 → SmallP ps[j]))
          generalize ps[k] = p at e0 e2 hR2 hR3 hp8 hnt hpb HSN
          have HPB := Lib.hid hpb
          clear hpb
          have hm2 := (SlOf.at hR2)
          obtain ⟨_, _, hv, hlen2, hr2⟩ := hm2
          simp only [Value.slice.injEq, true_and] at hv
          obtain ⟨rfl, rfl⟩ := hv
          have hlen2 := hlen2.1
          have HR2 := Lib.hid hr2
          clear hr2 hR2 hR3 hcell hc hz
          go_wp2
          go_loop [3, 5, 6] (fun n i _ => ∃ k2 : Nat, k2 ≤ p.a.length ∧ i = .int .i64 k2 ∧ ∃ x2 : Nat, n = .int .i64 x2 ∧ x2 ≤ 1300000 + 41 * k2 ∧ Hid (x2 < 1000 → ∀ j (hj : j < p.a.length), j < k2 → SmallL p.a[j])) (fun _ i _ => p.a.length - (intOf i).toNat)
          case atStart => exact ⟨0, by omega, rfl, x, rfl, by omega, Lib.hid (fun _ j _ h => absurd h (by omega))⟩
          case round =>
            obtain ⟨k2, hk2, rfl, x2, rfl, hx2, HS2⟩ := hrel
            by_cases hlt2 : k2 < p.a.length
            · have hlt2' : (k2 : Int) < (p.a.length : Int) := by omega
              have HLT2 := Lib.hid hlt2
              obtain ⟨b2, o2, rfl, hb2, hc2⟩ := HR2.out (by omega)
              obtain ⟨arow, hz2, hcell2, hR4⟩ := hc2 k2 hlt2
              obtain ⟨A3, C3, rfl, hR5⟩ := hR4
              have e3 := hcell2 0 (by omega)
              simp at e3
              obtain ⟨ha40, hab⟩ := HPB.out p.a[k2] (List.getElem_mem _)
              have HSA := Lib.hid (fun (h0 : ∀ j (hj : j < p.a.length), j < k2 → SmallL p.a[j]) (h : SmallL p.a[k2]) => (small_snoc (P := SmallL) h0 hlt2 h : ∀ j (hj : j < p.a.length), j < k2 + 1 → SmallL p.a[j]))
              generalize p.a[k2] = al at e3 hR5 ha40 hab HSA
              have HAB := Lib.hid hab
              clear hab
              have hm3 := (SlOf.at hR5)
              obtain ⟨_, _, hv, hlen3, hr3⟩ := hm3
              simp only [Value.slice.injEq, true_and] at hv
              obtain ⟨rfl, rfl⟩ := hv
              have hlen3 := hlen3.1
              have HR3 := Lib.hid hr3
              clear hr3 hR5 hcell2 hc2 hz2
              go_wp2
              go_loop [3, 6] (fun n i => ∃ k3 : Nat, k3 ≤ al.length ∧ i = .int .i64 k3 ∧ ∃ x3 : Nat, n = .int .i64 x3 ∧ x3 ≤ 1300041 + 41 * k2 ∧ Hid (x3 < 1000 → (∀ j (hj : j < p.a.length), j < k2 → SmallL p.a[j]) ∧ ∀ j (hj : j < al.length), j < k3 → al[j].r.length < 1000)) (fun _ i => al.length - (intOf i).toNat)
              case atStart => exact ⟨0, by omega, rfl, x2 + 1 + al.length, by go_num, by omega, Lib.hid (fun h => ⟨HS2.out (by omega), fun j _ h => absurd h (by omega)⟩)⟩
              case round =>
                obtain ⟨k3, hk3, rfl, x3, rfl, hx3, HS3⟩ := hrel
                by_cases hlt3 : k3 < al.length
                · have hlt3' : (k3 : Int) < (al.length : Int) := by omega
                  have HLT3 := Lib.hid hlt3
                  by_cases hx : x3 < 1000
                  · obtain ⟨b3, o3, rfl, hb3, hc3⟩ := HR3.out (by omega)
                    obtain ⟨srow, hz3, hcell3, hR6⟩ := hc3 k3 hlt3
                    obtain ⟨A4, C4, rfl, hR7⟩ := hR6
                    have e4 := hcell3 1 (by omega)
                    simp at e4
                    have hrl := HAB.out al[k3] (List.getElem_mem _)
                    have HIX := Lib.hid (fun h : x3 + al[k3].r.length < 1000 => (⟨(HS3.out (by omega)).1, small_snoc (P := fun s : SymS => s.r.length < 1000) (HS3.out (by omega)).2 hlt3 (by omega)⟩ : (∀ j (hj : j < p.a.length), j < k2 → SmallL p.a[j]) ∧ ∀ j (hj : j < al.length), j < k3 + 1 → al[j].r.length < 1000))
                    generalize al[k3].r = rr at e4 hrl HIX
                    have hx' : (x3 : Int) < 1000 := by omega
                    clear hR7 hcell3 hc3 hz3
                    go_wp2
                    go_round
                    case rel => exact ⟨k3 + 1, by have := HLT3.out; omega, by go_num, x3 + rr.length, by go_num, by omega, HIX⟩
                    case measure => simp [intOf]; have := HLT3.out; omega
                  · have hx' : (1000 : Int) ≤ (x3 : Int) := by omega
                    have hd3 : decide (x3 < 1000) = false := by simp; omega
                    clear hx
                    go_wp2
                    go_round
                    case rel => exact ⟨k2 + 1, by have := HLT2.out; omega, by go_num, x3, rfl, by omega, Lib.hid (fun h => absurd h (by omega))⟩
                    case measure => simp [intOf]; have := HLT2.out; omega
                · obtain rfl : k3 = al.length := by omega
                  have HIX : Hid (x3 < 1000 → ∀ j (hj : j < p.a.length), j < k2 + 1 → SmallL p.a[j]) := Lib.hid (fun h => HSA.out (HS3.out h).1 (small_all (P := fun s : SymS => s.r.length < 1000) (HS3.out h).2))
                  go_wp2
                  go_round
                  case rel => exact ⟨k2 + 1, by have := HLT2.out; omega, by go_num, x3, rfl, by omega, HIX⟩
                  case measure => simp [intOf]; have := HLT2.out; omega
            · obtain rfl : k2 = p.a.length := by omega
              by_cases hxe : x2 + p.nt.length < 1000
              · have hxe' : ((x2 : Int) + (p.nt.length : Int)) < 1000 := by omega
                have hxd : decide (1000 ≤ x2 + p.nt.length) = false := by simp; omega
                have HIX : Hid (∀ j (hj : j < ps.length), j < k + 1 → SmallP ps[j]) := Lib.hid (HSN.out (small_all (P := SmallL) (HS2.out (by omega))))
                go_wp2
                go_round
                case rel => exact ⟨k + 1, by have := HLT.out; omega, by go_num, x2 + p.nt.length, by go_num, hxe, HIX⟩
                case measure => simp [intOf]; have := HLT.out; omega
              · have hxe' : 1000 ≤ ((x2 : Int) + (p.nt.length : Int)) := by omega
                have hxd : decide (1000 ≤ x2 + p.nt.length) = true := by simp; omega
                clear hxe
                go_wp2
                go_ret
                exact ⟨⟨_, rfl, (HNO _ rfl).out⟩, K0⟩
        · obtain rfl : k = ps.length := by omega
          go_wp2
          go_ret
          exact ⟨⟨_, rfl, fun _ => small_all (P := SmallP) HS.out⟩, K0⟩
theorem few2_any (S : List Nat) (A K : Option Addr) (C m D : Nat) (ps : List ProdS) (w : World) (HP : Prods S w (.slice A ps.length C) ps) (hmk : m ≤ 9223372036854775807) :
    Calls Tryz.prog 9 #[.agg #[.slice A ps.length C, .slice K m D]] w fun e w' => (∃ b, e = .returned (.bool b) ∧ (b = true → gmay ps = true → SmallG ps)) ∧ Keep [] w w' := by
  by_cases hB : BoundG ps
  · exact (few3_any S A K C m D ps w HP hmk hB).mono fun e w' ⟨⟨b, h1, h2⟩, h3⟩ => ⟨⟨b, h1, fun h _ => h2 h⟩, h3⟩
  · exact (few_any S A K C m D ps w HP hmk).mono fun e w' ⟨⟨b, h1⟩, h3⟩ => ⟨⟨b, h1, fun _ h => absurd (gmay_bound h) hB⟩, h3⟩
end Go.Proofs.YtkminfdblimiiaaGreatDoor
namespace Go.Proofs.YtkminfdblimiiaaGreatDoor
open Go Go.RowKit Go.MapKept

set_option maxHeartbeats 1000000 in
theorem asked_any (w : World) : Calls Tryz.prog 44 #[] w fun e w' => e = .returned (.agg #[.int .i64 3, .int .i64 28, .int .i64 32]) ∧ Keep [] w w' := by
  have hB := (Blk.new w #[.int .i64 3, .int .i64 28, .int .i64 32] 70).cell
  have HK := Lib.hid ((Keep.refl [] w).alloc (.cells #[.int .i64 3, .int .i64 28, .int .i64 32] 70))
  go_enter Tryz.func44, Tryz.ntmps44
  go_wp2
  exact bodyPost_ret (v := .agg #[.int .i64 3, .int .i64 28, .int .i64 32]) (by simp [results, Tryz.results44, go_sem, hB]) rfl ⟨rfl, HK.out⟩
theorem ix0 (w : World) : (Instr.index 70 (.agg #[.int .i64 3, .int .i64 28, .int .i64 32]) (.int .i64 0)).run Tryz.prog w = .ok (.int .i64 3) w := by kernel_rfl
theorem ix1 (w : World) : (Instr.index 70 (.agg #[.int .i64 3, .int .i64 28, .int .i64 32]) (.int .i64 1)).run Tryz.prog w = .ok (.int .i64 28) w := by kernel_rfl
theorem ix2 (w : World) : (Instr.index 70 (.agg #[.int .i64 3, .int .i64 28, .int .i64 32]) (.int .i64 2)).run Tryz.prog w = .ok (.int .i64 32) w := by kernel_rfl
set_option maxRecDepth 20000 in
set_option maxHeartbeats 2000000 in
theorem has12_any (i mask : Int) (hi : (i = 0 ∧ mask = 3) ∨ (i = 1 ∧ mask = 28) ∨ (i = 2 ∧ mask = 32)) (v0 v2 : Value) (m : Int) (w : World) :
    Calls Tryz.prog 26 #[.agg #[v0, .int .i64 m, v2], .int .i64 i] w fun e w' => e = .returned (.bool (hasM m mask)) ∧ Keep [] w w' := by
  have K0 := (Keep.refl [] w).alloc (.cells #[v0, .int .i64 m, v2] 29)
  have B0 := Blk.new w #[v0, .int .i64 m, v2] 29
  obtain ⟨W, hW⟩ : ∃ W, W = w.alloc (.cells #[v0, .int .i64 m, v2] 29) := ⟨_, rfl⟩
  rw [← hW] at K0 B0
  have HW := Lib.hid hW
  have HK0 := Lib.hid K0
  have HKP := Lib.hid (fun w' (K' : Keep [] W w') => (⟨(B0.keep K' (by simp)).cell 1, K'⟩ : w'.cell? ⟨w.heap.size, 1, none⟩ = some (.int .i64 m) ∧ Keep [] W w'))
  unfold hasM
  clear hW K0 B0
  have hx0 := ix0
  have hx1 := ix1
  have hx2 := ix2
  rcases hi with ⟨rfl, rfl⟩ | ⟨rfl, rfl⟩ | ⟨rfl, rfl⟩
  all_goals
    go_enter Tryz.func26, Tryz.ntmps26
    go_wp2
    rw [← HW.out]
    have Kd := (Keep.refl [] W).drew
    first
      | (go_region_held3 (fun w' => w'.cell? ⟨w.heap.size, 1, none⟩ = some (.int .i64 m) ∧ Keep [] W w') (exact HKP.out _ (by assumption)) (first
          | (go_at_call 44; refine (asked_any _).mono ?_; rintro e w1 ⟨rfl, K1⟩; have K1' : Keep [] W w1 := Keep.trans (by assumption) K1)))
      | fail
    all_goals
      go_wp2
      go_ret
      exact ⟨rfl, HK0.out.trans (by assumption)⟩
set_option maxRecDepth 20000 in
set_option maxHeartbeats 2000000 in
theorem filt_any (v0 : Value) (m : Int) (N : Option Addr) (n F : Nat) (w : World) :
    Calls Tryz.prog 14 #[.agg #[v0, .int .i64 m, .slice N n F]] w fun e w' => e = .returned (.bool (hasM m 3 || decide (0 < n))) ∧ Keep [] w w' := by
  have K0 := (Keep.refl [] w).alloc (.cells #[v0, .int .i64 m, .slice N n F] 29)
  have B0 := Blk.new w #[v0, .int .i64 m, .slice N n F] 29
  have b0 := B0.cell
  have HC := Lib.hid (has12_any 0 3 (.inl ⟨rfl, rfl⟩) v0 (.slice N n F) m (w.alloc (.cells #[v0, .int .i64 m, .slice N n F] 29)))
  generalize hasM m 3 = x at HC ⊢
  go_enter Tryz.func14, Tryz.ntmps14
  go_wp2_with fail
  refine HC.out.mono ?_
  rintro e w1 ⟨rfl, K1⟩
  have b1 := (B0.keep K1 (by simp)).cell
  clear HC b0
  cases x
  · go_wp2
    go_ret
    exact ⟨by simp, K0.trans K1⟩
  · go_wp2
    go_ret
    exact ⟨by simp, K0.trans K1⟩
theorem filt_row {S : List Nat} {w w0 : World} {p : ProdS} {row : Array Value} (H : ProdRow S w0 p row) : Calls Tryz.prog 14 #[.agg row] w fun e w' => e = .returned (.bool (filtB p)) ∧ Keep [] w w' := by
  obtain ⟨A, C, N, F, rfl, _, _⟩ := H
  exact filt_any _ _ _ _ _ _
theorem someM_hit {ps : List ProdS} {bs : List Bool} {k : Int} {i : Nat} (hi : i < bs.length) (h1 : bs[i] = true) (h2 : hasM (mk ps i) k = true) : someM ps bs k = true :=
  List.any_eq_true.2 ⟨i, by simpa using hi, by simp [hi, h1, h2]⟩
theorem someM_miss {ps : List ProdS} {bs : List Bool} {k : Int} (h : ∀ i (hi : i < bs.length), (bs[i] && hasM (mk ps i) k) = false) : someM ps bs k = false := by
  unfold someM
  rw [List.any_eq_false]
  intro i hi
  have hi' : i < bs.length := by simpa using hi
  have := h i hi'
  simp [hi']
  simpa using this
set_option maxRecDepth 20000 in
set_option maxHeartbeats 4000000 in
theorem some12_any (i mask : Int) (hi : (i = 0 ∧ mask = 3) ∨ (i = 1 ∧ mask = 28) ∨ (i = 2 ∧ mask = 32)) (S : List Nat) (A K : Option Addr) (C m D lo : Nat) (ps : List ProdS) (v : Value) (bs : List Bool) (w : World) (HP : Prods S w (.slice A ps.length C) ps) (hv : BoolV w lo v bs) (hl : bs.length ≤ ps.length) (h60 : bs.length ≤ 1000000) :
    Calls Tryz.prog 29 #[.agg #[.slice A ps.length C, .slice K m D], v, .int .i64 i] w fun e w' => e = .returned (.bool (someM ps bs mask)) ∧ Keep [] w w' := by
  have K0 := (Keep.refl [] w).alloc (.cells #[.slice A ps.length C, .slice K m D] 25)
  have B0 := Blk.new w #[.slice A ps.length C, .slice K m D] 25
  have HP0 := Lib.hid (HP.mv0 K0)
  obtain ⟨V, F, rfl, hF, hc⟩ := (hv.keep K0 (by simp)).cells
  have HC := Lib.hid hc
  have HB := Lib.hid B0
  have HK := Lib.hid K0
  obtain ⟨r, hr⟩ : ∃ r, r = someM ps bs mask := ⟨_, rfl⟩
  rw [← hr]
  have HRES := Lib.hid hr
  have HI := Lib.hid hi
  clear hr hi HP hv hc B0 K0
  obtain ⟨W, hW⟩ : ∃ W, W = w.alloc (.cells #[.slice A ps.length C, .slice K m D] 25) := ⟨_, rfl⟩
  rw [← hW] at HP0 HC HB HK
  have HW := Lib.hid hW
  clear hW
  go_enter Tryz.func29, Tryz.ntmps29
  go_wp2
  rw [← HW.out]
  go_loopw [11] (fun kv wr => ∃ k : Nat, k ≤ bs.length ∧ kv = .int .i64 k ∧ Hid (∀ j (hj : j < bs.length), j < k → (bs[j] && hasM (mk ps j) mask) = false) ∧ Keep [] W wr) (fun kv _ => bs.length - (intOf kv).toNat)
  case atStart => exact ⟨0, by omega, rfl, Lib.hid (fun j _ h => by omega), Keep.refl _ _⟩
  case round =>
    obtain ⟨k, hk, rfl, hn, Kr⟩ := hrel
    by_cases hlt : k < bs.length
    · have hlt' : (k : Int) < (bs.length : Int) := by omega
      have HLT := Lib.hid hlt
      obtain ⟨rb, rfl, hcl⟩ := HC.out (by omega)
      have q0 := Keep.cell (T := []) Kr (hcl k hlt) (by simp)
      have g0 := (HB.out.keep Kr (by simp)).cell 0
      have hkp : k < ps.length := by omega
      have hkp' : (k : Int) < (ps.length : Int) := by omega
      obtain ⟨bp, op, A2, C2, N2, F2, rfl, _, e0, e1, e2, _, _⟩ := (HP0.out.mv0 Kr).pick k hkp
      have hmk : mk ps k = ps[k].marks := mk_at hkp
      have hca := has12_any i mask HI.out (.slice A2 ps[k].a.length C2) (.slice N2 ps[k].nt.length F2) ps[k].marks wr
      have hme : hasM ps[k].marks mask = hasM (mk ps k) mask := by rw [hmk]
      rw [hme] at hca
      have HCA := Lib.hid hca
      clear hca hme
      have HT := Lib.hid (fun (h1 : bs[k] = true) (h2 : hasM (mk ps k) mask = true) => (by rw [HRES.out]; exact someM_hit hlt h1 h2 : r = true))
      have HGO := Lib.hid (fun (h : (bs[k] && hasM (mk ps k) mask) = false) => (fun j hj hjk => by
        by_cases e : j = k
        · subst e; exact h
        · exact hn.out j hj (by omega) : ∀ j (hj : j < bs.length), j < k + 1 → (bs[j] && hasM (mk ps j) mask) = false))
      generalize hasM (mk ps k) mask = hm at HCA HT HGO
      generalize bs[k] = bk at q0 HT HGO
      generalize ps[k] = p at e0 e1 e2 HCA hmk
      obtain ⟨pa, pm, pn⟩ := p
      simp only at e0 e1 e2 HCA
      have HKr := Lib.hid Kr
      clear hn hcl hmk Kr
      cases bk with
      | false =>
        have HN := Lib.hid (HGO.out (by simp))
        clear HCA HT HGO e0 e1 e2
        go_wp2
        go_roundw
        case rel => exact ⟨k + 1, by have := HLT.out; omega, by go_num, Lib.hid HN.out, HKr.out⟩
        case measure => simp [intOf]; have := HLT.out; omega
      | true =>
        go_wp2_with fail
        refine HCA.out.mono ?_
        rintro e w5 ⟨rfl, K5⟩
        have HK5 := Lib.hid (HKr.out.trans K5)
        clear HCA K5 HKr e0 e1 e2 g0 q0
        cases hm with
        | true =>
          have HF := Lib.hid (HT.out (by simp) (by simp))
          clear HT HGO
          go_wp2
          go_ret
          exact ⟨by rw [HF.out]; rfl, HK.out.trans HK5.out⟩
        | false =>
          have HN := Lib.hid (HGO.out rfl)
          clear HT HGO
          go_wp2
          go_roundw
          case rel => exact ⟨k + 1, by have := HLT.out; omega, by go_num, Lib.hid HN.out, HK5.out⟩
          case measure => simp [intOf]; have := HLT.out; omega
    · obtain rfl : k = bs.length := by omega
      have HF : Hid (r = false) := Lib.hid (by rw [HRES.out]; exact someM_miss (fun j hj => hn.out j hj hj))
      clear hn
      go_wp2
      go_ret
      exact ⟨by rw [HF.out]; rfl, HK.out.trans Kr⟩
end Go.Proofs.YtkminfdblimiiaaGreatDoor
namespace Go.Proofs.YtkminfdblimiiaaGreatDoor
open Go Go.RowKit Go.MapKept

theorem intK : Go.Maps.Keyed Tryz.prog 3 := Go.Maps.int_keyed Tryz.underlying3
theorem nat_wf {n : Nat} (h : n ≤ 9223372036854775807) : (Lit.int .i64 n).wf = true := by
  simp [Lit.wf, IntKind.min, IntKind.max, IntKind.signed, IntKind.bits]
  omega
theorem key_nl {n : Nat} (h : n ≤ 9223372036854775807) : keyOf Tryz.prog 3 (.int .i64 (n : Int)) = some (nl n) := Go.Maps.keyOf_int_mk Tryz.underlying3 (nat_wf h)
theorem Keep.ofBut {w w' : World} {b : Nat} (h : w.grownBy w' (some b)) : Keep [b] w w' := ⟨h.os, h.tape, h.output, h.size, fun i hi hs => h.block i hi (fun e => hs (by cases e; simp))⟩
theorem Keep.ofNone {w w' : World} (h : w.grownBy w' none) : Keep [] w w' := ⟨h.os, h.tape, h.output, h.size, fun i hi _ => h.block i hi (by simp)⟩
theorem Keep.toNone {w w' : World} (h : Keep [] w w') : w.grownBy w' none := h.grownBy (by simp)
theorem fromR_fromF {ps : List ProdS} (hg : gmay ps = true) {n : Nat} (hn : n < ps.length) : fromR ps n = fromF ps n := by
  unfold fromR
  rw [if_pos ⟨hg, by omega, by omega⟩]
set_option maxRecDepth 20000 in
set_option maxHeartbeats 4000000 in
/-- A map of those within, of each with a filter. -/
theorem within12_any (A K : Option Addr) (C m D : Nat) (ps : List ProdS) (w : World) (HP : Prods [] w (.slice A ps.length C) ps) (hg : gmay ps = true) :
    Calls Tryz.prog 22 #[.agg #[.slice A ps.length C, .slice K m D]] w fun e w' => (∃ b n D, e = .returned (.map (some b)) ∧ w.heap.size ≤ b ∧ n ≤ 60 ∧ w'.ownsMap Tryz.prog 3 heldE b n D ∧ MRows w' b ps D (filtN ps)) ∧ Keep [] w w' := by
  have hmm := @run_makeMap Tryz.prog
  obtain ⟨hl0, hl1⟩ := gmay_len hg
  have K0 := ((Keep.refl [] w).alloc (.cells #[.slice A ps.length C, .slice K m D] 25)).alloc (.map #[] 0)
  have B0 := (Blk.new w #[.slice A ps.length C, .slice K m D] 25).alloc (.map #[] 0)
  have hown := World.ownsMap_made (w.alloc (.cells #[.slice A ps.length C, .slice K m D] 25)) Tryz.prog 3 heldE
  have hsz : (w.alloc (.cells #[.slice A ps.length C, .slice K m D] 25)).heap.size = w.heap.size + 1 := by simp
  rw [hsz] at hown
  obtain ⟨W, hW⟩ : ∃ W, W = (w.alloc (.cells #[.slice A ps.length C, .slice K m D] 25)).alloc (.map #[] 0) := ⟨_, rfl⟩
  have hszW : W.heap.size = w.heap.size + 2 := by rw [hW]; simp
  rw [← hW] at K0 B0 hown
  have HW := Lib.hid hW
  have HP0 := Lib.hid HP
  have HB := Lib.hid B0
  have HK0 := Lib.hid K0
  have HST : Hid (W.ownsMap Tryz.prog 3 heldE (w.heap.size + 1) 0 (.map []) ∧ MRows W (w.heap.size + 1) ps (.map []) (fun j => decide (j < 0) && filtN ps j)) := Lib.hid ⟨hown, (MRows.none W _ ps).ext (fun n => by simp)⟩
  have b0 := B0.cell 0
  clear hW hown hsz K0 B0 HP
  go_enter Tryz.func22, Tryz.ntmps22
  go_wp2
  rw [← HW.out]
  go_loopw [10] (fun kv wr => ∃ k : Nat, k ≤ ps.length ∧ kv = .int .i64 k ∧ ∃ n D, n ≤ k ∧ wr.ownsMap Tryz.prog 3 heldE (w.heap.size + 1) n D ∧ MRows wr (w.heap.size + 1) ps D (fun j => decide (j < k) && filtN ps j) ∧ Keep [w.heap.size + 1] W wr) (fun kv _ => ps.length - (intOf kv).toNat)
  case atStart => exact ⟨0, by omega, rfl, 0, _, by omega, HST.out.1, HST.out.2, Keep.refl _ _⟩
  case round =>
    clear HST
    obtain ⟨k, hk, rfl, n, Dm, hnk, hown, hrows, Kr⟩ := hrel
    by_cases hlt : k < ps.length
    · have hlt' : (k : Int) < (ps.length : Int) := by omega
      have HLT := Lib.hid hlt
      have Kw : Keep [] w wr := HK0.out.then Kr (fun x hx => by simp at hx; subst hx; right; omega)
      obtain ⟨bp, op, A2, C2, N2, F2, rfl, _, e0, e1, e2, _, _⟩ := (HP0.out.mv0 Kw).pick k hlt
      have K4 := (Keep.refl [] wr).alloc (.cells #[.slice A2 ps[k].a.length C2, .int .i64 ps[k].marks, .slice N2 ps[k].nt.length F2] 29)
      have B4 := Blk.new wr #[.slice A2 ps[k].a.length C2, .int .i64 ps[k].marks, .slice N2 ps[k].nt.length F2] 29
      have b4 := B4.cell
      have HF := Lib.hid (filt_any (.slice A2 ps[k].a.length C2) ps[k].marks N2 ps[k].nt.length F2 (wr.alloc (.cells #[.slice A2 ps[k].a.length C2, .int .i64 ps[k].marks, .slice N2 ps[k].nt.length F2] 29)))
      have hfb : (hasM ps[k].marks 3 || decide (0 < ps[k].nt.length)) = filtN ps k := by rw [filtN_at hlt]; rfl
      rw [hfb] at HF
      have hsz : w.heap.size + 1 < wr.heap.size := hown.lt
      have HOW := Lib.hid (⟨hown, hrows, Kr⟩ : _ ∧ _ ∧ _)
      have HKW := Lib.hid (⟨Kw, K4⟩ : _ ∧ _)
      have hr1 : filtN ps k = false → ∀ j, (decide (j < k) && filtN ps j) = (decide (j < k + 1) && filtN ps j) := fun h j => by
        by_cases e : j = k
        · subst e; simp [h]
        · by_cases e2 : j < k
          · simp [e2, show j < k + 1 by omega]
          · simp [e2, show ¬ j < k + 1 by omega]
      have hr2 : filtN ps k = true → ∀ j, ((decide (j < k) && filtN ps j) || decide (j = k)) = (decide (j < k + 1) && filtN ps j) := fun h j => by
        by_cases e : j = k
        · subst e; simp [h]
        · by_cases e2 : j < k
          · simp [e2, e, show j < k + 1 by omega]
          · simp [e2, e, show ¬ j < k + 1 by omega]
      have HR := Lib.hid (⟨hr1, hr2⟩ : _ ∧ _)
      generalize filtN ps k = fk at HF HR
      generalize ps[k] = p at e0 e1 e2 B4 b4 HF HKW
      obtain ⟨pa, pm, pn⟩ := p
      simp only at e0 e1 e2 b4 HF
      have g0 := (HB.out.keep Kr (by simp)).cell
      clear hown hrows Kr Kw K4 hfb hr1 hr2
      go_wp2_with fail
      refine HF.out.mono ?_
      rintro e w5 ⟨rfl, K5⟩
      obtain ⟨Kw, K4⟩ := HKW.out
      obtain ⟨hown, hrows, Kr⟩ := HOW.out
      have K45 : Keep [] wr w5 := K4.trans K5
      have g5 := ((HB.out.keep Kr (by simp)).keep K45 (by simp)).cell
      have hown5 := hown.kept K45.toNone (by simp)
      have hrows5 := hrows.keep K45 (by simp)
      have K5w := Kr.then K45 (by simp)
      have HO5 := Lib.hid (⟨hown5, hrows5, K5w, K45, Kw⟩ : _ ∧ _ ∧ _ ∧ _ ∧ _)
      clear hown hrows Kr K4 K5 K45 hown5 hrows5 K5w g0 b4 B4 HF HOW HKW Kw e0 e1 e2
      cases fk with
      | false =>
        have HN := Lib.hid (HR.out.1 rfl)
        clear HR
        go_wp2
        go_roundw
        case rel => exact ⟨k + 1, by have := HLT.out; omega, by go_num, n, Dm, by omega, HO5.out.1, HO5.out.2.1.ext HN.out, HO5.out.2.2.1⟩
        case measure => simp [intOf]; have := HLT.out; omega
      | true =>
        have HN := Lib.hid (HR.out.2 rfl)
        have hsz5 : w.heap.size + 1 < w5.heap.size := by have := HO5.out.2.2.2.1.size; omega
        have HFR := Lib.hid (from_any [] (some ⟨bp, op, none⟩) K C m D ps k w5 ((HP0.out.mv0 HO5.out.2.2.2.2).mv0 HO5.out.2.2.2.1) (by simp))
        clear HR
        go_wp2_with fail
        refine HFR.out.mono ?_
        rintro e w6 ⟨⟨v, rfl, hv⟩, K6⟩
        rw [fromR_fromF hg HLT.out] at hv
        have hown6 := HO5.out.1.kept K6.toNone (by simp)
        have hrows6 := HO5.out.2.1.keep K6 (by simp)
        have HV := Lib.hid (hv.mono (show w.heap.size + 1 + 1 ≤ w5.heap.size by omega))
        have HO6 := Lib.hid (⟨hown6, hrows6, HO5.out.2.2.1.then K6 (by simp)⟩ : _ ∧ _ ∧ _)
        clear HFR hv hown6 hrows6 K6 HO5 g5
        go_wp2_with (at_mapUpdate; refine Hid.out ?_)
        refine Lib.hid ?_
        refine wpList_mapUpdate_own _ rfl _ _ _ 46 rfl 3 39 intK Tryz.underlying46 heldE (w.heap.size + 1) n Dm rfl HO6.out.1 (by unfold maxLen; omega) _ _ (nl k) rfl rfl (key_nl (by omega)) (.held v) [] rfl ?_
        intro w7 hown7 hg7
        have K7 := Keep.ofBut hg7
        have HO7 := Lib.hid (⟨hown7, (MRows.put (HO6.out.2.1.keep K7 (fun t ht => by simp at ht; left; omega)) HO6.out.1.isMap HLT.out (HV.out.keep K7 (fun t ht => by simp at ht; omega))).ext HN.out, HO6.out.2.2.then K7 (fun x hx => .inl hx)⟩ : _ ∧ _ ∧ _)
        clear hown7 hg7 K7 HO6
        go_wp2
        go_roundw
        case rel => exact ⟨k + 1, by have := HLT.out; omega, by go_num, n + 1, _, by omega, HO7.out.1, HO7.out.2.1, HO7.out.2.2⟩
        case measure => simp [intOf]; have := HLT.out; omega
    · obtain rfl : k = ps.length := by omega
      have HFN : Hid (wr.ownsMap Tryz.prog 3 heldE (w.heap.size + 1) n Dm ∧ MRows wr (w.heap.size + 1) ps Dm (filtN ps) ∧ Keep [] w wr) := Lib.hid ⟨hown, hrows.ext (fun j => by unfold filtN; by_cases h : j < ps.length <;> simp [h]), HK0.out.then Kr (fun x hx => by simp at hx; subst hx; right; omega)⟩
      clear hown hrows Kr
      go_wp2
      go_ret
      exact ⟨⟨_, n, Dm, rfl, by omega, by omega, HFN.out.1, HFN.out.2.1⟩, HFN.out.2.2⟩
end Go.Proofs.YtkminfdblimiiaaGreatDoor
