/- Nonterminals as data: symbols, alternatives. -/
import Derived.Test.YtacihjabkiedcaaGreatDoorG4
import Derived.BigQuiet
import Derived.IntWalk
import Derived.Lib.SliceRun
set_option linter.unusedVariables false
set_option linter.unusedSimpArgs false
namespace Go.Proofs.YtacihjabkiedcaaGreatDoor
open Go Go.RowKit

structure SymS where
  k : Int
  r : List Rng
  n : Int
def SymRow (S : List Nat) (w : World) (x : SymS) (row : Array Value) : Prop := ∃ A C, row = #[.int .i64 x.k, .slice A x.r.length C, .int .i64 x.n] ∧ Rngs S w (.slice A x.r.length C) x.r
theorem symRow_stab : Stab SymRow := by
  rintro S T S' w w' x row ⟨A, C, h1, h2⟩ K hT hS
  exact ⟨A, C, h1, Sl.move h2 (by omega) K hT hS⟩
abbrev Syms (S : List Nat) (w : World) (v : Value) (l : List SymS) : Prop := SlOf SymRow S w 3 v l
def AltRow (S : List Nat) (w : World) (l : List SymS) (row : Array Value) : Prop := ∃ A C, row = #[.slice A l.length C] ∧ Syms S w (.slice A l.length C) l
theorem altRow_stab : Stab AltRow := by
  rintro S T S' w w' x row ⟨A, C, h1, h2⟩ K hT hS
  exact ⟨A, C, h1, SlOf.move h2 symRow_stab (by omega) K hT hS⟩
abbrev Alts (S : List Nat) (w : World) (v : Value) (l : List (List SymS)) : Prop := SlOf AltRow S w 1 v l
structure ProdS where
  a : List (List SymS)
  marks : Int
  nt : List Rng
def ProdRow (S : List Nat) (w : World) (p : ProdS) (row : Array Value) : Prop := ∃ A C N F, row = #[.slice A p.a.length C, .int .i64 p.marks, .slice N p.nt.length F] ∧ Alts S w (.slice A p.a.length C) p.a ∧ Rngs S w (.slice N p.nt.length F) p.nt
theorem prodRow_stab : Stab ProdRow := by
  rintro S T S' w w' x row ⟨A, C, N, F, h1, h2, h3⟩ K hT hS
  exact ⟨A, C, N, F, h1, SlOf.move h2 altRow_stab (by omega) K hT hS, Sl.move h3 (by omega) K hT hS⟩
abbrev Prods (S : List Nat) (w : World) (v : Value) (l : List ProdS) : Prop := SlOf ProdRow S w 3 v l

/-- What is asked of a predicate that is handed on: it only reads, and lays new blocks. -/
def Pred {α : Type} (R : List Nat → World → α → Array Value → Prop) (S : List Nat) (w : World) (g : Nat) (cap : Array Value) (arg : Array Value → Value) (pr : α → Bool) : Prop :=
  (∀ args w, (callFunc g args).run Tryz.prog w = .ok (.enter g args) w) ∧ ∀ (x : α) (row : Array Value) (w' : World), Keep [] w w' → R S w' x row → Calls Tryz.prog g (#[arg row] ++ cap) w' fun e w'' => e = .returned (.bool (pr x)) ∧ Keep [] w' w''
/-- The same of the elements of a list alone. -/
def PredOn {α : Type} (l : List α) (R : List Nat → World → α → Array Value → Prop) (S : List Nat) (w : World) (g : Nat) (cap : Array Value) (arg : Array Value → Value) (pr : α → Bool) : Prop :=
  (∀ args w, (callFunc g args).run Tryz.prog w = .ok (.enter g args) w) ∧ ∀ x ∈ l, ∀ (row : Array Value) (w' : World), Keep [] w w' → R S w' x row → Calls Tryz.prog g (#[arg row] ++ cap) w' fun e w'' => e = .returned (.bool (pr x)) ∧ Keep [] w' w''
theorem Pred.on {α : Type} {R : List Nat → World → α → Array Value → Prop} {S : List Nat} {w : World} {g : Nat} {cap : Array Value} {arg : Array Value → Value} {pr : α → Bool} (h : Pred R S w g cap arg pr) (l : List α) : PredOn l R S w g cap arg pr := ⟨h.1, fun x _ => h.2 x⟩
theorem any_drop {α : Type} (pr : α → Bool) (l : List α) (k : Nat) (h : ∀ j (hj : j < k) (hl : j < l.length), pr l[j] = false) : l.any pr = (l.drop k).any pr := by
  conv => lhs; rw [← List.take_append_drop k l]
  rw [List.any_append]
  have : (l.take k).any pr = false := by
    rw [List.any_eq_false]
    intro x hx
    obtain ⟨j, hj, rfl⟩ := List.getElem_of_mem hx
    rw [List.length_take] at hj
    rw [List.getElem_take, h j (by omega) (by omega)]
    simp
  rw [this]; rfl

set_option maxHeartbeats 2000000 in
theorem symIndexOn_any (S : List Nat) (v : Value) (l : List SymS) (g : Nat) (cap : Array Value) (pr : SymS → Bool) (w : World) (H : Syms S w v l) (hp : PredOn l SymRow S w g cap (fun row => .agg row) pr) :
    Calls Tryz.prog 59 #[v, .func (.func g) #[] cap] w fun e w' => (∃ i : Int, e = .returned (.int .i64 i) ∧ decide (0 ≤ i) = l.any pr) ∧ Keep [] w w' := by
  obtain ⟨hg, hp⟩ := hp
  obtain ⟨A, C, rfl, hm, hr⟩ := SlOf.at H
  go_enter Tryz.func59, Tryz.ntmps59
  go_wp2
  go_loopw [5, 8] (fun _ i wr => ∃ k : Nat, k ≤ l.length ∧ i = .int .i64 k ∧ Hid (∀ j (hj : j < k) (hl : j < l.length), pr l[j] = false) ∧ Keep [] w wr) (fun _ i _ => l.length - (intOf i).toNat)
  case atStart => exact ⟨0, by omega, rfl, Lib.hid (fun j hj => by omega), Keep.refl _ _⟩
  case round =>
    obtain ⟨k, hk, rfl, hn, Kr⟩ := hrel
    by_cases hlt : k < l.length
    · have hlt' : (k : Int) < (l.length : Int) := by omega
      have HW : Syms S wr (.slice A l.length C) l := SlOf.move H symRow_stab (by omega) Kr (by simp) (fun x hx => .inl hx)
      obtain ⟨A2, C2, hv, _, hr2⟩ := SlOf.at HW
      simp only [Value.slice.injEq, true_and] at hv
      obtain ⟨rfl, rfl⟩ := hv
      obtain ⟨b, o, rfl, hb, hc⟩ := hr2 (by omega)
      obtain ⟨row, hz, hcell, hR⟩ := hc k hlt
      have hR' := hR
      obtain ⟨A3, C3, rfl, hR3⟩ := hR'
      have e0 := hcell 0 (by omega)
      have e1 := hcell 1 (by omega)
      have e2 := hcell 2 (by omega)
      have hcall := hp l[k] (List.getElem_mem _) _ wr Kr hR
      clear hr hr2 hc hcell hp HW hR hR3 H
      simp at e0 e1 e2
      have HLT := Lib.hid hlt
      go_wp2
      refine hcall.mono ?_
      rintro e w2 ⟨rfl, K2⟩
      have hlt := HLT.out
      cases hq : pr l[k]
      · have hn2 : Hid (∀ j (hj : j < k + 1) (hl : j < l.length), pr l[j] = false) := Lib.hid (fun j hj hl => by
          by_cases e : j = k
          · subst e; exact hq
          · exact hn.out j (by omega) hl)
        clear e0 e1 e2 hcall hn
        go_wp2
        go_roundw
        case rel => exact ⟨k + 1, by omega, by go_num, hn2, Kr.trans K2⟩
        case measure => simp [intOf]; omega
      · have hany : l.any pr = true := List.any_eq_true.2 ⟨l[k], List.getElem_mem _, hq⟩
        clear e0 e1 e2 hcall hn
        go_wp2
        go_ret
        exact ⟨⟨k, rfl, by rw [hany]; simp⟩, Kr.trans K2⟩
    · have hany : l.any pr = false := by
        rw [List.any_eq_false]
        intro x hx
        obtain ⟨j, hj, rfl⟩ := List.getElem_of_mem hx
        simp [hn.out j (by omega) hj]
      go_wp2
      go_ret
      exact ⟨⟨-1, rfl, by rw [hany]; rfl⟩, Kr⟩
theorem symIndex_any (S : List Nat) (v : Value) (l : List SymS) (g : Nat) (cap : Array Value) (pr : SymS → Bool) (w : World) (H : Syms S w v l) (hp : Pred SymRow S w g cap (fun row => .agg row) pr) :
    Calls Tryz.prog 59 #[v, .func (.func g) #[] cap] w fun e w' => (∃ i : Int, e = .returned (.int .i64 i) ∧ decide (0 ≤ i) = l.any pr) ∧ Keep [] w w' :=
  symIndexOn_any S v l g cap pr w H (hp.on l)
set_option maxHeartbeats 2000000 in
theorem symContainsOn_any (S : List Nat) (v : Value) (l : List SymS) (g : Nat) (cap : Array Value) (pr : SymS → Bool) (w : World) (H : Syms S w v l) (hp : PredOn l SymRow S w g cap (fun row => .agg row) pr) :
    Calls Tryz.prog 40 #[v, .func (.func g) #[] cap] w fun e w' => e = .returned (.bool (l.any pr)) ∧ Keep [] w w' := by
  go_enter Tryz.func40, Tryz.ntmps40
  go_wp2_with fail
  refine (symIndexOn_any S v l g cap pr w H hp).mono ?_
  rintro e w1 ⟨⟨i, rfl, hi⟩, K⟩
  go_wp2
  go_ret
  exact ⟨by rw [← hi]; rfl, K⟩
theorem symContains_any (S : List Nat) (v : Value) (l : List SymS) (g : Nat) (cap : Array Value) (pr : SymS → Bool) (w : World) (H : Syms S w v l) (hp : Pred SymRow S w g cap (fun row => .agg row) pr) :
    Calls Tryz.prog 40 #[v, .func (.func g) #[] cap] w fun e w' => e = .returned (.bool (l.any pr)) ∧ Keep [] w w' :=
  symContainsOn_any S v l g cap pr w H (hp.on l)
set_option maxHeartbeats 2000000 in
theorem altIndexOn_any (S : List Nat) (v : Value) (l : List (List SymS)) (g : Nat) (cap : Array Value) (pr : List SymS → Bool) (w : World) (H : SlOf AltRow S w 1 v l) (hp : PredOn l AltRow S w g cap (fun row => row.getD 0 undef) pr) :
    Calls Tryz.prog 60 #[v, .func (.func g) #[] cap] w fun e w' => (∃ i : Int, e = .returned (.int .i64 i) ∧ decide (0 ≤ i) = l.any pr) ∧ Keep [] w w' := by
  obtain ⟨hg, hp⟩ := hp
  obtain ⟨A, C, rfl, hm, hr⟩ := SlOf.at H
  go_enter Tryz.func60, Tryz.ntmps60
  go_wp2
  go_loopw [5, 8] (fun _ i wr => ∃ k : Nat, k ≤ l.length ∧ i = .int .i64 k ∧ Hid (∀ j (hj : j < k) (hl : j < l.length), pr l[j] = false) ∧ Keep [] w wr) (fun _ i _ => l.length - (intOf i).toNat)
  case atStart => exact ⟨0, by omega, rfl, Lib.hid (fun j hj => by omega), Keep.refl _ _⟩
  case round =>
    obtain ⟨k, hk, rfl, hn, Kr⟩ := hrel
    by_cases hlt : k < l.length
    · have hlt' : (k : Int) < (l.length : Int) := by omega
      have HW : SlOf AltRow S wr 1 (.slice A l.length C) l := SlOf.move H altRow_stab (by omega) Kr (by simp) (fun x hx => .inl hx)
      obtain ⟨A2, C2, hv, _, hr2⟩ := SlOf.at HW
      simp only [Value.slice.injEq, true_and] at hv
      obtain ⟨rfl, rfl⟩ := hv
      obtain ⟨b, o, rfl, hb, hc⟩ := hr2 (by omega)
      obtain ⟨row, hz, hcell, hR⟩ := hc k hlt
      have hR' := hR
      obtain ⟨A3, C3, rfl, hR3⟩ := hR'
      have e0 := hcell 0 (by omega)
      have hcall := hp l[k] (List.getElem_mem _) _ wr Kr hR
      clear hr hr2 hc hcell hp HW hR hR3 H
      simp at e0
      have HLT := Lib.hid hlt
      go_wp2
      refine hcall.mono ?_
      rintro e w2 ⟨rfl, K2⟩
      have hlt := HLT.out
      cases hq : pr l[k]
      · have hn2 : Hid (∀ j (hj : j < k + 1) (hl : j < l.length), pr l[j] = false) := Lib.hid (fun j hj hl => by
          by_cases e : j = k
          · subst e; exact hq
          · exact hn.out j (by omega) hl)
        clear e0 hcall hn
        go_wp2
        go_roundw
        case rel => exact ⟨k + 1, by omega, by go_num, hn2, Kr.trans K2⟩
        case measure => simp [intOf]; omega
      · have hany : l.any pr = true := List.any_eq_true.2 ⟨l[k], List.getElem_mem _, hq⟩
        clear e0 hcall hn
        go_wp2
        go_ret
        exact ⟨⟨k, rfl, by rw [hany]; simp⟩, Kr.trans K2⟩
    · have hany : l.any pr = false := by
        rw [List.any_eq_false]
        intro x hx
        obtain ⟨j, hj, rfl⟩ := List.getElem_of_mem hx
        simp [hn.out j (by omega) hj]
      go_wp2
      go_ret
      exact ⟨⟨-1, rfl, by rw [hany]; rfl⟩, Kr⟩
theorem altIndex_any (S : List Nat) (v : Value) (l : List (List SymS)) (g : Nat) (cap : Array Value) (pr : List SymS → Bool) (w : World) (H : SlOf AltRow S w 1 v l) (hp : Pred AltRow S w g cap (fun row => row.getD 0 undef) pr) :
    Calls Tryz.prog 60 #[v, .func (.func g) #[] cap] w fun e w' => (∃ i : Int, e = .returned (.int .i64 i) ∧ decide (0 ≤ i) = l.any pr) ∧ Keep [] w w' :=
  altIndexOn_any S v l g cap pr w H (hp.on l)
set_option maxHeartbeats 2000000 in
theorem altContainsOn_any (S : List Nat) (v : Value) (l : List (List SymS)) (g : Nat) (cap : Array Value) (pr : List SymS → Bool) (w : World) (H : SlOf AltRow S w 1 v l) (hp : PredOn l AltRow S w g cap (fun row => row.getD 0 undef) pr) :
    Calls Tryz.prog 41 #[v, .func (.func g) #[] cap] w fun e w' => e = .returned (.bool (l.any pr)) ∧ Keep [] w w' := by
  go_enter Tryz.func41, Tryz.ntmps41
  go_wp2_with fail
  refine (altIndexOn_any S v l g cap pr w H hp).mono ?_
  rintro e w1 ⟨⟨i, rfl, hi⟩, K⟩
  go_wp2
  go_ret
  exact ⟨by rw [← hi]; rfl, K⟩
theorem altContains_any (S : List Nat) (v : Value) (l : List (List SymS)) (g : Nat) (cap : Array Value) (pr : List SymS → Bool) (w : World) (H : SlOf AltRow S w 1 v l) (hp : Pred AltRow S w g cap (fun row => row.getD 0 undef) pr) :
    Calls Tryz.prog 41 #[v, .func (.func g) #[] cap] w fun e w' => e = .returned (.bool (l.any pr)) ∧ Keep [] w w' :=
  altContainsOn_any S v l g cap pr w H (hp.on l)

def RngRow (_S : List Nat) (_w : World) (x : Rng) (row : Array Value) : Prop := row = #[.int .i64 x.lo, .int .i64 x.hi]
theorem rngRow_stab : Stab RngRow := fun _ _ _ _ _ _ _ h _ _ _ => h
theorem Rngs.of {S : List Nat} {w : World} {v : Value} {l : List Rng} (h : Rngs S w v l) : SlOf RngRow S w 2 v l := ⟨_, h, by simp, fun i hi hi' => by simp [RngRow, Rng.row]⟩
set_option maxHeartbeats 2000000 in
theorem rngIndex_any (S : List Nat) (v : Value) (l : List (Rng)) (g : Nat) (cap : Array Value) (pr : Rng → Bool) (w : World) (H : SlOf RngRow S w 2 v l) (hp : Pred RngRow S w g cap (fun row => .agg row) pr) :
    Calls Tryz.prog 80 #[v, .func (.func g) #[] cap] w fun e w' => (∃ i : Int, e = .returned (.int .i64 i) ∧ decide (0 ≤ i) = l.any pr) ∧ Keep [] w w' := by
  obtain ⟨hg, hp⟩ := hp
  obtain ⟨A, C, rfl, hm, hr⟩ := SlOf.at H
  go_enter Tryz.func80, Tryz.ntmps80
  go_wp2
  go_loopw [5, 8] (fun _ i wr => ∃ k : Nat, k ≤ l.length ∧ i = .int .i64 k ∧ Hid (∀ j (hj : j < k) (hl : j < l.length), pr l[j] = false) ∧ Keep [] w wr) (fun _ i _ => l.length - (intOf i).toNat)
  case atStart => exact ⟨0, by omega, rfl, Lib.hid (fun j hj => by omega), Keep.refl _ _⟩
  case round =>
    obtain ⟨k, hk, rfl, hn, Kr⟩ := hrel
    by_cases hlt : k < l.length
    · have hlt' : (k : Int) < (l.length : Int) := by omega
      have HW : SlOf RngRow S wr 2 (.slice A l.length C) l := SlOf.move H rngRow_stab (by omega) Kr (by simp) (fun x hx => .inl hx)
      obtain ⟨A2, C2, hv, _, hr2⟩ := SlOf.at HW
      simp only [Value.slice.injEq, true_and] at hv
      obtain ⟨rfl, rfl⟩ := hv
      obtain ⟨b, o, rfl, hb, hc⟩ := hr2 (by omega)
      obtain ⟨row, hz, hcell, hR⟩ := hc k hlt
      have hR' := hR
      have hR3 : True := trivial
      subst hR'
      have e0 := hcell 0 (by omega)
      have e1 := hcell 1 (by omega)
      have hcall := hp l[k] _ wr Kr hR
      clear hr hr2 hc hcell hp HW hR hR3 H
      simp at e0 e1
      have HLT := Lib.hid hlt
      go_wp2
      refine hcall.mono ?_
      rintro e w2 ⟨rfl, K2⟩
      have hlt := HLT.out
      cases hq : pr l[k]
      · have hn2 : Hid (∀ j (hj : j < k + 1) (hl : j < l.length), pr l[j] = false) := Lib.hid (fun j hj hl => by
          by_cases e : j = k
          · subst e; exact hq
          · exact hn.out j (by omega) hl)
        clear e0 e1 hcall hn
        go_wp2
        go_roundw
        case rel => exact ⟨k + 1, by omega, by go_num, hn2, Kr.trans K2⟩
        case measure => simp [intOf]; omega
      · have hany : l.any pr = true := List.any_eq_true.2 ⟨l[k], List.getElem_mem _, hq⟩
        clear e0 e1 hcall hn
        go_wp2
        go_ret
        exact ⟨⟨k, rfl, by rw [hany]; simp⟩, Kr.trans K2⟩
    · have hany : l.any pr = false := by
        rw [List.any_eq_false]
        intro x hx
        obtain ⟨j, hj, rfl⟩ := List.getElem_of_mem hx
        simp [hn.out j (by omega) hj]
      go_wp2
      go_ret
      exact ⟨⟨-1, rfl, by rw [hany]; rfl⟩, Kr⟩
set_option maxHeartbeats 2000000 in
theorem rngContains_any (S : List Nat) (v : Value) (l : List (Rng)) (g : Nat) (cap : Array Value) (pr : Rng → Bool) (w : World) (H : SlOf RngRow S w 2 v l) (hp : Pred RngRow S w g cap (fun row => .agg row) pr) :
    Calls Tryz.prog 63 #[v, .func (.func g) #[] cap] w fun e w' => e = .returned (.bool (l.any pr)) ∧ Keep [] w w' := by
  go_enter Tryz.func63, Tryz.ntmps63
  go_wp2_with fail
  refine (rngIndex_any S v l g cap pr w H hp).mono ?_
  rintro e w1 ⟨⟨i, rfl, hi⟩, K⟩
  go_wp2
  go_ret
  exact ⟨by rw [← hi]; rfl, K⟩
end Go.Proofs.YtacihjabkiedcaaGreatDoor
/- Whether nonterminals may be. -/
namespace Go.Proofs.YtacihjabkiedcaaGreatDoor
open Go Go.RowKit

def rngAt (l : List Rng) (i : Nat) : Rng := l.getD i ⟨0, 0⟩
def badAt (l : List Rng) (i : Nat) : Bool := decide ((rngAt l i).lo < 0) || decide ((rngAt l i).hi < (rngAt l i).lo) || decide (1114111 < (rngAt l i).hi) || (decide (0 < i) && decide ((rngAt l i).lo - 1 ≤ (rngAt l (i - 1)).hi))
/-- Are ranges in order? -/
def rmay (l : List Rng) : Bool := !(List.range l.length).any (badAt l)

set_option maxRecDepth 20000 in
set_option maxHeartbeats 4000000 in
theorem rmay_any (S : List Nat) (v : Value) (l : List Rng) (w : World) (H : Rngs S w v l) :
    Calls Tryz.prog 47 #[v] w fun e w' => e = .returned (.bool (rmay l)) ∧ Keep [] w w' := by
  obtain ⟨A, C, hv, hm, hr⟩ := SlOf.at (Rngs.of H)
  subst hv
  go_enter Tryz.func47, Tryz.ntmps47
  go_wp2
  go_loopw [7] (fun i wr => ∃ k : Nat, k ≤ l.length ∧ i = .int .i64 k ∧ Hid (∀ j, j < k → badAt l j = false) ∧ Keep [] w wr) (fun i _ => l.length - (intOf i).toNat)
  case atStart => exact ⟨0, by omega, rfl, Lib.hid (fun j hj => by omega), Keep.refl _ _⟩
  case round =>
    obtain ⟨k, hk, rfl, hn, Kr⟩ := hrel
    by_cases hlt : k < l.length
    · have hlt' : (k : Int) < (l.length : Int) := by omega
      have HW : SlOf RngRow S wr 2 (.slice A l.length C) l := SlOf.move (Rngs.of H) rngRow_stab (by omega) Kr (by simp) (fun x hx => .inl hx)
      obtain ⟨A2, C2, hv, _, hr2⟩ := SlOf.at HW
      simp only [Value.slice.injEq, true_and] at hv
      obtain ⟨rfl, rfl⟩ := hv
      obtain ⟨b, o, rfl, hb, hc⟩ := hr2 (by omega)
      obtain ⟨row, hz, hcell, hR⟩ := hc k hlt
      have hR' : row = #[.int .i64 l[k].lo, .int .i64 l[k].hi] := hR
      have e0 := hcell 0 (by omega)
      have e1 := hcell 1 (by omega)
      rw [hR'] at e0 e1
      simp at e0 e1
      have hat : rngAt l k = l[k] := by simp [rngAt, hlt]
      have hbk : badAt l k = (decide (l[k].lo < 0) || decide (l[k].hi < l[k].lo) || decide (1114111 < l[k].hi) || (decide (0 < k) && decide (l[k].lo - 1 ≤ (rngAt l (k - 1)).hi))) := by rw [badAt, hat]
      have hp : 0 < k → wr.cell? ⟨b, o + (k - 1) * 2 + 1, none⟩ = some (.int .i64 (rngAt l (k - 1)).hi) := fun h0 => by
        obtain ⟨row1, hz1, hcell1, hR1⟩ := hc (k - 1) (by omega)
        have hR1' : row1 = #[.int .i64 l[k - 1].lo, .int .i64 l[k - 1].hi] := hR1
        have e := hcell1 1 (by omega)
        rw [hR1'] at e
        have hat1 : rngAt l (k - 1) = l[k - 1]'(by omega) := by simp [rngAt, show k - 1 < l.length by omega]
        rw [hat1]
        simpa using e
      generalize hlo : l[k].lo = lo at *
      generalize hhi : l[k].hi = hi at *
      clear hr hr2 hc hcell HW hR hR' hz H hat hlo hhi row
      have HBK := Lib.hid hbk; clear hbk
      have HP := Lib.hid hp; clear hp
      have HLT := Lib.hid hlt
      cases h1 : decide (lo < 0)
      · cases h2 : decide (hi < lo)
        · cases h3 : decide (1114111 < hi)
          · have g1 : ¬lo < 0 := by simpa using h1
            have g2 : ¬hi < lo := by simpa using h2
            have g3 : ¬1114111 < hi := by simpa using h3
            cases h4 : decide ((0 : Int) < (k : Int))
            · have h4' : decide (0 < k) = false := by simp at h4 ⊢; omega
              have hb : badAt l k = false := by rw [HBK.out]; rw [h1, h2, h3, h4']; rfl
              have hn2 : Hid (∀ j, j < k + 1 → badAt l j = false) := Lib.hid (fun j hj => by
                by_cases e : j = k
                · rw [e]; exact hb
                · exact hn.out j (by omega))
              clear hb hn
              clear g1 g2 g3
              go_wp2
              go_quiet (fail)
              go_wp2
              have hlt := HLT.out
              go_roundw
              case rel => exact ⟨k + 1, by omega, by go_num, hn2, (Kr.alloc _).drewN _⟩
              case measure => simp [intOf]; omega
            · have h0 : 0 < k := by simp at h4; omega
              have h4' : decide (0 < k) = true := by simpa using h0
              have e2 := HP.out h0
              generalize hq : (rngAt l (k - 1)).hi = q at *
              obtain ⟨m, rfl⟩ : ∃ m, k = m + 1 := ⟨k - 1, by omega⟩
              rw [show m + 1 - 1 = m by omega] at e2 hq
              have hw1 : IntKind.i64.wrap (lo - 1) = lo - 1 := IntWalk.i64_in _ (by omega)
              have hw2 : IntKind.i64.wrap ((m : Int) + 1 - 1) = (m : Int) := by rw [show (m : Int) + 1 - 1 = m by omega]; exact IntWalk.i64_in _ (by omega)
              have hw3 : IntKind.i64.wrap (m : Int) = (m : Int) := IntWalk.i64_in _ (by omega)
              have hbl : b < wr.heap.size := World.block_lt_of_cell? wr _ e2
              have hk1 : (0 : Int) ≤ (m : Int) := by omega
              have hk2 : (m : Int) < (l.length : Int) := by omega
              cases h5 : decide (lo - 1 ≤ q)
              · clear g1 g2 g3
                have hb : badAt l (m + 1) = false := by rw [HBK.out]; rw [h1, h2, h3, h4', h5]; rfl
                have hn2 : Hid (∀ j, j < m + 1 + 1 → badAt l j = false) := Lib.hid (fun j hj => by
                  by_cases e : j = m + 1
                  · rw [e]; exact hb
                  · exact hn.out j (by omega))
                clear hb hn
                go_wp2
                go_quiet (fail)
                go_wp2
                have hlt := HLT.out
                go_roundw
                case rel => exact ⟨m + 1 + 1, by omega, by go_num, hn2, (Kr.alloc _).drewN _⟩
                case measure => simp [intOf]; omega
              · clear g1 g2 g3
                have hb : badAt l (m + 1) = true := by rw [HBK.out]; rw [h1, h2, h3, h4', h5]; rfl
                have hF : rmay l = false := by
                  simp only [rmay, Bool.not_eq_false', List.any_eq_true, List.mem_range]
                  exact ⟨m + 1, HLT.out, hb⟩
                clear hb
                go_wp2
                go_quiet (fail)
                go_wp2
                go_ret
                exact ⟨by rw [hF]; rfl, (Kr.alloc _).drewN _⟩
          · skip
            have hb : badAt l k = true := by rw [HBK.out]; rw [h1, h2, h3]; rfl
            have hF : rmay l = false := by
              simp only [rmay, Bool.not_eq_false', List.any_eq_true, List.mem_range]
              exact ⟨k, HLT.out, hb⟩
            clear hb
            go_wp2
            go_quiet (fail)
            go_wp2
            go_ret
            exact ⟨by rw [hF]; rfl, (Kr.alloc _).drewN _⟩
        · skip
          have hb : badAt l k = true := by rw [HBK.out]; rw [h1, h2]; rfl
          have hF : rmay l = false := by
            simp only [rmay, Bool.not_eq_false', List.any_eq_true, List.mem_range]
            exact ⟨k, HLT.out, hb⟩
          clear hb
          go_wp2
          go_quiet (fail)
          go_wp2
          go_ret
          exact ⟨by rw [hF]; rfl, (Kr.alloc _).drewN _⟩
      · skip
        have hb : badAt l k = true := by rw [HBK.out]; rw [h1]; rfl
        have hF : rmay l = false := by
          simp only [rmay, Bool.not_eq_false', List.any_eq_true, List.mem_range]
          exact ⟨k, HLT.out, hb⟩
        clear hb
        go_wp2
        go_quiet (fail)
        go_wp2
        go_ret
        exact ⟨by rw [hF]; rfl, (Kr.alloc _).drewN _⟩
    · have hmay : rmay l = true := by
        simp only [rmay, Bool.not_eq_true', List.any_eq_false, List.mem_range]
        intro j hj
        simp [hn.out j (by omega)]
      go_wp2
      go_ret
      exact ⟨by rw [hmay]; rfl, Kr⟩
end Go.Proofs.YtacihjabkiedcaaGreatDoor
/- Whether symbols, nonterminals may be. -/
namespace Go.Proofs.YtacihjabkiedcaaGreatDoor
open Go Go.RowKit

/-- May a symbol's set be? -/
def setR (s : SymS) : Bool := s.n == 0 && !(s.r.any fun r => s.k == 0 && decide (255 < r.hi)) && rmay s.r
def symBad (many : Nat) (s : SymS) : Bool := if s.k = 0 ∨ s.k = 1 then !setR s else if s.k = 2 then decide (s.n < 0) || decide ((many : Int) ≤ s.n) || decide (0 < s.r.length) else true
def altOdd (many : Nat) (l : List SymS) : Bool := decide (40 < l.length) || l.any (symBad many)
def prodBad (many : Nat) (p : ProdS) : Bool := decide (p.a.length = 0) || decide (8 < p.a.length) || decide (p.marks < 0) || decide (63 < p.marks) || !rmay p.nt || p.a.any (altOdd many)
/-- May nonterminals be? -/
def gmay (g : List ProdS) : Bool := !(g.any (prodBad g.length)) && decide (0 < g.length) && decide (g.length ≤ 60)

set_option maxHeartbeats 1000000 in
theorem set1_any (sb : Nat) (k n : Int) (v : Value) (r : Rng) (w : World) (h0 : w.cell? ⟨sb, 0, none⟩ = some (.int .i64 k)) :
    Calls Tryz.prog 64 #[.agg #[.int .i64 r.lo, .int .i64 r.hi], .pointer (some ⟨sb, 0, none⟩)] w fun e w' => e = .returned (.bool (k == 0 && decide (255 < r.hi))) ∧ Keep [] w w' := by
  have hl : sb < w.heap.size := World.block_lt_of_cell? w _ h0
  cases hk : (k == 0)
  · go_enter Tryz.func64, Tryz.ntmps64
    go_wp2
    go_ret
    exact ⟨rfl, (Keep.refl _ _).alloc _⟩
  · go_enter Tryz.func64, Tryz.ntmps64
    go_wp2
    go_ret
    exact ⟨rfl, (Keep.refl _ _).alloc _⟩
theorem set1_pred (S : List Nat) (sb : Nat) (k : Int) (w : World) (h0 : w.cell? ⟨sb, 0, none⟩ = some (.int .i64 k)) : Pred RngRow S w 64 #[.pointer (some ⟨sb, 0, none⟩)] (fun row => .agg row) (fun r => k == 0 && decide (255 < r.hi)) := by
  refine ⟨fun _ _ => by kernel_rfl, fun x row w' K hR => ?_⟩
  rw [show row = #[.int .i64 x.lo, .int .i64 x.hi] from hR]
  exact set1_any sb k 0 .nilFunc x w' (K.cell h0 (by simp))

set_option maxHeartbeats 2000000 in
theorem set_any (S : List Nat) (s : SymS) (row : Array Value) (w : World) (H : SymRow S w s row) :
    Calls Tryz.prog 45 #[.agg row] w fun e w' => e = .returned (.bool (setR s)) ∧ Keep [] w w' := by
  obtain ⟨A, C, rfl, hR⟩ := H
  have K0 := (Keep.refl [] w).alloc (.cells #[.int .i64 s.k, .slice A s.r.length C, .int .i64 s.n] 39)
  have BS := Blk.new w #[.int .i64 s.k, .slice A s.r.length C, .int .i64 s.n] 39
  have hR0 : Rngs S _ (.slice A s.r.length C) s.r := Sl.move hR (by omega) K0 (by simp) (fun x hx => .inl hx)
  have hmf : ∀ (fn : Fn) (first cap : Array Value) (w : World), (Instr.makeFunc fn first cap).run Tryz.prog w = .ok (.func fn first cap) w := fun _ _ _ _ => rfl
  generalize hany : (s.r.any fun r => s.k == 0 && decide (255 < r.hi)) = an
  have HANY := Lib.hid hany; clear hany
  go_enter Tryz.func45, Tryz.ntmps45
  go_wp2_with fail
  refine (rngContains_any S _ s.r _ _ _ _ (Rngs.of hR0) (set1_pred S w.heap.size s.k _ (BS.cell 0))).mono ?_
  rintro e w1 ⟨rfl, K1⟩
  rw [HANY.out]
  have B1 := BS.keep K1 (by simp)
  have c1 := B1.cell
  have hR1 : Rngs S w1 (.slice A s.r.length C) s.r := Sl.move hR0 (by omega) K1 (by simp) (fun x hx => .inl hx)
  have KF := K0.trans K1
  have hset : setR s = (s.n == 0 && !an && rmay s.r) := by rw [setR, HANY.out]
  have HSET := Lib.hid hset; clear hset
  clear BS hR0 hR K0
  cases hn : (s.n == 0)
  · go_wp2
    go_ret
    exact ⟨by rw [HSET.out, hn]; rfl, KF⟩
  · cases an
    · go_wp2_with fail
      refine (rmay_any S _ s.r w1 hR1).mono ?_
      rintro e w2 ⟨rfl, K2⟩
      go_wp2
      go_ret
      exact ⟨by rw [HSET.out, hn]; simp, KF.trans K2⟩
    · go_wp2
      go_ret
      exact ⟨by rw [HSET.out, hn]; rfl, KF⟩

set_option maxHeartbeats 2000000 in
theorem may1_any (S : List Nat) (mb many : Nat) (s : SymS) (row : Array Value) (w : World) (H : SymRow S w s row) (hm : w.cell? ⟨mb, 0, none⟩ = some (.int .i64 many)) :
    Calls Tryz.prog 44 #[.agg row, .pointer (some ⟨mb, 0, none⟩)] w fun e w' => e = .returned (.bool (symBad many s)) ∧ Keep [] w w' := by
  obtain ⟨A, C, rfl, hR⟩ := H
  have K0 := (Keep.refl [] w).alloc (.cells #[.int .i64 s.k, .slice A s.r.length C, .int .i64 s.n] 39)
  have hR0 : SymRow S _ s #[.int .i64 s.k, .slice A s.r.length C, .int .i64 s.n] := ⟨A, C, rfl, Sl.move hR (by omega) K0 (by simp) (fun x hx => .inl hx)⟩
  have hm0 := K0.cell hm (by simp)
  have hlm : mb < w.heap.size := World.block_lt_of_cell? w _ hm
  generalize hb : symBad many s = bad
  unfold symBad at hb
  by_cases h01 : s.k = 0 ∨ s.k = 1
  · rw [if_pos h01] at hb
    have HB := Lib.hid hb; clear hb
    have hk : (s.k == 0) = true ∨ ((s.k == 0) = false ∧ (s.k == 1) = true) := by
      rcases h01 with h | h
      · exact .inl (by simp [h])
      · exact .inr ⟨by simp [h], by simp [h]⟩
    clear h01
    rcases hk with hk | ⟨hk, hk1⟩
    all_goals
      go_enter Tryz.func44, Tryz.ntmps44
      go_wp2_with fail
      refine (set_any S s _ _ hR0).mono ?_
      rintro e w1 ⟨rfl, K1⟩
      go_wp2
      go_ret
      exact ⟨by rw [← HB.out]; rfl, K0.trans K1⟩
  · rw [if_neg h01] at hb
    have hk0 : (s.k == 0) = false := by simp; omega
    have hk1 : (s.k == 1) = false := by simp; omega
    by_cases h2 : s.k = 2
    · rw [if_pos h2] at hb
      have hk2 : (s.k == 2) = true := by simp [h2]
      have HB := Lib.hid hb; clear hb h01 h2 hR0 hR
      cases g1 : decide (s.n < 0)
      · cases g2 : decide ((many : Int) ≤ s.n)
        · have HB2 : Hid (decide (0 < s.r.length) = bad) := Lib.hid (by rw [← HB.out, g1, g2]; simp)
          clear HB
          go_enter Tryz.func44, Tryz.ntmps44
          go_wp2
          go_ret
          exact ⟨by rw [← HB2.out]; simp, (Keep.refl _ _).alloc _⟩
        · have HB2 : Hid (bad = true) := Lib.hid (by rw [← HB.out, g1, g2]; rfl)
          clear HB
          go_enter Tryz.func44, Tryz.ntmps44
          go_wp2
          go_ret
          exact ⟨by rw [HB2.out]; rfl, (Keep.refl _ _).alloc _⟩
      · have HB2 : Hid (bad = true) := Lib.hid (by rw [← HB.out, g1]; rfl)
        clear HB
        go_enter Tryz.func44, Tryz.ntmps44
        go_wp2
        go_ret
        exact ⟨by rw [HB2.out]; rfl, (Keep.refl _ _).alloc _⟩
    · rw [if_neg h2] at hb
      have hk2 : (s.k == 2) = false := by simp; omega
      have HB := Lib.hid hb; clear hb h01 h2 hR0 hR
      go_enter Tryz.func44, Tryz.ntmps44
      go_wp2
      go_ret
      exact ⟨by rw [← HB.out]; rfl, (Keep.refl _ _).alloc _⟩
theorem may1_pred (S : List Nat) (mb many : Nat) (w : World) (hm : w.cell? ⟨mb, 0, none⟩ = some (.int .i64 many)) : Pred SymRow S w 44 #[.pointer (some ⟨mb, 0, none⟩)] (fun row => .agg row) (symBad many) :=
  ⟨fun _ _ => by kernel_rfl, fun x row w' K hR => may1_any S mb many x row w' hR (K.cell hm (by simp))⟩

set_option maxHeartbeats 2000000 in
theorem may2_any (S : List Nat) (fb mb many : Nat) (l : List SymS) (v : Value) (w : World) (H : Syms S w v l) (hm : w.cell? ⟨mb, 0, none⟩ = some (.int .i64 many)) (hf : w.cell? ⟨fb, 0, none⟩ = some (.func (.func 44) #[] #[.pointer (some ⟨mb, 0, none⟩)])) :
    Calls Tryz.prog 46 #[v, .pointer (some ⟨fb, 0, none⟩)] w fun e w' => e = .returned (.bool (altOdd many l)) ∧ Keep [] w w' := by
  have HH := H
  obtain ⟨A, C, rfl, _⟩ := SlOf.at HH
  rename_i hrest
  clear hrest
  generalize hb : altOdd many l = bad
  have HB := Lib.hid hb; clear hb
  cases g1 : decide ((40 : Int) < (l.length : Int))
  · go_enter Tryz.func46, Tryz.ntmps46
    go_wp2_with fail
    refine (symContains_any S _ l _ _ _ w H (may1_pred S mb many w hm)).mono ?_
    rintro e w1 ⟨rfl, K1⟩
    go_wp2
    go_ret
    have g1' : decide (40 < l.length) = false := by simp at g1 ⊢; omega
    exact ⟨by rw [← HB.out, altOdd, g1']; rfl, K1⟩
  · go_enter Tryz.func46, Tryz.ntmps46
    go_wp2
    go_ret
    have g1' : decide (40 < l.length) = true := by simp at g1 ⊢; omega
    exact ⟨by rw [← HB.out, altOdd, g1']; rfl, Keep.refl _ _⟩
theorem may2_pred (S : List Nat) (fb mb many : Nat) (w : World) (hm : w.cell? ⟨mb, 0, none⟩ = some (.int .i64 many)) (hf : w.cell? ⟨fb, 0, none⟩ = some (.func (.func 44) #[] #[.pointer (some ⟨mb, 0, none⟩)])) :
    Pred AltRow S w 46 #[.pointer (some ⟨fb, 0, none⟩)] (fun row => row.getD 0 undef) (altOdd many) :=
  ⟨fun _ _ => by kernel_rfl, fun x row w' K hR => by
    obtain ⟨A, C, rfl, hS⟩ := hR
    exact may2_any S fb mb many x _ w' hS (K.cell hm (by simp)) (K.cell hf (by simp))⟩
end Go.Proofs.YtacihjabkiedcaaGreatDoor
/- Whether nonterminals may be. -/
namespace Go.Proofs.YtacihjabkiedcaaGreatDoor
open Go Go.RowKit

set_option maxRecDepth 20000 in
set_option maxHeartbeats 4000000 in
theorem may_any (S : List Nat) (v kv : Value) (g : List ProdS) (w : World) (H : Prods S w v g) :
    Calls Tryz.prog 24 #[.agg #[v, kv]] w fun e w' => e = .returned (.bool (gmay g)) ∧ Keep [] w w' := by
  obtain ⟨A, C, rfl, hm, _⟩ := SlOf.at H
  have hmf : ∀ (fn : Fn) (first cap : Array Value) (w : World), (Instr.makeFunc fn first cap).run Tryz.prog w = .ok (.func fn first cap) w := fun _ _ _ _ => rfl
  obtain ⟨W0, hW0⟩ : ∃ W, W = (((w.alloc (.cells #[.slice A g.length C, kv] 25)).alloc (.cells #[.int .i64 g.length] 3)).alloc (.cells #[.func (.func 44) #[] #[.pointer (some ⟨w.heap.size + 1, 0, none⟩)]] 55)) := ⟨_, rfl⟩
  have K0 : Keep [] w W0 := by rw [hW0]; exact (((Keep.refl _ _).alloc _).alloc _).alloc _
  have c0 : W0.cell? ⟨w.heap.size + 1, 0, none⟩ = some (.int .i64 g.length) := by rw [hW0]; exact (((Blk.new' (w.alloc _) #[.int .i64 g.length] 3 (b := w.heap.size + 1) (by simp)).alloc _).cell 0)
  have c1 : W0.cell? ⟨w.heap.size + 2, 0, none⟩ = some (.func (.func 44) #[] #[.pointer (some ⟨w.heap.size + 1, 0, none⟩)]) := by rw [hW0]; exact ((Blk.new' ((w.alloc _).alloc _) #[.func (.func 44) #[] #[.pointer (some ⟨w.heap.size + 1, 0, none⟩)]] 55 (b := w.heap.size + 2) (by simp)).cell 0)
  have HW := Lib.hid hW0; clear hW0
  have hst : ∀ W, W = (((w.alloc (.cells #[.slice A g.length C, kv] 25)).alloc (.cells #[.int .i64 g.length] 3)).alloc (.cells #[.func (.func 44) #[] #[.pointer (some ⟨w.heap.size + 1, 0, none⟩)]] 55)) → Keep [] W0 W := fun W e => by rw [e, ← HW.out]; exact Keep.refl _ _
  have HST := Lib.hid hst; clear hst
  have hsf : ∀ (a : Addr) (fn : Fn) (x y : Array Value) (m : Mode) (w : World), (store a (.func fn x y) m).run Tryz.prog w = _ := fun a fn x y m w => run_store Tryz.prog w a (.func fn x y) m rfl
  go_enter Tryz.func24, Tryz.ntmps24
  go_wp2
  go_loopw [16] (fun i wr => ∃ k : Nat, k ≤ g.length ∧ i = .int .i64 k ∧ Hid (∀ j (hj : j < k) (hl : j < g.length), prodBad g.length g[j] = false) ∧ Keep [] W0 wr) (fun i _ => g.length - (intOf i).toNat)
  case atStart => exact ⟨0, by omega, rfl, Lib.hid (fun j hj => by omega), HST.out _ rfl⟩
  case round =>
    clear HST HW hmf hsf
    obtain ⟨k, hk, rfl, hn, Kr⟩ := hrel
    have d0 := Kr.cell c0 (by simp)
    have d1 := Kr.cell c1 (by simp)
    by_cases hlt : k < g.length
    · have hlt' : (k : Int) < (g.length : Int) := by omega
      have HW : Prods S wr (.slice A g.length C) g := SlOf.move (SlOf.move H prodRow_stab (by omega) K0 (by simp) (fun x hx => .inl hx)) prodRow_stab (by omega) Kr (by simp) (fun x hx => .inl hx)
      obtain ⟨A2, C2, hv, _, hr2⟩ := SlOf.at HW
      simp only [Value.slice.injEq, true_and] at hv
      obtain ⟨rfl, rfl⟩ := hv
      obtain ⟨b, o, rfl, hb, hc⟩ := hr2 (by omega)
      obtain ⟨row, hz, hcell, hR⟩ := hc k hlt
      obtain ⟨A3, C3, N3, F3, rfl, hA, hN⟩ := hR
      have e0 := hcell 0 (by omega)
      have e1 := hcell 1 (by omega)
      have e2 := hcell 2 (by omega)
      simp at e0 e1 e2
      clear hcell hc hr2 HW hz
      have hbk : prodBad g.length g[k] = (decide (g[k].a.length = 0) || decide (8 < g[k].a.length) || decide (g[k].marks < 0) || decide (63 < g[k].marks) || !rmay g[k].nt || g[k].a.any (altOdd g.length)) := rfl
      have hmem := List.getElem_mem hlt
      generalize hp : g[k] = p at *
      have HP := Lib.hid hp; clear hp
      have HMEM := Lib.hid hmem; clear hmem
      have HBK := Lib.hid hbk; clear hbk
      have HLT := Lib.hid hlt
      have K1 := (Keep.refl [] wr).alloc (.cells #[.slice A3 p.a.length C3, .int .i64 p.marks, .slice N3 p.nt.length F3] 37)
      have hA1 : Alts S _ (.slice A3 p.a.length C3) p.a := SlOf.move hA altRow_stab (by omega) K1 (by simp) (fun x hx => .inl hx)
      have hN1 : Rngs S _ (.slice N3 p.nt.length F3) p.nt := Sl.move hN (by omega) K1 (by simp) (fun x hx => .inl hx)
      have KW := (K0.trans Kr).trans K1
      have B1 := Blk.new wr #[.slice A3 p.a.length C3, .int .i64 p.marks, .slice N3 p.nt.length F3] 37
      clear hA hN
      cases q1 : ((p.a.length : Int) == 0)
      · have r1 : decide (p.a.length = 0) = false := by simp at q1 ⊢; omega
        cases q2 : decide ((8 : Int) < (p.a.length : Int))
        · have r2 : decide (8 < p.a.length) = false := by simp at q2 ⊢; omega
          cases q3 : decide (p.marks < 0)
          · cases q4 : decide (63 < p.marks)
            · go_wp2_with fail
              refine (rmay_any S _ p.nt _ hN1).mono ?_
              rintro e w2 ⟨rfl, K2⟩
              have B2 := B1.keep K2 (by simp)
              have c2 := B2.cell
              have hA2 : Alts S w2 (.slice A3 p.a.length C3) p.a := SlOf.move hA1 altRow_stab (by omega) K2 (by simp) (fun x hx => .inl hx)
              clear hA1 hN1 e0 e1 e2
              cases q5 : rmay p.nt
              · skip
                have hb : prodBad g.length p = true := by rw [HBK.out]; rw [r1, r2, q3, q4, q5]; rfl
                have hF : gmay g = false := by
                  have h : g.any (prodBad g.length) = true := List.any_eq_true.2 ⟨p, HMEM.out, hb⟩
                  rw [gmay, h]; rfl
                clear hb
                go_wp2
                go_ret
                exact ⟨by rw [hF]; rfl, KW.trans K2⟩
              · go_wp2_with fail
                refine (altContains_any S _ p.a _ _ _ w2 hA2 (may2_pred S (w.heap.size + 2) (w.heap.size + 1) g.length w2 ((Kr.trans (K1.trans K2)).cell c0 (by simp)) ((Kr.trans (K1.trans K2)).cell c1 (by simp)))).mono ?_
                rintro e w3 ⟨rfl, K3⟩
                clear c2
                cases q6 : p.a.any (altOdd g.length)
                · have hb : prodBad g.length p = false := by rw [HBK.out]; rw [r1, r2, q3, q4, q5, q6]; rfl
                  have hn2 : Hid (∀ j (hj : j < k + 1) (hl : j < g.length), prodBad g.length g[j] = false) := Lib.hid (fun j hj hl => by
                    by_cases e : j = k
                    · subst e; rw [HP.out]; exact hb
                    · exact hn.out j (by omega) hl)
                  clear hb hn
                  go_wp2
                  have hlt := HLT.out
                  go_roundw
                  case rel => exact ⟨k + 1, by omega, by go_num, hn2, Kr.trans (K1.trans (K2.trans K3))⟩
                  case measure => simp [intOf]; omega
                · skip
                  have hb : prodBad g.length p = true := by rw [HBK.out]; rw [r1, r2, q3, q4, q5, q6]; rfl
                  have hF : gmay g = false := by
                    have h : g.any (prodBad g.length) = true := List.any_eq_true.2 ⟨p, HMEM.out, hb⟩
                    rw [gmay, h]; rfl
                  clear hb
                  go_wp2
                  go_ret
                  exact ⟨by rw [hF]; rfl, (KW.trans K2).trans K3⟩
            · skip
              have hb : prodBad g.length p = true := by rw [HBK.out]; rw [r1, r2, q3, q4]; rfl
              have hF : gmay g = false := by
                have h : g.any (prodBad g.length) = true := List.any_eq_true.2 ⟨p, HMEM.out, hb⟩
                rw [gmay, h]; rfl
              clear hb
              go_wp2
              go_ret
              exact ⟨by rw [hF]; rfl, KW⟩
          · skip
            have hb : prodBad g.length p = true := by rw [HBK.out]; rw [r1, r2, q3]; rfl
            have hF : gmay g = false := by
              have h : g.any (prodBad g.length) = true := List.any_eq_true.2 ⟨p, HMEM.out, hb⟩
              rw [gmay, h]; rfl
            clear hb
            go_wp2
            go_ret
            exact ⟨by rw [hF]; rfl, KW⟩
        · have r2 : decide (8 < p.a.length) = true := by simp at q2 ⊢; omega
          have hb : prodBad g.length p = true := by rw [HBK.out]; rw [r1, r2]; rfl
          have hF : gmay g = false := by
            have h : g.any (prodBad g.length) = true := List.any_eq_true.2 ⟨p, HMEM.out, hb⟩
            rw [gmay, h]; rfl
          clear hb
          go_wp2
          go_ret
          exact ⟨by rw [hF]; rfl, KW⟩
      · have r1 : decide (p.a.length = 0) = true := by simp at q1 ⊢; omega
        have hb : prodBad g.length p = true := by rw [HBK.out]; rw [r1]; rfl
        have hF : gmay g = false := by
          have h : g.any (prodBad g.length) = true := List.any_eq_true.2 ⟨p, HMEM.out, hb⟩
          rw [gmay, h]; rfl
        clear hb
        go_wp2
        go_ret
        exact ⟨by rw [hF]; rfl, KW⟩
    · have hany : g.any (prodBad g.length) = false := by
        rw [List.any_eq_false]
        intro x hx
        obtain ⟨j, hj, rfl⟩ := List.getElem_of_mem hx
        simp [hn.out j (by omega) hj]
      have hg : gmay g = (decide (0 < g.length) && decide (g.length ≤ 60)) := by rw [gmay, hany]; rfl
      have HG := Lib.hid hg; clear hg hany
      by_cases q1 : 0 < g.length
      · have q2 : (0 : Int) < (g.length : Int) := by omega
        go_wp2
        go_ret
        exact ⟨by rw [HG.out]; simp [q1]; omega, K0.trans Kr⟩
      · have q2 : ¬(0 : Int) < (g.length : Int) := by omega
        go_wp2
        go_ret
        exact ⟨by rw [HG.out]; simp [q1], K0.trans Kr⟩
end Go.Proofs.YtacihjabkiedcaaGreatDoor
