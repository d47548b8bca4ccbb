/- What is within what is within is within: the plain law of fromF. -/
import Derived.Test.YtacihjabkiedcaaGreatDoorG16
import Derived.Test.YtacihjabkiedcaaGreatDoorG15
import Derived.BigQuiet
import Derived.IntWalk
import Derived.RangeFuncNested
import Derived.RangeFuncBound
import Derived.RangeFuncCalls
import Derived.RangeFuncLeaves
import Derived.Shelf.Abstract
import Derived.Shelf.RegionOpen
import Derived.OwnWalkIn
import Derived.TacticsInMore
import Derived.LoopNIn
import Derived.LoopIn
set_option linter.unusedVariables false
set_option linter.unusedSimpArgs false
namespace Go.Proofs.YtacihjabkiedcaaGreatDoor
open Go Go.RowKit Go.MapKept

theorem lookF_eq (q : List Bool × List Int) (s : SymS) : lookF q s = q ∨ (s.k = 2 ∧ q.1[s.n.toNat]? = some false ∧ lookF q s = (q.1.set s.n.toNat true, addI q.2 s.n)) := by
  unfold lookF
  split
  · rename_i h
    exact .inr ⟨h.1, h.2, rfl⟩
  · exact .inl rfl
theorem mem_addI (l : List Int) (x y : Int) : y ∈ addI l x ↔ y ∈ l ∨ y = x := by
  unfold addI
  split
  · rename_i h
    constructor
    · exact .inl
    · rintro (h1 | rfl)
      · exact h1
      · exact h
  · simp
theorem lookF_out (q : List Bool × List Int) (s : SymS) (i : Nat) (h : (lookF q s).1[i]? = some true) : q.1[i]? = some true ∨ (s.k = 2 ∧ s.n.toNat = i) := by
  rcases lookF_eq q s with e | ⟨h1, _, e⟩
  · rw [e] at h; exact .inl h
  · rw [e] at h
    simp only [List.getElem?_set] at h
    by_cases hi : s.n.toNat = i
    · exact .inr ⟨h1, hi⟩
    · rw [if_neg hi] at h; exact .inl h
theorem lookF_mono (q : List Bool × List Int) (s : SymS) (i : Nat) (h : q.1[i]? = some true) : (lookF q s).1[i]? = some true := by
  rcases lookF_eq q s with e | ⟨h1, h2, e⟩
  · rw [e]; exact h
  · rw [e]
    simp only [List.getElem?_set]
    by_cases hi : s.n.toNat = i
    · rw [hi] at h2; rw [h] at h2; cases h2
    · rw [if_neg hi]; exact h
theorem lookF_hit (q : List Bool × List Int) (s : SymS) (h : s.k = 2) (hb : s.n.toNat < q.1.length) : (lookF q s).1[s.n.toNat]? = some true := by
  unfold lookF
  cases hq : q.1[s.n.toNat] with
  | true =>
    rw [if_neg (by simp [List.getElem?_eq_getElem hb, hq])]
    rw [List.getElem?_eq_getElem hb, hq]
  | false =>
    rw [if_pos ⟨h, by rw [List.getElem?_eq_getElem hb, hq]⟩]
    simp [hb]
theorem lookF_todo (q : List Bool × List Int) (s : SymS) (x : Int) (h : x ∈ (lookF q s).2) : x ∈ q.2 ∨ (s.k = 2 ∧ s.n = x) := by
  rcases lookF_eq q s with e | ⟨h1, _, e⟩
  · rw [e] at h; exact .inl h
  · rw [e] at h
    rcases (mem_addI _ _ _).1 h with h | h
    · exact .inl h
    · exact .inr ⟨h1, h.symm⟩
theorem lookF_grow (q : List Bool × List Int) (s : SymS) (x : Int) (h : x ∈ q.2) : x ∈ (lookF q s).2 := by
  rcases lookF_eq q s with e | ⟨_, _, e⟩
  · rw [e]; exact h
  · rw [e]; exact (mem_addI _ _ _).2 (.inl h)
theorem lookF_new (q : List Bool × List Int) (s : SymS) (i : Nat) (hs : s.k = 2 → 0 ≤ s.n) (h : (lookF q s).1[i]? = some true) (hx : (i : Int) ∉ (lookF q s).2) : q.1[i]? = some true := by
  rcases lookF_eq q s with e | ⟨h1, _, e⟩
  · rw [e] at h; exact h
  · rw [e] at h hx
    simp only [List.getElem?_set] at h
    by_cases hi : s.n.toNat = i
    · exact absurd ((mem_addI _ _ _).2 (.inr (by have := hs h1; omega))) hx
    · rw [if_neg hi] at h; exact h
theorem foldF_out (i : Nat) : ∀ (l : List SymS) (q : List Bool × List Int), (l.foldl lookF q).1[i]? = some true → q.1[i]? = some true ∨ ∃ s ∈ l, s.k = 2 ∧ s.n.toNat = i
  | [], q, h => .inl h
  | s :: l, q, h => by
    rcases foldF_out i l (lookF q s) h with h | ⟨t, ht, h1⟩
    · rcases lookF_out q s i h with h | h
      · exact .inl h
      · exact .inr ⟨s, List.mem_cons_self, h⟩
    · exact .inr ⟨t, List.mem_cons_of_mem _ ht, h1⟩
theorem foldF_mono (i : Nat) : ∀ (l : List SymS) (q : List Bool × List Int), q.1[i]? = some true → (l.foldl lookF q).1[i]? = some true
  | [], q, h => h
  | s :: l, q, h => foldF_mono i l _ (lookF_mono q s i h)
theorem foldF_hit : ∀ (l : List SymS) (q : List Bool × List Int) (s : SymS), s ∈ l → s.k = 2 → s.n.toNat < q.1.length → (l.foldl lookF q).1[s.n.toNat]? = some true
  | t :: l, q, s, hs, hk, hb => by
    rcases List.mem_cons.1 hs with rfl | hs
    · exact foldF_mono _ l _ (lookF_hit q s hk hb)
    · exact foldF_hit l _ s hs hk (by rw [lookF_len]; exact hb)
theorem foldF_todo (x : Int) : ∀ (l : List SymS) (q : List Bool × List Int), x ∈ (l.foldl lookF q).2 → x ∈ q.2 ∨ ∃ s ∈ l, s.k = 2 ∧ s.n = x
  | [], q, h => .inl h
  | s :: l, q, h => by
    rcases foldF_todo x l (lookF q s) h with h | ⟨t, ht, h1⟩
    · rcases lookF_todo q s x h with h | h
      · exact .inl h
      · exact .inr ⟨s, List.mem_cons_self, h⟩
    · exact .inr ⟨t, List.mem_cons_of_mem _ ht, h1⟩
theorem foldF_grow (x : Int) : ∀ (l : List SymS) (q : List Bool × List Int), x ∈ q.2 → x ∈ (l.foldl lookF q).2
  | [], q, h => h
  | s :: l, q, h => foldF_grow x l _ (lookF_grow q s x h)
theorem foldF_new (i : Nat) : ∀ (l : List SymS) (q : List Bool × List Int), (∀ s ∈ l, s.k = 2 → 0 ≤ s.n) → (l.foldl lookF q).1[i]? = some true → (i : Int) ∉ (l.foldl lookF q).2 → q.1[i]? = some true
  | [], q, _, h, _ => h
  | s :: l, q, hs, h, hx => lookF_new q s i (hs s List.mem_cons_self) (foldF_new i l _ (fun t ht => hs t (List.mem_cons_of_mem _ ht)) h hx) (fun hh => hx (foldF_grow _ l _ hh))
/-- A nonterminal's symbols that are nonterminals. -/
def Nt (ps : List ProdS) (m : Nat) (s : SymS) : Prop := ∃ p, ps[m]? = some p ∧ s ∈ p.a.flatten ∧ s.k = 2
/-- What holds between two steps. -/
structure FromI (ps : List ProdS) (n : Nat) (Z : Nat → Prop) (q : List Bool × List Int) : Prop where
  len : q.1.length = ps.length
  ok : ∀ x ∈ q.2, 0 ≤ x ∧ x < ps.length
  shut : ∀ m, (q.1[m]? = some true ∨ m = n) → (m : Int) ∉ q.2 → ∀ s, Nt ps m s → q.1[s.n.toNat]? = some true
  out : ∀ i, q.1[i]? = some true → Z i
  todo : ∀ x ∈ q.2, x = n ∨ Z x.toNat
theorem FromI.step {ps : List ProdS} {n : Nat} {Z : Nat → Prop} (hg : ∀ m s, Nt ps m s → 0 ≤ s.n ∧ s.n < ps.length) (z0 : ∀ s, Nt ps n s → Z s.n.toNat) (z1 : ∀ m s, Z m → Nt ps m s → Z s.n.toNat)
    {q : List Bool × List Int} (h : FromI ps n Z q) (k : Nat) : FromI ps n Z (stepF ps q k) := by
  unfold stepF
  split
  · rename_i p hp
    split
    · rename_i hk
      have hl : ∀ s ∈ p.a.flatten, s.k = 2 → Nt ps k s := fun s hs h2 => ⟨p, hp, hs, h2⟩
      have hZk : ∀ s, Nt ps k s → Z s.n.toNat := fun s hs => by
        rcases h.todo _ hk with e | e
        · have : k = n := by omega
          subst this; exact z0 s hs
        · exact z1 k s (by simpa using e) hs
      refine ⟨by rw [lookFold_len]; exact h.len, fun x hx => ?_, fun m hm hx s hs => ?_, fun i hi => ?_, fun x hx => ?_⟩
      · rcases foldF_todo x _ _ hx with hx | ⟨s, hs, h2, rfl⟩
        · exact h.ok x (List.mem_of_mem_erase hx)
        · exact hg k s (hl s hs h2)
      · by_cases e : m = k
        · subst e
          obtain ⟨p', hp', hs', h2⟩ := hs
          rw [hp] at hp'
          obtain rfl := Option.some.inj hp'
          exact foldF_hit _ _ s hs' h2 (by simp only [h.len]; have := hg m s ⟨p, hp, hs', h2⟩; omega)
        · have hx0 : (m : Int) ∉ q.2.erase (k : Int) := fun hh => hx (foldF_grow _ _ _ hh)
          have hx1 : (m : Int) ∉ q.2 := fun hh => hx0 ((List.mem_erase_of_ne (by omega)).2 hh)
          refine foldF_mono _ _ _ (h.shut m ?_ hx1 s hs)
          rcases hm with hm | hm
          · exact .inl (foldF_new m _ (q.1, q.2.erase (k : Int)) (fun s hs h2 => (hg k s (hl s hs h2)).1) hm hx)
          · exact .inr hm
      · rcases foldF_out i _ _ hi with hi | ⟨s, hs, h2, rfl⟩
        · exact h.out i hi
        · exact hZk s (hl s hs h2)
      · rcases foldF_todo x _ _ hx with hx | ⟨s, hs, h2, rfl⟩
        · exact h.todo x (List.mem_of_mem_erase hx)
        · exact .inr (hZk s (hl s hs h2))
    · exact h
  · exact h
theorem FromI.pass {ps : List ProdS} {n : Nat} {Z : Nat → Prop} (hg : ∀ m s, Nt ps m s → 0 ≤ s.n ∧ s.n < ps.length) (z0 : ∀ s, Nt ps n s → Z s.n.toNat) (z1 : ∀ m s, Z m → Nt ps m s → Z s.n.toNat)
    {q : List Bool × List Int} (h : FromI ps n Z q) : ∀ k, FromI ps n Z (passF ps k q)
  | 0 => h
  | k + 1 => by rw [passF_succ]; exact FromI.step hg z0 z1 (FromI.pass hg z0 z1 h k) k
theorem FromI.last {ps : List ProdS} {n : Nat} {Z : Nat → Prop} (hg : ∀ m s, Nt ps m s → 0 ≤ s.n ∧ s.n < ps.length) (z0 : ∀ s, Nt ps n s → Z s.n.toNat) (z1 : ∀ m s, Z m → Nt ps m s → Z s.n.toNat) :
    ∀ (f : Nat) (q : List Bool × List Int), FromI ps n Z q → pot q < f → FromI ps n Z (fromL ps f q, [])
  | 0, q, _, hf => by omega
  | f + 1, q, h, hf => by
    unfold fromL
    split
    · rename_i he
      obtain ⟨q1, q2⟩ := q
      simp only at he
      subst he
      exact h
    · rename_i he
      obtain ⟨x, hx⟩ := List.exists_mem_of_ne_nil _ he
      have ho := h.ok x hx
      have hp := passF_strict ps q x.toNat (by omega) (by rw [show ((x.toNat : Nat) : Int) = x by omega]; exact hx) ps.length (by omega)
      exact FromI.last hg z0 z1 f _ (FromI.pass hg z0 z1 h _) (by omega)
theorem fromF_inv {ps : List ProdS} {n : Nat} (hn : n < ps.length) {Z : Nat → Prop} (hg : ∀ m s, Nt ps m s → 0 ≤ s.n ∧ s.n < ps.length) (z0 : ∀ s, Nt ps n s → Z s.n.toNat) (z1 : ∀ m s, Z m → Nt ps m s → Z s.n.toNat) : FromI ps n Z (fromF ps n, []) := by
  refine FromI.last hg z0 z1 _ _ ⟨by simp, fun x hx => ?_, fun m hm hx => ?_, fun i hi => ?_, fun x hx => ?_⟩ ?_
  · simp at hx; omega
  · rcases hm with hm | rfl
    · simp [List.getElem?_replicate] at hm
    · simp at hx
  · simp [List.getElem?_replicate] at hi
  · exact .inl (by simpa using hx)
  · simp [pot, falses, List.countP_replicate]
theorem gmay_nt {ps : List ProdS} (h : gmay ps = true) (m : Nat) (s : SymS) (hs : Nt ps m s) : 0 ≤ s.n ∧ s.n < ps.length := by
  obtain ⟨p, hp, hs, h2⟩ := hs
  obtain ⟨a, ha, hs⟩ := List.mem_flatten.1 hs
  exact gmay_sym h p (List.mem_of_getElem? hp) a ha s hs h2
/-- Its symbols are within it; what is within those within it is. -/
theorem within_sym {ps : List ProdS} (h : gmay ps = true) {n : Nat} (hn : n < ps.length) (s : SymS) (hs : Nt ps n s) : (fromF ps n)[s.n.toNat]? = some true :=
  (fromF_inv hn (Z := fun _ => True) (gmay_nt h) (fun _ _ => trivial) (fun _ _ _ _ => trivial)).shut n (.inr rfl) (by simp) s hs
theorem within_trans {ps : List ProdS} (h : gmay ps = true) {a b : Nat} (ha : a < ps.length) (hb : b < ps.length) (hx : (fromF ps a)[b]? = some true) (i : Nat) (hy : (fromF ps b)[i]? = some true) : (fromF ps a)[i]? = some true := by
  have I := fromF_inv ha (Z := fun _ => True) (gmay_nt h) (fun _ _ => trivial) (fun _ _ _ _ => trivial)
  have J := fromF_inv hb (Z := fun i => (fromF ps a)[i]? = some true) (gmay_nt h) (fun s hs => I.shut b (.inl hx) (by simp) s hs) (fun m s hm hs => I.shut m (.inl hm) (by simp) s hs)
  exact J.out i hy
end Go.Proofs.YtacihjabkiedcaaGreatDoor
/- Whether all symbols of a list are among those found empty: the walk of only. -/
namespace Go.Proofs.YtacihjabkiedcaaGreatDoor
open Go Go.RowKit Go.MapKept

/-- A symbol that is not found empty. -/
def hard (L : List Int) (s : SymS) : Bool := !(decide (s.k = 2) && decide (s.n ∈ L))
/-- All symbols are found empty. -/
def onlyF (L : List Int) (l : List SymS) : Bool := !(l.any (hard L))
/-- The finder in memory. -/
structure FindAt (w : World) (fb mb : Nat) (A K : Option Addr) (n C m D : Nat) (L : List Int) : Prop where
  B : Blk w fb #[.slice A n C, .slice K m D, .map (some mb)] 64
  M : SetI w mb L
  ne : fb ≠ mb
theorem FindAt.keep {w w' : World} {S : List Nat} {fb mb : Nat} {A K : Option Addr} {n C m D : Nat} {L : List Int} (h : FindAt w fb mb A K n C m D L) (k : Keep S w w') (hf : fb ∉ S) (hm : mb ∉ S) : FindAt w' fb mb A K n C m D L :=
  ⟨h.B.keep k hf, h.M.keep k hm, h.ne⟩

set_option maxHeartbeats 2000000 in
theorem only1_any (qb fb mb : Nat) (A K : Option Addr) (n C m D : Nat) (L : List Int) (S : List Nat) (s : SymS) (row : Array Value) (w : World) (BQ : Blk w qb #[.pointer (some ⟨fb, 0, none⟩)] 61) (F : FindAt w fb mb A K n C m D L) (H : SymRow S w s row) :
    Calls Tryz.prog 73 #[.agg row, .pointer (some ⟨qb, 0, none⟩)] w fun e w' => e = .returned (.bool (hard L s)) ∧ Keep [] w w' := by
  obtain ⟨B, E, rfl, hR⟩ := H
  obtain ⟨sk, sr, sn⟩ := s
  have K0 := (Keep.refl [] w).alloc (.cells #[.int .i64 sk, .slice B sr.length E, .int .i64 sn] 39)
  have q0 := (BQ.keep K0 (by simp)).cell 0
  have F0 := F.keep K0 (by simp) (by simp)
  have f2 := F0.B.cell 2
  have hlk : ∀ n, _ := fun n => set_look (F0.M.drewN n) sn
  clear hR F F0 BQ
  by_cases h2 : sk = 2
  · subst h2
    have hres : hard L ⟨2, sr, sn⟩ = !(decide (sn ∈ L)) := by simp [hard]
    rw [hres]
    generalize decide (sn ∈ L) = bn at hlk ⊢
    clear hres
    go_enter Tryz.func73, Tryz.ntmps73
    go_wp2
    go_quiet (fail)
    go_wp2
    go_ret
    exact ⟨rfl, K0.drewN _⟩
  · have hres : hard L ⟨sk, sr, sn⟩ = true := by simp [hard, h2]
    rw [hres]
    have h2b : (sk == 2) = false := by simpa using h2
    have h2d : decide (sk = 2) = false := by simpa using h2
    clear hres hlk
    go_enter Tryz.func73, Tryz.ntmps73
    go_wp2
    go_quiet (fail)
    go_wp2
    go_ret
    exact ⟨rfl, K0.drewN _⟩
set_option maxHeartbeats 2000000 in
theorem only_any (fb mb : Nat) (A K : Option Addr) (n C m D : Nat) (L : List Int) (S : List Nat) (l : List SymS) (B : Option Addr) (E : Nat) (w : World) (F : FindAt w fb mb A K n C m D L) (H : Syms S w (.slice B l.length E) l) :
    Calls Tryz.prog 52 #[.pointer (some ⟨fb, 0, none⟩), .slice B l.length E] w fun e w' => e = .returned (.bool (onlyF L l)) ∧ Keep [] w w' := by
  have K0 := (Keep.refl [] w).alloc (.cells #[.pointer (some ⟨fb, 0, none⟩)] 61)
  have BQ := Blk.new w #[.pointer (some ⟨fb, 0, none⟩)] 61
  have F0 := F.keep K0 (by simp) (by simp)
  have hp : PredOn l SymRow S _ 73 #[.pointer (some ⟨w.heap.size, 0, none⟩)] (fun row => .agg row) (hard L) :=
    ⟨fun _ _ => by kernel_rfl, fun s hs' row w' K h => only1_any w.heap.size fb mb _ _ n C m D L S s row w' (BQ.keep K (by simp)) (F0.keep K (by simp) (by simp)) h⟩
  have hcall := symContainsOn_any S (.slice B l.length E) l _ _ _ _ (SlOf.move H symRow_stab (by omega) K0 (by simp) (fun x hx => .inl hx)) hp
  have HC := Lib.hid hcall
  have hmf : ∀ (fn : Fn) (first cap : Array Value) (w : World), (Instr.makeFunc fn first cap).run Tryz.prog w = .ok (.func fn first cap) w := fun _ _ _ _ => rfl
  clear hcall hp H F F0 BQ
  go_enter Tryz.func52, Tryz.ntmps52
  go_wp2_with fail
  refine HC.out.mono ?_
  rintro e w1 ⟨rfl, K1⟩
  go_wp2
  go_ret
  exact ⟨rfl, K0.trans K1⟩
end Go.Proofs.YtacihjabkiedcaaGreatDoor
/- Lists of symbols of which one has a property that a method tells. -/
namespace Go.Proofs.YtacihjabkiedcaaGreatDoor
open Go Go.RowKit Go.MapKept

/-- What a method that is taken as a value tells of the elements of a list. -/
def PredM (l : List (List SymS)) (S : List Nat) (w : World) (g : Nat) (rv : Value) (pr : List SymS → Bool) : Prop :=
  (∀ args w, (callFunc g args).run Tryz.prog w = .ok (.enter g args) w) ∧ ∀ x ∈ l, ∀ (row : Array Value) (w' : World), Keep [] w w' → AltRow S w' x row → Calls Tryz.prog g #[rv, row.getD 0 undef] w' fun e w'' => e = .returned (.bool (pr x)) ∧ Keep [] w' w''
set_option maxHeartbeats 2000000 in
theorem altIndexM_any (S : List Nat) (v : Value) (l : List (List SymS)) (g : Nat) (rv : Value) (pr : List SymS → Bool) (w : World) (H : SlOf AltRow S w 1 v l) (hp : PredM l S w g rv pr) :
    Calls Tryz.prog 60 #[v, .func (.func g) #[rv] #[]] w fun e w' => (∃ i : Int, e = .returned (.int .i64 i) ∧ decide (0 ≤ i) = l.any pr) ∧ Keep [] w w' := by
  obtain ⟨hg, hp⟩ := hp
  obtain ⟨A, C, rfl, hm, hr⟩ := SlOf.at H
  go_enter Tryz.func60, Tryz.ntmps60
  go_wp2
  go_loopw [5, 8] (fun _ i wr => ∃ k : Nat, k ≤ l.length ∧ i = .int .i64 k ∧ Hid (∀ j (hj : j < k) (hl : j < l.length), pr l[j] = false) ∧ Keep [] w wr) (fun _ i _ => l.length - (intOf i).toNat)
  case atStart => exact ⟨0, by omega, rfl, Lib.hid (fun j hj => by omega), Keep.refl _ _⟩
  case round =>
    obtain ⟨k, hk, rfl, hn, Kr⟩ := hrel
    by_cases hlt : k < l.length
    · have hlt' : (k : Int) < (l.length : Int) := by omega
      have HW : SlOf AltRow S wr 1 (.slice A l.length C) l := SlOf.move H altRow_stab (by omega) Kr (by simp) (fun x hx => .inl hx)
      obtain ⟨A2, C2, hv, _, hr2⟩ := SlOf.at HW
      simp only [Value.slice.injEq, true_and] at hv
      obtain ⟨rfl, rfl⟩ := hv
      obtain ⟨b, o, rfl, hb, hc⟩ := hr2 (by omega)
      obtain ⟨row, hz, hcell, hR⟩ := hc k hlt
      have hR' := hR
      obtain ⟨A3, C3, rfl, hR3⟩ := hR'
      have e0 := hcell 0 (by omega)
      have hcall := hp l[k] (List.getElem_mem _) _ wr Kr hR
      clear hr hr2 hc hcell hp HW hR hR3 H
      simp at e0
      have HLT := Lib.hid hlt
      go_wp2
      refine hcall.mono ?_
      rintro e w2 ⟨rfl, K2⟩
      have hlt := HLT.out
      cases hq : pr l[k]
      · have hn2 : Hid (∀ j (hj : j < k + 1) (hl : j < l.length), pr l[j] = false) := Lib.hid (fun j hj hl => by
          by_cases e : j = k
          · subst e; exact hq
          · exact hn.out j (by omega) hl)
        clear e0 hcall hn
        go_wp2
        go_roundw
        case rel => exact ⟨k + 1, by omega, by go_num, hn2, Kr.trans K2⟩
        case measure => simp [intOf]; omega
      · have hany : l.any pr = true := List.any_eq_true.2 ⟨l[k], List.getElem_mem _, hq⟩
        clear e0 hcall hn
        go_wp2
        go_ret
        exact ⟨⟨k, rfl, by rw [hany]; simp⟩, Kr.trans K2⟩
    · have hany : l.any pr = false := by
        rw [List.any_eq_false]
        intro x hx
        obtain ⟨j, hj, rfl⟩ := List.getElem_of_mem hx
        simp [hn.out j (by omega) hj]
      go_wp2
      go_ret
      exact ⟨⟨-1, rfl, by rw [hany]; rfl⟩, Kr⟩
set_option maxHeartbeats 2000000 in
theorem altContainsM_any (S : List Nat) (v : Value) (l : List (List SymS)) (g : Nat) (rv : Value) (pr : List SymS → Bool) (w : World) (H : SlOf AltRow S w 1 v l) (hp : PredM l S w g rv pr) :
    Calls Tryz.prog 41 #[v, .func (.func g) #[rv] #[]] w fun e w' => e = .returned (.bool (l.any pr)) ∧ Keep [] w w' := by
  go_enter Tryz.func41, Tryz.ntmps41
  go_wp2_with fail
  refine (altIndexM_any S v l g rv pr w H hp).mono ?_
  rintro e w1 ⟨⟨i, rfl, hi⟩, K⟩
  go_wp2
  go_ret
  exact ⟨by rw [← hi]; rfl, K⟩
end Go.Proofs.YtacihjabkiedcaaGreatDoor
/- Who is empty, told round by round: the plain reckoning. -/
namespace Go.Proofs.YtacihjabkiedcaaGreatDoor
open Go Go.RowKit Go.MapKept

def estep (ps : List ProdS) (q : List Int × Bool) (n : Nat) : List Int × Bool := match ps[n]? with
  | some p => if (n : Int) ∈ q.1 then q else if p.a.any (onlyF q.1) = true then (q.1 ++ [(n : Int)], true) else q
  | none => q
def epass (ps : List ProdS) (k : Nat) (q : List Int × Bool) : List Int × Bool := (List.range k).foldl (estep ps) q
theorem epass_succ (ps : List ProdS) (k : Nat) (q : List Int × Bool) : epass ps (k + 1) q = estep ps (epass ps k q) k := by
  unfold epass
  rw [List.range_succ, List.foldl_append]
  rfl
/-- Which of the first k are there. -/
def bl (k : Nat) (L : List Int) : List Bool := (List.range k).map (fun (n : Nat) => decide ((n : Int) ∈ L))
theorem bl_at (k : Nat) (L : List Int) (n : Nat) (h : n < k) : (bl k L)[n]? = some (decide ((n : Int) ∈ L)) := by
  simp [bl, h]
theorem bl_add (k : Nat) (L : List Int) (n : Nat) (_h : n < k) : bl k (L ++ [(n : Int)]) = (bl k L).set n true := by
  apply List.ext_getElem?
  intro j
  rw [List.getElem?_set]
  by_cases hj : j < k
  · rw [bl_at _ _ _ hj]
    by_cases e : n = j
    · subst e
      simp [bl, hj]
    · rw [if_neg e, bl_at _ _ _ hj]
      have : ¬(j : Int) = (n : Int) := by omega
      simp [this]
  · have h1 : (bl k (L ++ [(n : Int)]))[j]? = none := by rw [List.getElem?_eq_none]; simp [bl]; omega
    have h2 : (bl k L)[j]? = none := by rw [List.getElem?_eq_none]; simp [bl]; omega
    rw [h1, h2]
    split
    · rename_i e; omega
    · rfl
theorem bl_less (k : Nat) (L : List Int) (n : Nat) (h : n < k) (hn : (n : Int) ∉ L) : falses (bl k (L ++ [(n : Int)])) + 1 = falses (bl k L) := by
  rw [bl_add k L n h]
  exact falses_set _ _ (by rw [bl_at _ _ _ h]; simp [hn])
theorem epass_less (ps : List ProdS) (L : List Int) : ∀ k, (epass ps k (L, false)).2 = false ∧ (epass ps k (L, false)).1 = L ∨ (epass ps k (L, false)).2 = true ∧ falses (bl ps.length (epass ps k (L, false)).1) < falses (bl ps.length L)
  | 0 => .inl ⟨rfl, rfl⟩
  | k + 1 => by
    rw [epass_succ]
    have ih := epass_less ps L k
    generalize epass ps k (L, false) = q at ih
    obtain ⟨q1, q2⟩ := q
    unfold estep
    split
    · rename_i p hp
      have hk : k < ps.length := (List.getElem?_eq_some_iff.1 hp).1
      split
      · exact ih
      · rename_i hn
        split
        · have h1 := bl_less ps.length q1 k hk hn
          right
          refine ⟨rfl, ?_⟩
          simp only at ih ⊢
          rcases ih with ⟨_, h2⟩ | ⟨_, h2⟩
          · rw [h2] at h1 ⊢; omega
          · omega
        · exact ih
    · exact ih
def emptyL (ps : List ProdS) : Nat → List Int → List Int
  | 0, L => L
  | f + 1, L => if (epass ps ps.length (L, false)).2 = true then emptyL ps f (epass ps ps.length (L, false)).1 else (epass ps ps.length (L, false)).1
/-- Who is empty, in the order in which it is found out. -/
def emptyF (ps : List ProdS) : List Int := emptyL ps (ps.length + 1) []
theorem falses_nil (k : Nat) : falses (bl k []) ≤ k := by
  unfold falses
  refine Nat.le_trans List.countP_le_length ?_
  simp [bl]
/-- A step keeps: all are numbers of nonterminals, none twice. -/
def Fine (n : Nat) (L : List Int) : Prop := L.Nodup ∧ ∀ x ∈ L, 0 ≤ x ∧ x < n
theorem estep_fine (ps : List ProdS) (q : List Int × Bool) (k : Nat) (h : Fine ps.length q.1) : Fine ps.length (estep ps q k).1 := by
  unfold estep
  split
  · rename_i p hp
    have hk : k < ps.length := (List.getElem?_eq_some_iff.1 hp).1
    split
    · exact h
    · rename_i hn
      split
      · refine ⟨?_, fun x hx => ?_⟩
        · rw [List.nodup_append]
          refine ⟨h.1, by simp, fun a ha b hb => ?_⟩
          simp at hb
          subst hb
          intro e
          subst e
          exact hn ha
        · simp at hx
          rcases hx with hx | rfl
          · exact h.2 x hx
          · omega
      · exact h
  · exact h
theorem epass_fine (ps : List ProdS) (q : List Int × Bool) (h : Fine ps.length q.1) : ∀ k, Fine ps.length (epass ps k q).1
  | 0 => h
  | k + 1 => by rw [epass_succ]; exact estep_fine ps _ k (epass_fine ps q h k)
theorem emptyL_fine (ps : List ProdS) : ∀ f L, Fine ps.length L → Fine ps.length (emptyL ps f L)
  | 0, L, h => h
  | f + 1, L, h => by
    unfold emptyL
    split
    · exact emptyL_fine ps f _ (epass_fine ps _ h _)
    · exact epass_fine ps _ h _
theorem emptyF_fine (ps : List ProdS) : Fine ps.length (emptyF ps) := emptyL_fine ps _ _ ⟨List.nodup_nil, fun x hx => absurd hx (by simp)⟩
open Classical in
/-- The set that the world holds. -/
noncomputable def setN (w : World) (b : Nat) : List Int := if h : ∃ L, SetI w b L then Classical.choose h else []
theorem SetI.inj {w : World} {b : Nat} {L M : List Int} (h : SetI w b L) (k : SetI w b M) : L = M := by
  obtain ⟨es, clk, h1, h2⟩ := h
  obtain ⟨es', clk', k1, k2⟩ := k
  unfold MapB at h1 k1
  rw [h1] at k1
  simp only [Option.some.injEq, Obj.map.injEq] at k1
  obtain ⟨rfl, rfl⟩ := k1
  rw [h2] at k2
  have hl : L.length = M.length := by simpa using congrArg List.length k2
  refine List.ext_getElem hl (fun i h1 h2 => ?_)
  have := congrArg (fun z => z[i]?) k2
  simp only [List.getElem?_map, List.getElem?_eq_getElem h1, List.getElem?_eq_getElem h2, Option.map_some, Option.some.injEq, Prod.mk.injEq, Value.int.injEq, true_and, and_true] at this
  exact this
theorem setN_of {w : World} {b : Nat} {L : List Int} (h : SetI w b L) : setN w b = L := by
  unfold setN
  have hex : ∃ L, SetI w b L := ⟨L, h⟩
  rw [dif_pos hex]
  exact (Classical.choose_spec hex).inj h
end Go.Proofs.YtacihjabkiedcaaGreatDoor
/- Who is empty, told round by round: the walk of the iterator. -/
namespace Go.Proofs.YtacihjabkiedcaaGreatDoor
open Go Go.RowKit Go.MapKept Go.Shelf
attribute [local go_sem] Oper.semAt_some

/-- Since w0 the set alone has turned, and holds these. -/
def NAt (w0 : World) (mb : Nat) (L : List Int) (W : World) : Prop := Keep [mb] w0 W ∧ SetI W mb L

set_option maxRecDepth 20000 in
set_option maxHeartbeats 4000000 in
theorem found1_any (n l qb fb mb : Nat) (A K : Option Addr) (C m D : Nat) (S : List Nat) (ps : List ProdS) (w0 : World) (HP : Prods (mb :: S) w0 (.slice A ps.length C) ps) (hps : ps.length ≤ 1000000)
    (BQ : Blk w0 qb #[.pointer (some ⟨fb, 0, none⟩)] 61) (BF : Blk w0 fb #[.slice A ps.length C, .slice K m D, .map (some mb)] 64) (hq : qb ≠ mb) (hf : fb ≠ mb)
    (B : World → Prop) (hB : ∀ W W', Keep [] W W' → B W → B W') (hn : 1 ≤ n)
    (hY : ∀ L (x : Nat) W1, NAt w0 mb L W1 → B W1 → x < ps.length → (x : Int) ∉ L → YieldAt Fence.wide (n - 1) Tryz.prog l #[.int .i64 x] W1 fun e W' => e = .returned (.bool true) ∧ NAt w0 mb (L ++ [(x : Int)]) W' ∧ B W')
    (W : World) (h0 : NAt w0 mb [] W) (hB0 : B W) :
    CallsIn Fence.wide n Tryz.prog 81 #[.func (.yield l) #[] #[], .pointer (some ⟨qb, 0, none⟩)] W fun e W' => (∃ v, e = .returned v) ∧ NAt w0 mb (emptyF ps) W' ∧ B W' := by
  have HBQ := Lib.hid BQ
  have HBF := Lib.hid BF
  have HPP := Lib.hid HP
  have HHB := Lib.hid hB
  have HHY := Lib.hid hY
  have HQM := Lib.hid (⟨hq, hf⟩ : _ ∧ _)
  have HT0 := Lib.hid (⟨h0, hB0⟩ : _ ∧ _)
  clear BQ BF HP hB hY hq hf h0 hB0
  refine callsIn_of_wp Tryz.func81 rfl trivial ?_ rfl
  simp only [Tryz.ntmps81, List.size_toArray, List.length_cons, List.length_nil, Nat.reduceAdd, Nat.reduceSub, Array.replicate_succ, Array.replicate_zero, List.push_toArray, List.append_toArray, List.nil_append, List.cons_append]
  gi_wp2
  gi_loopw [3] (fun mv wr => ∃ f L b, mv = .bool b ∧ (b = true → emptyL ps f L = emptyF ps ∧ falses (bl ps.length L) < f) ∧ (b = false → L = emptyF ps) ∧ NAt w0 mb L wr ∧ B wr) (fun mv wr => 2 * falses (bl ps.length (setN wr mb)) + (match mv with | .bool true => 1 | _ => 0))
  case atStart =>
    exact ⟨ps.length + 1, [], true, rfl, fun _ => ⟨rfl, by have := falses_nil ps.length; omega⟩, fun h => absurd h (by simp), HT0.out.1, HT0.out.2⟩
  case round =>
    clear HT0
    obtain ⟨f, L, b, rfl, hb1, hb2, hN, hBr⟩ := hrel
    cases b with
    | false =>
      have hres := hb2 rfl
      subst hres
      clear hb1 hb2
      gi_wp2
      go_end0
      exact ⟨⟨_, rfl⟩, hN, hBr⟩
    | true =>
      obtain ⟨hgo, hf⟩ := hb1 rfl
      clear hb1 hb2
      obtain ⟨f, rfl⟩ : ∃ m, f = m + 1 := ⟨f - 1, by omega⟩
      have hgo2 : (if (epass ps ps.length (L, false)).2 = true then emptyL ps f (epass ps ps.length (L, false)).1 else (epass ps ps.length (L, false)).1) = emptyF ps := hgo
      have hless := epass_less ps L ps.length
      have hm1 : setN wr mb = L := setN_of hN.2
      have HHH := Lib.hid (⟨hless, hgo2, hm1, hf⟩ : _ ∧ _ ∧ _ ∧ _)
      have q0 := (HBQ.out.keep hN.1 (by simp [HQM.out.1])).cell 0
      have g0 := (HBF.out.keep hN.1 (by simp [HQM.out.2])).cell 0
      have HT1 := Lib.hid (⟨hN, hBr⟩ : NAt w0 mb (epass ps 0 (L, false)).1 wr ∧ B wr)
      clear hless hgo2 hm1 hf hgo hN hBr
      obtain ⟨wo, rfl⟩ : ∃ wo : World, wo = wr := ⟨_, rfl⟩
      gi_wp2
      clear g0 q0
      gi_loopw [3, 13] (fun mv i wr => ∃ k : Nat, k ≤ ps.length ∧ i = .int .i64 k ∧ mv = .bool (epass ps k (L, false)).2 ∧ NAt w0 mb (epass ps k (L, false)).1 wr ∧ B wr) (fun _ i _ => ps.length - (intOf i).toNat)
      case atStart => exact ⟨0, by omega, rfl, rfl, HT1.out.1, HT1.out.2⟩
      case round =>
        clear HT1
        obtain ⟨k, hk, rfl, rfl, hN, hBr⟩ := hrel
        by_cases hlt : k < ps.length
        · have hlt' : (k : Int) < (ps.length : Int) := by omega
          have HLT := Lib.hid hlt
          have HSU : Hid (epass ps (k + 1) (L, false) = estep ps (epass ps k (L, false)) k) := Lib.hid (epass_succ _ _ _)
          generalize epass ps k (L, false) = q at hN HSU
          obtain ⟨q1, q2⟩ := q
          obtain ⟨Kr, hS⟩ := hN
          have hP2 : Prods (mb :: S) wr (.slice A ps.length C) ps := SlOf.move HPP.out prodRow_stab (by omega) Kr (fun x hx => .inl (by simp at hx ⊢; simp [hx])) (fun x hx => .inl hx)
          obtain ⟨_, _, hv, _, hr⟩ := SlOf.at hP2
          simp only [Value.slice.injEq, true_and] at hv
          obtain ⟨rfl, rfl⟩ := hv
          obtain ⟨b, o, rfl, hb, hc⟩ := hr (by omega)
          obtain ⟨prow, hz, hcell, hR⟩ := hc k hlt
          have HST : Hid (estep ps (q1, q2) k = if (k : Int) ∈ q1 then (q1, q2) else if ps[k].a.any (onlyF q1) = true then (q1 ++ [(k : Int)], true) else (q1, q2)) := Lib.hid (by unfold estep; rw [List.getElem?_eq_getElem hlt]; rfl)
          obtain ⟨A2, C2, N2, F2, rfl, hR2, hR3⟩ := hR
          have e0 := hcell 0 (by omega)
          have e1 := hcell 1 (by omega)
          have e2 := hcell 2 (by omega)
          simp at e0 e1 e2
          generalize ps[k] = p at e0 e1 e2 hR2 hR3 HST
          have KB := (Keep.refl [] wr).alloc (.cells #[.slice A2 p.a.length C2, .int .i64 p.marks, .slice N2 p.nt.length F2] 37)
          have KB2 := Kr.trans (KB.mono (by simp))
          have BQr := HBQ.out.keep KB2 (by simp [HQM.out.1])
          have BFr := HBF.out.keep KB2 (by simp [HQM.out.2])
          have q0 := BQr.cell 0
          have g2 := BFr.cell 2
          have S2 := hS.keep KB (by simp)
          have hlook := set_look S2 (k : Int)
          have hB2 := HHB.out _ _ KB hBr
          clear hcell hc hr hz hP2
          by_cases hin : (k : Int) ∈ q1
          · have hdec : decide ((k : Int) ∈ q1) = true := by simp [hin]
            rw [hdec] at hlook
            have HFIN : Hid ((epass ps (k + 1) (L, false)).2 = q2 ∧ NAt w0 mb (epass ps (k + 1) (L, false)).1 (wr.alloc (.cells #[.slice A2 p.a.length C2, .int .i64 p.marks, .slice N2 p.nt.length F2] 37)) ∧ B (wr.alloc (.cells #[.slice A2 p.a.length C2, .int .i64 p.marks, .slice N2 p.nt.length F2] 37))) := Lib.hid (by
              rw [HSU.out, HST.out, if_pos hin]
              exact ⟨rfl, ⟨KB2, S2⟩, hB2⟩)
            clear hdec hin BQr BFr S2 hB2 hS Kr hBr hR2 hR3 KB KB2
            gi_wp2
            refine ⟨trivial, ?_⟩
            gi_wp2
            go_roundw
            case rel => exact ⟨k + 1, by have := HLT.out; omega, by go_num, by rw [HFIN.out.1], HFIN.out.2.1, HFIN.out.2.2⟩
            case measure => simp [intOf]; have := HLT.out; omega
          · have hdec : decide ((k : Int) ∈ q1) = false := by simp [hin]
            rw [hdec] at hlook
            have hp : PredM p.a (mb :: S) (wr.alloc (.cells #[.slice A2 p.a.length C2, .int .i64 p.marks, .slice N2 p.nt.length F2] 37)) 52 (.pointer (some ⟨fb, 0, none⟩)) (onlyF q1) :=
              ⟨fun _ _ => by kernel_rfl, fun a _ row w' Kw h => by
                obtain ⟨A3, C3, rfl, h3⟩ := h
                exact only_any fb mb _ K ps.length _ m D q1 (mb :: S) a A3 C3 w' ⟨BFr.keep Kw (by simp), S2.keep Kw (by simp), HQM.out.2⟩ h3⟩
            have hcall := altContainsM_any (mb :: S) (.slice A2 p.a.length C2) p.a _ _ _ _ (SlOf.move hR2 altRow_stab (by omega) KB (by simp) (fun x hx => .inl hx)) hp
            have HC2 := Lib.hid hcall
            have HIN := Lib.hid (⟨hin, KB2, S2, hB2⟩ : _ ∧ _ ∧ _ ∧ _)
            have hmf : ∀ (fn : Fn) (first cap : Array Value) (w : World), (Instr.makeFunc fn first cap).run Tryz.prog w = .ok (.func fn first cap) w := fun _ _ _ _ => rfl
            clear hcall hp hdec hin BQr BFr S2 hB2 hS Kr hBr hR2 hR3 KB KB2
            gi_wp2_with fail
            refine ⟨trivial, (callsIn_wide.2 HC2.out).mono ?_⟩
            rintro e w5 ⟨rfl, K5⟩
            clear HC2 hlook q0 g2
            obtain ⟨hin, KB2, S2, hB2⟩ := HIN.out
            have K05 := KB2.trans (K5.mono (by simp))
            have S5 := S2.keep K5 (by simp)
            have hB5 := HHB.out _ _ K5 hB2
            clear HIN
            cases hany : p.a.any (onlyF q1) with
            | false =>
              have HFIN : Hid ((epass ps (k + 1) (L, false)).2 = q2 ∧ NAt w0 mb (epass ps (k + 1) (L, false)).1 w5 ∧ B w5) := Lib.hid (by
                rw [HSU.out, HST.out, if_neg hin, if_neg (by simp [hany])]
                exact ⟨rfl, ⟨K05, S5⟩, hB5⟩)
              clear hany hin KB2 S2 hB2 K05 S5 hB5 K5 hmf
              gi_wp2
              go_roundw
              case rel => exact ⟨k + 1, by have := HLT.out; omega, by go_num, by rw [HFIN.out.1], HFIN.out.2.1, HFIN.out.2.2⟩
              case measure => simp [intOf]; have := HLT.out; omega
            | true =>
              have hst : epass ps (k + 1) (L, false) = (q1 ++ [(k : Int)], true) := by rw [HSU.out, HST.out, if_neg hin, if_pos hany]
              obtain ⟨fn, tmps, assign, body, hy, hRd⟩ := HHY.out q1 k w5 ⟨K05, S5⟩ hB5 HLT.out hin
              have HRD := Lib.hid hRd
              have HSTT := Lib.hid hst
              clear hst hRd hany hin KB2 S2 hB2 K05 S5 hB5 K5 hmf
              gi_wp2
              refine HRD.out.mono ?_
              rintro e W3 ⟨rfl, hN3, hB3⟩
              have HFIN : Hid ((epass ps (k + 1) (L, false)).2 = true ∧ NAt w0 mb (epass ps (k + 1) (L, false)).1 W3 ∧ B W3) := Lib.hid (by rw [HSTT.out]; exact ⟨rfl, hN3, hB3⟩)
              clear hN3 hB3 HRD hy HSTT
              gi_wp2
              go_roundw
              case rel => exact ⟨k + 1, by have := HLT.out; omega, by go_num, by rw [HFIN.out.1], HFIN.out.2.1, HFIN.out.2.2⟩
              case measure => simp [intOf]; have := HLT.out; omega
        · obtain rfl : k = ps.length := by omega
          obtain ⟨hless, hgo, hm1, hf⟩ := HHH.out
          have HFIN : Hid (NAt w0 mb (epass ps ps.length (L, false)).1 wr ∧ B wr ∧ setN wr mb = (epass ps ps.length (L, false)).1) := Lib.hid ⟨hN, hBr, setN_of hN.2⟩
          clear hN hBr
          gi_wp2
          case roundEnd =>
            rw [HFIN.out.2.2, hm1]
            generalize epass ps ps.length (L, false) = q at hless hgo HFIN ⊢
            obtain ⟨q1, q2⟩ := q
            simp only at hless hgo HFIN ⊢
            cases q2 with
            | true =>
              rw [if_pos rfl] at hgo
              have hl : falses (bl ps.length q1) < falses (bl ps.length L) := by
                rcases hless with ⟨h, _⟩ | ⟨_, h⟩
                · cases h
                · exact h
              exact ⟨⟨f, q1, true, rfl, fun _ => ⟨hgo, by omega⟩, fun h => absurd h (by simp), HFIN.out.1, HFIN.out.2.1⟩, by simp only; omega⟩
            | false =>
              rw [if_neg (by simp)] at hgo
              have hl : q1 = L := by
                rcases hless with ⟨_, h⟩ | ⟨h, _⟩
                · exact h
                · cases h
              exact ⟨⟨f, q1, false, rfl, fun h => absurd h (by simp), fun _ => hgo, HFIN.out.1, HFIN.out.2.1⟩, by rw [hl]; simp⟩
end Go.Proofs.YtacihjabkiedcaaGreatDoor
