/- What is within what is within is within: the plain law of fromF. -/
import Derived.Test.YtkminfdblimiiaaGreatDoorJ15
import Derived.Test.YtkminfdblimiiaaGreatDoorJ2
set_option linter.unusedVariables false
set_option linter.unusedSimpArgs false
namespace Go.Proofs.YtkminfdblimiiaaGreatDoor
open Go Go.RowKit Go.MapKept

theorem lookF_eq (q : List Bool × List Int) (s : SymS) : lookF q s = q ∨ (s.k = 2 ∧ q.1[s.n.toNat]? = some false ∧ lookF q s = (q.1.set s.n.toNat true, addI q.2 s.n)) := by
  unfold lookF
  split
  · rename_i h
    exact .inr ⟨h.1, h.2, rfl⟩
  · exact .inl rfl
theorem mem_addI (l : List Int) (x y : Int) : y ∈ addI l x ↔ y ∈ l ∨ y = x := by
  unfold addI
  split
  · rename_i h
    constructor
    · exact .inl
    · rintro (h1 | rfl)
      · exact h1
      · exact h
  · simp
theorem lookF_out (q : List Bool × List Int) (s : SymS) (i : Nat) (h : (lookF q s).1[i]? = some true) : q.1[i]? = some true ∨ (s.k = 2 ∧ s.n.toNat = i) := by
  rcases lookF_eq q s with e | ⟨h1, _, e⟩
  · rw [e] at h; exact .inl h
  · rw [e] at h
    simp only [List.getElem?_set] at h
    by_cases hi : s.n.toNat = i
    · exact .inr ⟨h1, hi⟩
    · rw [if_neg hi] at h; exact .inl h
theorem lookF_mono (q : List Bool × List Int) (s : SymS) (i : Nat) (h : q.1[i]? = some true) : (lookF q s).1[i]? = some true := by
  rcases lookF_eq q s with e | ⟨h1, h2, e⟩
  · rw [e]; exact h
  · rw [e]
    simp only [List.getElem?_set]
    by_cases hi : s.n.toNat = i
    · rw [hi] at h2; rw [h] at h2; cases h2
    · rw [if_neg hi]; exact h
theorem lookF_hit (q : List Bool × List Int) (s : SymS) (h : s.k = 2) (hb : s.n.toNat < q.1.length) : (lookF q s).1[s.n.toNat]? = some true := by
  unfold lookF
  cases hq : q.1[s.n.toNat] with
  | true =>
    rw [if_neg (by simp [List.getElem?_eq_getElem hb, hq])]
    rw [List.getElem?_eq_getElem hb, hq]
  | false =>
    rw [if_pos ⟨h, by rw [List.getElem?_eq_getElem hb, hq]⟩]
    simp [hb]
theorem lookF_todo (q : List Bool × List Int) (s : SymS) (x : Int) (h : x ∈ (lookF q s).2) : x ∈ q.2 ∨ (s.k = 2 ∧ s.n = x) := by
  rcases lookF_eq q s with e | ⟨h1, _, e⟩
  · rw [e] at h; exact .inl h
  · rw [e] at h
    rcases (mem_addI _ _ _).1 h with h | h
    · exact .inl h
    · exact .inr ⟨h1, h.symm⟩
theorem lookF_grow (q : List Bool × List Int) (s : SymS) (x : Int) (h : x ∈ q.2) : x ∈ (lookF q s).2 := by
  rcases lookF_eq q s with e | ⟨_, _, e⟩
  · rw [e]; exact h
  · rw [e]; exact (mem_addI _ _ _).2 (.inl h)
theorem lookF_new (q : List Bool × List Int) (s : SymS) (i : Nat) (hs : s.k = 2 → 0 ≤ s.n) (h : (lookF q s).1[i]? = some true) (hx : (i : Int) ∉ (lookF q s).2) : q.1[i]? = some true := by
  rcases lookF_eq q s with e | ⟨h1, _, e⟩
  · rw [e] at h; exact h
  · rw [e] at h hx
    simp only [List.getElem?_set] at h
    by_cases hi : s.n.toNat = i
    · exact absurd ((mem_addI _ _ _).2 (.inr (by have := hs h1; omega))) hx
    · rw [if_neg hi] at h; exact h
theorem foldF_out (i : Nat) : ∀ (l : List SymS) (q : List Bool × List Int), (l.foldl lookF q).1[i]? = some true → q.1[i]? = some true ∨ ∃ s ∈ l, s.k = 2 ∧ s.n.toNat = i
  | [], q, h => .inl h
  | s :: l, q, h => by
    rcases foldF_out i l (lookF q s) h with h | ⟨t, ht, h1⟩
    · rcases lookF_out q s i h with h | h
      · exact .inl h
      · exact .inr ⟨s, List.mem_cons_self, h⟩
    · exact .inr ⟨t, List.mem_cons_of_mem _ ht, h1⟩
theorem foldF_mono (i : Nat) : ∀ (l : List SymS) (q : List Bool × List Int), q.1[i]? = some true → (l.foldl lookF q).1[i]? = some true
  | [], q, h => h
  | s :: l, q, h => foldF_mono i l _ (lookF_mono q s i h)
theorem foldF_hit : ∀ (l : List SymS) (q : List Bool × List Int) (s : SymS), s ∈ l → s.k = 2 → s.n.toNat < q.1.length → (l.foldl lookF q).1[s.n.toNat]? = some true
  | t :: l, q, s, hs, hk, hb => by
    rcases List.mem_cons.1 hs with rfl | hs
    · exact foldF_mono _ l _ (lookF_hit q s hk hb)
    · exact foldF_hit l _ s hs hk (by rw [lookF_len]; exact hb)
theorem foldF_todo (x : Int) : ∀ (l : List SymS) (q : List Bool × List Int), x ∈ (l.foldl lookF q).2 → x ∈ q.2 ∨ ∃ s ∈ l, s.k = 2 ∧ s.n = x
  | [], q, h => .inl h
  | s :: l, q, h => by
    rcases foldF_todo x l (lookF q s) h with h | ⟨t, ht, h1⟩
    · rcases lookF_todo q s x h with h | h
      · exact .inl h
      · exact .inr ⟨s, List.mem_cons_self, h⟩
    · exact .inr ⟨t, List.mem_cons_of_mem _ ht, h1⟩
theorem foldF_grow (x : Int) : ∀ (l : List SymS) (q : List Bool × List Int), x ∈ q.2 → x ∈ (l.foldl lookF q).2
  | [], q, h => h
  | s :: l, q, h => foldF_grow x l _ (lookF_grow q s x h)
theorem foldF_new (i : Nat) : ∀ (l : List SymS) (q : List Bool × List Int), (∀ s ∈ l, s.k = 2 → 0 ≤ s.n) → (l.foldl lookF q).1[i]? = some true → (i : Int) ∉ (l.foldl lookF q).2 → q.1[i]? = some true
  | [], q, _, h, _ => h
  | s :: l, q, hs, h, hx => lookF_new q s i (hs s List.mem_cons_self) (foldF_new i l _ (fun t ht => hs t (List.mem_cons_of_mem _ ht)) h hx) (fun hh => hx (foldF_grow _ l _ hh))
/-- A nonterminal's symbols that are nonterminals. -/
def Nt (ps : List ProdS) (m : Nat) (s : SymS) : Prop := ∃ p, ps[m]? = some p ∧ s ∈ p.a.flatten ∧ s.k = 2
/-- What holds between two steps. -/
structure FromI (ps : List ProdS) (n : Nat) (Z : Nat → Prop) (q : List Bool × List Int) : Prop where
  len : q.1.length = ps.length
  ok : ∀ x ∈ q.2, 0 ≤ x ∧ x < ps.length
  shut : ∀ m, (q.1[m]? = some true ∨ m = n) → (m : Int) ∉ q.2 → ∀ s, Nt ps m s → q.1[s.n.toNat]? = some true
  out : ∀ i, q.1[i]? = some true → Z i
  todo : ∀ x ∈ q.2, x = n ∨ Z x.toNat
theorem FromI.step {ps : List ProdS} {n : Nat} {Z : Nat → Prop} (hg : ∀ m s, Nt ps m s → 0 ≤ s.n ∧ s.n < ps.length) (z0 : ∀ s, Nt ps n s → Z s.n.toNat) (z1 : ∀ m s, Z m → Nt ps m s → Z s.n.toNat)
    {q : List Bool × List Int} (h : FromI ps n Z q) (k : Nat) : FromI ps n Z (stepF ps q k) := by
  unfold stepF
  split
  · rename_i p hp
    split
    · rename_i hk
      have hl : ∀ s ∈ p.a.flatten, s.k = 2 → Nt ps k s := fun s hs h2 => ⟨p, hp, hs, h2⟩
      have hZk : ∀ s, Nt ps k s → Z s.n.toNat := fun s hs => by
        rcases h.todo _ hk with e | e
        · have : k = n := by omega
          subst this; exact z0 s hs
        · exact z1 k s (by simpa using e) hs
      refine ⟨by rw [lookFold_len]; exact h.len, fun x hx => ?_, fun m hm hx s hs => ?_, fun i hi => ?_, fun x hx => ?_⟩
      · rcases foldF_todo x _ _ hx with hx | ⟨s, hs, h2, rfl⟩
        · exact h.ok x (List.mem_of_mem_erase hx)
        · exact hg k s (hl s hs h2)
      · by_cases e : m = k
        · subst e
          obtain ⟨p', hp', hs', h2⟩ := hs
          rw [hp] at hp'
          obtain rfl := Option.some.inj hp'
          exact foldF_hit _ _ s hs' h2 (by simp only [h.len]; have := hg m s ⟨p, hp, hs', h2⟩; omega)
        · have hx0 : (m : Int) ∉ q.2.erase (k : Int) := fun hh => hx (foldF_grow _ _ _ hh)
          have hx1 : (m : Int) ∉ q.2 := fun hh => hx0 ((List.mem_erase_of_ne (by omega)).2 hh)
          refine foldF_mono _ _ _ (h.shut m ?_ hx1 s hs)
          rcases hm with hm | hm
          · exact .inl (foldF_new m _ (q.1, q.2.erase (k : Int)) (fun s hs h2 => (hg k s (hl s hs h2)).1) hm hx)
          · exact .inr hm
      · rcases foldF_out i _ _ hi with hi | ⟨s, hs, h2, rfl⟩
        · exact h.out i hi
        · exact hZk s (hl s hs h2)
      · rcases foldF_todo x _ _ hx with hx | ⟨s, hs, h2, rfl⟩
        · exact h.todo x (List.mem_of_mem_erase hx)
        · exact .inr (hZk s (hl s hs h2))
    · exact h
  · exact h
theorem FromI.pass {ps : List ProdS} {n : Nat} {Z : Nat → Prop} (hg : ∀ m s, Nt ps m s → 0 ≤ s.n ∧ s.n < ps.length) (z0 : ∀ s, Nt ps n s → Z s.n.toNat) (z1 : ∀ m s, Z m → Nt ps m s → Z s.n.toNat)
    {q : List Bool × List Int} (h : FromI ps n Z q) : ∀ k, FromI ps n Z (passF ps k q)
  | 0 => h
  | k + 1 => by rw [passF_succ]; exact FromI.step hg z0 z1 (FromI.pass hg z0 z1 h k) k
theorem FromI.last {ps : List ProdS} {n : Nat} {Z : Nat → Prop} (hg : ∀ m s, Nt ps m s → 0 ≤ s.n ∧ s.n < ps.length) (z0 : ∀ s, Nt ps n s → Z s.n.toNat) (z1 : ∀ m s, Z m → Nt ps m s → Z s.n.toNat) :
    ∀ (f : Nat) (q : List Bool × List Int), FromI ps n Z q → pot q < f → FromI ps n Z (fromL ps f q, [])
  | 0, q, _, hf => by omega
  | f + 1, q, h, hf => by
    unfold fromL
    split
    · rename_i he
      obtain ⟨q1, q2⟩ := q
      simp only at he
      subst he
      exact h
    · rename_i he
      obtain ⟨x, hx⟩ := List.exists_mem_of_ne_nil _ he
      have ho := h.ok x hx
      have hp := passF_strict ps q x.toNat (by omega) (by rw [show ((x.toNat : Nat) : Int) = x by omega]; exact hx) ps.length (by omega)
      exact FromI.last hg z0 z1 f _ (FromI.pass hg z0 z1 h _) (by omega)
theorem fromF_inv {ps : List ProdS} {n : Nat} (hn : n < ps.length) {Z : Nat → Prop} (hg : ∀ m s, Nt ps m s → 0 ≤ s.n ∧ s.n < ps.length) (z0 : ∀ s, Nt ps n s → Z s.n.toNat) (z1 : ∀ m s, Z m → Nt ps m s → Z s.n.toNat) : FromI ps n Z (fromF ps n, []) := by
  refine FromI.last hg z0 z1 _ _ ⟨by simp, fun x hx => ?_, fun m hm hx => ?_, fun i hi => ?_, fun x hx => ?_⟩ ?_
  · simp at hx; omega
  · rcases hm with hm | rfl
    · simp [List.getElem?_replicate] at hm
    · simp at hx
  · simp [List.getElem?_replicate] at hi
  · exact .inl (by simpa using hx)
  · simp [pot, falses, List.countP_replicate]
theorem gmay_nt {ps : List ProdS} (h : gmay ps = true) (m : Nat) (s : SymS) (hs : Nt ps m s) : 0 ≤ s.n ∧ s.n < ps.length := by
  obtain ⟨p, hp, hs, h2⟩ := hs
  obtain ⟨a, ha, hs⟩ := List.mem_flatten.1 hs
  exact gmay_sym h p (List.mem_of_getElem? hp) a ha s hs h2
/-- Its symbols are within it; what is within those within it is. -/
theorem within_sym {ps : List ProdS} (h : gmay ps = true) {n : Nat} (hn : n < ps.length) (s : SymS) (hs : Nt ps n s) : (fromF ps n)[s.n.toNat]? = some true :=
  (fromF_inv hn (Z := fun _ => True) (gmay_nt h) (fun _ _ => trivial) (fun _ _ _ _ => trivial)).shut n (.inr rfl) (by simp) s hs
theorem within_trans {ps : List ProdS} (h : gmay ps = true) {a b : Nat} (ha : a < ps.length) (hb : b < ps.length) (hx : (fromF ps a)[b]? = some true) (i : Nat) (hy : (fromF ps b)[i]? = some true) : (fromF ps a)[i]? = some true := by
  have I := fromF_inv ha (Z := fun _ => True) (gmay_nt h) (fun _ _ => trivial) (fun _ _ _ _ => trivial)
  have J := fromF_inv hb (Z := fun i => (fromF ps a)[i]? = some true) (gmay_nt h) (fun s hs => I.shut b (.inl hx) (by simp) s hs) (fun m s hm hs => I.shut m (.inl hm) (by simp) s hs)
  exact J.out i hy
end Go.Proofs.YtkminfdblimiiaaGreatDoor
namespace Go.Proofs.YtkminfdblimiiaaGreatDoor
open Go Go.RowKit Go.MapKept

/-- The place of a bool. -/
def idxB (bs : List Bool) (x : Bool) : Int := match bs.findIdx? (fun b => b == x) with
  | some i => i
  | none => -1
theorem idxB_hit (bs : List Bool) (x : Bool) (k : Nat) (h : k < bs.length) (hx : bs[k] = x) (hn : ∀ j (hj : j < k), bs[j]'(by omega) ≠ x) : idxB bs x = k := by
  have : bs.findIdx? (fun b => b == x) = some k := by
    rw [List.findIdx?_eq_some_iff_getElem]
    exact ⟨h, by simp [hx], fun j hj => by simp [hn j hj]⟩
  unfold idxB
  rw [this]
theorem idxB_miss (bs : List Bool) (x : Bool) (hn : ∀ j (hj : j < bs.length), bs[j] ≠ x) : idxB bs x = -1 := by
  have : bs.findIdx? (fun b => b == x) = none := by
    rw [List.findIdx?_eq_none_iff]
    intro b hb
    obtain ⟨j, hj, rfl⟩ := List.getElem_of_mem hb
    simp [hn j hj]
  unfold idxB
  rw [this]
theorem BoolV.cells {w : World} {lo : Nat} {v : Value} {bs : List Bool} (h : BoolV w lo v bs) : ∃ A C, v = .slice A bs.length C ∧ bs.length ≤ C ∧ (0 < bs.length → ∃ b, A = some ⟨b, 0, none⟩ ∧ ∀ i (hi : i < bs.length), w.cell? ⟨b, i, none⟩ = some (.bool bs[i])) := by
  rcases h with ⟨rfl, rfl⟩ | ⟨hne, rb, rfl, hB, _⟩
  · exact ⟨none, 0, rfl, by simp, fun h => absurd h (by simp)⟩
  · exact ⟨_, _, rfl, Nat.le_refl _, fun _ => ⟨rb, rfl, fun i hi => by rw [hB.cell, boolC_at _ _ hi]⟩⟩
theorem BoolV.keep {w w' : World} {lo : Nat} {v : Value} {bs : List Bool} {S : List Nat} (h : BoolV w lo v bs) (K : Keep S w w') (hS : ∀ b ∈ S, b < lo) : BoolV w' lo v bs := by
  rcases h with ⟨rfl, rfl⟩ | ⟨hne, rb, rfl, hB, hlo⟩
  · exact .inl ⟨rfl, rfl⟩
  · exact .inr ⟨hne, rb, rfl, hB.keep K (fun hb => by have := hS rb hb; omega), hlo⟩
theorem BoolV.mono {w : World} {lo lo' : Nat} {v : Value} {bs : List Bool} (h : BoolV w lo v bs) (hl : lo' ≤ lo) : BoolV w lo' v bs := by
  rcases h with h | ⟨hne, rb, h1, hB, hlo⟩
  · exact .inl h
  · exact .inr ⟨hne, rb, h1, hB, by omega⟩
end Go.Proofs.YtkminfdblimiiaaGreatDoor
namespace Go.Proofs.YtkminfdblimiiaaGreatDoor
open Go Go.RowKit Go.MapKept

/-- Some of these marks are set. -/
def hasM (m k : Int) : Bool := bits .and .i64 m k != 0
def filtB (p : ProdS) : Bool := hasM p.marks 3 || decide (0 < p.nt.length)
/-- The marks of the n-th. -/
def mk (ps : List ProdS) (n : Nat) : Int := (ps.getD n ⟨[], 0, []⟩).marks
def filtN (ps : List ProdS) (n : Nat) : Bool := decide (n < ps.length) && filtB (ps.getD n ⟨[], 0, []⟩)
/-- One that is within has some marks. -/
def someM (ps : List ProdS) (is : List Bool) (k : Int) : Bool := (List.range is.length).any fun i => is.getD i false && hasM (mk ps i) k
def badP (ps : List ProdS) (n : Nat) : Bool := (fromF ps n).getD n false || someM ps (fromF ps n) 32
def laidP (ps : List ProdS) (n : Nat) : Bool := hasM (mk ps n) 28 || someM ps (fromF ps n) 28
/-- z is the least number of which P is so, or there is none. -/
def IsLeast (P : Nat → Prop) (z : Int) : Prop := (z = -1 ∧ ∀ n, ¬ P n) ∨ ∃ n : Nat, z = n ∧ P n ∧ ∀ m, P m → n ≤ m
theorem IsLeast.same {P Q : Nat → Prop} {z y : Int} (h : IsLeast P z) (k : IsLeast Q y) (e : ∀ n, P n ↔ Q n) : z = y := by
  rcases h with ⟨rfl, h⟩ | ⟨n, rfl, h1, h2⟩ <;> rcases k with ⟨rfl, k⟩ | ⟨m, rfl, k1, k2⟩
  · rfl
  · exact absurd ((e m).2 k1) (h m)
  · exact absurd ((e n).1 h1) (k n)
  · have := h2 m ((e m).2 k1)
    have := k2 n ((e n).1 h1)
    omega
theorem IsLeast.none (P : Nat → Prop) (h : ∀ n, ¬ P n) : IsLeast P (-1) := .inl ⟨rfl, h⟩
/-- One more, that is so or not. -/
theorem IsLeast.more {P Q : Nat → Prop} {z : Int} {x : Nat} (h : IsLeast P z) (e : ∀ n, Q n ↔ P n ∨ (n = x ∧ Q x)) (hx : ¬ P x) :
    (¬ Q x → IsLeast Q z) ∧ (Q x → (z = -1 ∨ (x : Int) < z) → IsLeast Q x) ∧ (¬ (z = -1 ∨ (x : Int) < z) → IsLeast Q z) := by
  refine ⟨fun hq => ?_, fun hq hz => ?_, fun hz => ?_⟩
  · rcases h with ⟨rfl, h⟩ | ⟨n, rfl, h1, h2⟩
    · exact .inl ⟨rfl, fun n hn => by
        rcases (e n).1 hn with h3 | ⟨rfl, h3⟩
        · exact h n h3
        · exact hq h3⟩
    · exact .inr ⟨n, rfl, (e n).2 (.inl h1), fun m hm => by
        rcases (e m).1 hm with h3 | ⟨rfl, h3⟩
        · exact h2 m h3
        · exact absurd h3 hq⟩
  · refine .inr ⟨x, rfl, hq, fun m hm => ?_⟩
    rcases (e m).1 hm with h3 | ⟨rfl, _⟩
    · rcases h with ⟨rfl, h⟩ | ⟨n, rfl, h1, h2⟩
      · exact absurd h3 (h m)
      · have := h2 m h3
        omega
    · exact Nat.le_refl _
  · rcases h with ⟨rfl, h⟩ | ⟨n, rfl, h1, h2⟩
    · exact absurd (.inl rfl) hz
    · refine .inr ⟨n, rfl, (e n).2 (.inl h1), fun m hm => ?_⟩
      rcases (e m).1 hm with h3 | ⟨rfl, _⟩
      · exact h2 m h3
      · omega
/-- The least of the nonterminals of which f is so. -/
def leastF (k : Nat) (f : Nat → Bool) : Int := match (List.range k).find? f with
  | some n => n
  | none => -1
theorem leastF_law (k : Nat) (f : Nat → Bool) : IsLeast (fun n => n < k ∧ f n = true) (leastF k f) := by
  unfold leastF
  cases h : (List.range k).find? f with
  | none =>
    refine .inl ⟨rfl, fun n hn => ?_⟩
    have := List.find?_eq_none.1 h n (by simpa using hn.1)
    simp [hn.2] at this
  | some n =>
    obtain ⟨h1, xs, bs, h2, h3⟩ := List.find?_eq_some_iff_append.1 h
    have hn : n ∈ List.range k := List.mem_of_find?_eq_some h
    refine .inr ⟨n, rfl, ⟨by simpa using hn, h1⟩, fun m hm => ?_⟩
    by_cases hlt : n ≤ m
    · exact hlt
    · exfalso
      have hp : (List.range k).Pairwise (fun a b => a < b) := List.pairwise_lt_range
      rw [h2, List.pairwise_append] at hp
      have hm' : m ∈ xs ++ n :: bs := by rw [← h2]; simpa using hm.1
      rcases List.mem_append.1 hm' with h4 | h4
      · have := h3 m h4; rw [hm.2] at this; simp at this
      · rcases List.mem_cons.1 h4 with rfl | h4
        · omega
        · have := (List.pairwise_cons.1 hp.2.1).1 m h4
          omega
def badR (ps : List ProdS) : Int := if gmay ps = true then leastF ps.length (fun n => filtN ps n && badP ps n) else -1
def laidR (ps : List ProdS) : Int := if gmay ps = true then leastF ps.length (fun n => filtN ps n && laidP ps n) else -1
end Go.Proofs.YtkminfdblimiiaaGreatDoor
namespace Go.Proofs.YtkminfdblimiiaaGreatDoor
open Go Go.RowKit Go.MapKept

def inN (ps : List ProdS) (n k : Nat) : Bool := (fromF ps n).getD k false
/-- None of S is within it. -/
def Free (ps : List ProdS) (S : Nat → Bool) (n : Nat) : Prop := S n = true ∧ ∀ k, S k = true → inN ps n k = false
/-- What comes of taking the least free one, again and again. -/
inductive OrdRel (ps : List ProdS) : (Nat → Bool) → List Int → Option (List Int) → Prop
  | done {S : Nat → Bool} {out : List Int} : (∀ n, S n = false) → OrdRel ps S out (some out)
  | stuck {S : Nat → Bool} {out : List Int} {n : Nat} : S n = true → (∀ n, ¬ Free ps S n) → OrdRel ps S out none
  | step {S : Nat → Bool} {out : List Int} {n : Nat} {r : Option (List Int)} : Free ps S n → (∀ m, Free ps S m → n ≤ m) → OrdRel ps (fun m => S m && !decide (m = n)) (out ++ [(n : Int)]) r → OrdRel ps S out r
theorem OrdRel.same {ps : List ProdS} {S : Nat → Bool} {out : List Int} {r r' : Option (List Int)} (h : OrdRel ps S out r) (k : OrdRel ps S out r') : r = r' := by
  induction h with
  | done h1 =>
    cases k with
    | done _ => rfl
    | stuck h2 _ => rw [h1] at h2; cases h2
    | step h2 _ _ => have := h2.1; rw [h1] at this; cases this
  | stuck h1 h2 =>
    cases k with
    | done h3 => rw [h3] at h1; cases h1
    | stuck _ _ => rfl
    | step h3 _ _ => exact absurd h3 (h2 _)
  | step h1 h2 _ ih =>
    cases k with
    | done h3 => have := h1.1; rw [h3] at this; cases this
    | stuck _ h3 => exact absurd h1 (h3 _)
    | step h3 h4 h5 =>
      have e := Nat.le_antisymm (h2 _ h3) (h4 _ h1)
      subst e
      exact ih h5
theorem inN_trans {ps : List ProdS} (h : gmay ps = true) {a b : Nat} (ha : a < ps.length) (hb : b < ps.length) (hx : inN ps a b = true) (k : Nat) (hy : inN ps b k = true) : inN ps a k = true := by
  unfold inN at hx hy ⊢
  rw [List.getD_eq_getElem?_getD] at hx hy ⊢
  have e1 : (fromF ps a)[b]? = some true := by cases h1 : (fromF ps a)[b]? with
    | none => rw [h1] at hx; cases hx
    | some v => rw [h1] at hx; simp at hx; rw [hx]
  have e2 : (fromF ps b)[k]? = some true := by cases h1 : (fromF ps b)[k]? with
    | none => rw [h1] at hy; cases hy
    | some v => rw [h1] at hy; simp at hy; rw [hy]
  rw [within_trans h ha hb e1 k e2]; rfl
theorem inN_lt {ps : List ProdS} {a k : Nat} (h : inN ps a k = true) : k < ps.length := by
  unfold inN at h
  rw [List.getD_eq_getElem?_getD] at h
  by_cases hk : k < ps.length
  · exact hk
  · rw [List.getElem?_eq_none (by rw [fromF_len]; omega)] at h; cases h
/-- Where none is free one is within itself. -/
theorem stuck_self {ps : List ProdS} (h : gmay ps = true) {S : Nat → Bool} (hS : ∀ n, S n = true → n < ps.length) (hf : ∀ n, ¬ Free ps S n) :
    ∀ (c n : Nat), ((List.range ps.length).countP (inN ps n)) ≤ c → S n = true → ∃ k, S k = true ∧ inN ps k k = true
  | c, n, hc, hn => by
    have h1 := hf n
    unfold Free at h1
    have h2 : ∃ k, S k = true ∧ inN ps n k = true := by
      apply Classical.byContradiction
      intro h3
      refine h1 ⟨hn, fun k hk => ?_⟩
      cases h4 : inN ps n k with
      | false => rfl
      | true => exact absurd ⟨k, hk, h4⟩ h3
    obtain ⟨k, hk, hnk⟩ := h2
    cases hkk : inN ps k k with
    | true => exact ⟨k, hk, hkk⟩
    | false =>
      have hlt : (List.range ps.length).countP (inN ps k) < (List.range ps.length).countP (inN ps n) := by
        refine countP_lt (fun x hx => inN_trans h (hS n hn) (hS k hk) hnk x hx) k (by simpa using hS k hk) hkk hnk
      match c, hc with
      | 0, hc => omega
      | c + 1, hc => exact stuck_self h hS hf c k (by omega) hk
where
  countP_lt {p q : Nat → Bool} {l : List Nat} (h : ∀ x, p x = true → q x = true) (k : Nat) (hk : k ∈ l) (hp : p k = false) (hq : q k = true) : l.countP p < l.countP q := by
    induction l with
    | nil => cases hk
    | cons a l ih =>
      have hle : l.countP p ≤ l.countP q := List.countP_mono_left (fun x _ => h x)
      rw [List.countP_cons, List.countP_cons]
      rcases List.mem_cons.1 hk with rfl | hk
      · rw [hp, hq]; simp; omega
      · have := ih hk
        cases hpa : p a with
        | false => simp; omega
        | true => rw [h a hpa]; simp; omega
/-- What an order is good for. -/
structure OrdOf (ps : List ProdS) (S : Nat → Bool) (l : List Int) : Prop where
  mem : ∀ z, z ∈ l ↔ ∃ n : Nat, z = n ∧ S n = true
  dist : l.Nodup
  free : ∀ (i k : Nat) (hi : i < l.length) (hk : k < l.length), i ≤ k → inN ps l[i].toNat l[k].toNat = false
theorem OrdRel.law {ps : List ProdS} {S : Nat → Bool} {out : List Int} {r : Option (List Int)} (h : OrdRel ps S out r) : ∀ l, r = some l → ∃ t, l = out ++ t ∧ OrdOf ps S t := by
  induction h with
  | done h1 =>
    rintro l ⟨⟩
    refine ⟨[], by simp, ⟨fun z => ?_, by simp, fun i k hi => by simp at hi⟩⟩
    constructor
    · intro h; cases h
    · rintro ⟨n, _, h2⟩; rw [h1] at h2; cases h2
  | stuck _ _ => rintro l ⟨⟩
  | @step S out n r h1 h2 _ ih =>
    intro l hl
    obtain ⟨t, e, O⟩ := ih l hl
    refine ⟨(n : Int) :: t, by rw [e]; simp, ⟨fun z => ?_, ?_, fun i k hi hk hik => ?_⟩⟩
    · rw [List.mem_cons, O.mem]
      constructor
      · rintro (rfl | ⟨m, rfl, h3⟩)
        · exact ⟨n, rfl, h1.1⟩
        · simp at h3; exact ⟨m, rfl, h3.1⟩
      · rintro ⟨m, rfl, h3⟩
        by_cases e2 : m = n
        · exact .inl (by rw [e2])
        · exact .inr ⟨m, rfl, by simp [h3, e2]⟩
    · rw [List.nodup_cons]
      refine ⟨fun h3 => ?_, O.dist⟩
      obtain ⟨m, e2, h4⟩ := (O.mem _).1 h3
      have : m = n := by omega
      simp [this] at h4
    · have hS : ∀ (j : Nat) (hj : j < t.length), S t[j].toNat = true := fun j hj => by
        obtain ⟨m, e2, h4⟩ := (O.mem _).1 (List.getElem_mem hj)
        simp at h4
        rw [e2]; simpa using h4.1
      cases i with
      | zero =>
        cases k with
        | zero => simpa using h1.2 n h1.1
        | succ k => simpa using h1.2 _ (hS k (by simpa using hk))
      | succ i =>
        cases k with
        | zero => omega
        | succ k => simpa using O.free i k (by simpa using hi) (by simpa using hk) (by omega)
/-- Marks from 0 to 63. -/
theorem marks_all : (List.range 64).all (fun m => (hasM (m : Int) 32 == decide (32 ≤ (m : Int))) && (hasM (m : Int) 28 == decide ((m : Int) / 4 % 8 ≠ 0)) && (hasM ((m : Int) / 4 * 4) 3 == false) && (hasM ((m : Int) % 4) 3 == hasM (m : Int) 3) && (hasM ((m : Int) % 4) 28 == false) && (hasM ((m : Int) % 4) 32 == false)) = true := by decide +kernel
theorem marks_of {m : Int} (h0 : 0 ≤ m) (h1 : m ≤ 63) : hasM m 32 = decide (32 ≤ m) ∧ hasM m 28 = decide (m / 4 % 8 ≠ 0) ∧ hasM (m / 4 * 4) 3 = false ∧ hasM (m % 4) 3 = hasM m 3 ∧ hasM (m % 4) 28 = false ∧ hasM (m % 4) 32 = false := by
  have h := List.all_eq_true.1 marks_all m.toNat (by simp; omega)
  rw [Int.toNat_of_nonneg h0] at h
  simp only [Bool.and_eq_true, beq_iff_eq] at h
  obtain ⟨⟨⟨⟨⟨a, b⟩, c⟩, d⟩, e⟩, f⟩ := h
  exact ⟨a, b, c, d, e, f⟩
theorem gmay_marks {ps : List ProdS} (h : gmay ps = true) : ∀ p ∈ ps, 0 ≤ p.marks ∧ p.marks ≤ 63 := by
  unfold gmay at h
  simp only [Bool.and_eq_true, Bool.not_eq_true', List.any_eq_false] at h
  intro p hp
  have h1 := h.1.1 p hp
  unfold prodBad at h1
  simp only [Bool.not_eq_true, Bool.or_eq_false_iff, decide_eq_false_iff_not] at h1
  omega
end Go.Proofs.YtkminfdblimiiaaGreatDoor
namespace Go.Proofs.YtkminfdblimiiaaGreatDoor
open Go Go.RowKit

theorem run_append_none' {t e ty : TypeId} {i : TypeInfo} (ht : Tryz.prog.underlying t = some (.slice e)) (hi : Tryz.prog.info? e = some i) (w : World) (A : Option Addr) (n cap : Nat) (B : Option Addr) (c : Nat) (h : n ≤ cap) :
    (Builtin.append_ #[t, t] ty #[.slice A n cap, .slice B 0 c]).run Tryz.prog w = .ok (.slice A n cap) w := by
  cases A <;> cases B <;> simp [Builtin.append_, run_underlying ht, sizeOf, typeInfo, hi, h, Builtin.lenOf, Builtin.firstCells, loadCells, loadCellsFrom, storeCells]
/-- All cells of an element are single ones. -/
def OneC {α : Type} (R : List Nat → World → α → Array Value → Prop) : Prop := ∀ S w x row, R S w x row → ∀ u ∈ row.toList, u.oneCell' = true
theorem symRow_one : OneC SymRow := by
  rintro S w x row ⟨A, C, rfl, _⟩ u hu
  simp at hu
  rcases hu with rfl | rfl | rfl <;> rfl
theorem altRow_one : OneC AltRow := by
  rintro S w x row ⟨A, C, rfl, _⟩ u hu
  simp at hu
  rcases hu with rfl
  rfl
theorem prodRow_one : OneC ProdRow := by
  rintro S w x row ⟨A, C, N, F, rfl, _⟩ u hu
  simp at hu
  rcases hu with rfl | rfl | rfl <;> rfl
theorem run_append_data {α : Type} {R : List Nat → World → α → Array Value → Prop} (st : Stab R) (hone : OneC R) {t e ty : TypeId} {i : TypeInfo} {z : Value} {k bytes : Nat} (ht : Tryz.prog.underlying t = some (.slice e)) (hi : Tryz.prog.info? e = some i) (hz : i.zero = some z)
    (hsz : i.size = k) (hby : i.bytes = bytes) (hzk : z.cells.size = k) (hk : 0 < k) {S : List Nat} {w : World} {base : Nat} {v : Value} {xs ys : List α} {A : Option Addr} {m C : Nat}
    (h : OwnL R S w base e k v xs) (hy : SlOf R (ownB v ++ S) w k (.slice A m C) ys) (hl : xs.length + ys.length ≤ 1000000) (hb : (xs.length + ys.length) * bytes ≤ 140737488355328) (hbase : base ≤ w.heap.size) :
    ∃ A' C' w', (Builtin.append_ #[t, t] ty #[v, .slice A m C]).run Tryz.prog w = .ok (.slice A' (xs.length + ys.length) C') w' ∧ OwnL R S w' base e k (.slice A' (xs.length + ys.length) C') (xs ++ ys) ∧ Keep (ownB v) w w' ∧ ∀ b ∈ ownB (.slice A' (xs.length + ys.length) C'), b ∈ ownB v ∨ b = w.heap.size := by
  obtain ⟨hm, _, _⟩ := SlOf.len hy
  subst hm
  by_cases h0 : ys.length = 0
  · obtain rfl : ys = [] := List.eq_nil_of_length_eq_zero h0
    have h' := h
    obtain ⟨A', C', rfl⟩ := h.slice
    obtain ⟨rows, h1, h2, h3⟩ := h
    have hcap : xs.length ≤ C' := by
      rcases h2.2 with ⟨_, h4⟩ | ⟨g, cap, cur, hv, _, _, h4, _⟩
      · omega
      · simp only [Value.slice.injEq] at hv; omega
    refine ⟨A', C', w, run_append_none' ht hi w A' xs.length C' A C hcap, by rw [List.append_nil]; exact h', (Keep.refl [] w).mono (by simp), fun b hb => .inl hb⟩
  · obtain ⟨rows, hlr, hown, hel⟩ := h
    obtain ⟨rows2, hs2, hlr2, hel2⟩ := hy
    have hs2' := hs2
    obtain ⟨a5, c5, hv5, hm5, hr5⟩ := hs2'
    rw [hlr2] at hv5
    simp only [Value.slice.injEq, true_and] at hv5
    obtain ⟨rfl, rfl⟩ := hv5
    obtain ⟨b5, o5, rfl, hb5, hc5⟩ := hr5 (by omega)
    have hrs : ∀ i (h : i < rows2.length), rows2[i].size = k := fun i hi => (hc5 i hi).1
    rw [← hlr2] at hs2
    have hnews := Sl.news hk hs2
    have hnl := flat_len k rows2 hrs
    have h1c : ∀ u ∈ rows2.flatMap Array.toList, u.oneCell' = true := fun u hu => by
      obtain ⟨x, hx, hu⟩ := List.mem_flatMap.1 hu
      obtain ⟨i, hi, rfl⟩ := List.getElem_of_mem hx
      exact hone _ _ _ _ (hel2 i (by omega) hi) u hu
    obtain ⟨g, cap, w', hr, ho, hg, hw, _⟩ := run_append_lies (P := Tryz.prog) w t ty base e i z k bytes ht hi hz hsz hby hzk hk v xs.length _ hown ⟨b5, o5, none⟩ rows2.length C _ hnl hnews h1c (by omega) (by unfold maxLen; omega) (by rw [hlr2]; exact hb) hbase _ rfl
    rw [hlr2] at hr ho
    refine ⟨_, _, w', hr, OwnL.appendL (S := S) rows hlr hel st rows2 hlr2 (fun i hi hi' => ⟨hrs i hi', hel2 i hi hi'⟩) ho hg hw, Keep.ofGrown hg, fun b hb => ?_⟩
    have : b = g := by simpa [ownB, Value.ownBlock, eq_comm] using hb
    subst this
    rcases hw with hw | hw
    · exact .inl (by simp [ownB, hw])
    · exact .inr hw
/-- At the operation. -/
theorem wp_append_data {α : Type} {R : List Nat → World → α → Array Value → Prop} (st : Stab R) (hone : OneC R) {o : Oper} {a : Act} {K : Act → World → Prop} {Q : Exit → Act → World → Prop} (s x : Operand) (t : TypeId)
    (ho : o.op = .call { callee := .builtin .append, args := #[s, x], argTypes := #[t, t] }) {e : TypeId} {i : TypeInfo} {z : Value} {k bytes : Nat} (ht : Tryz.prog.underlying t = some (.slice e)) (hi : Tryz.prog.info? e = some i) (hz : i.zero = some z)
    (hsz : i.size = k) (hby : i.bytes = bytes) (hzk : z.cells.size = k) (hk : 0 < k) {S : List Nat} {w : World} {base : Nat} {v : Value} {xs ys : List α} {A : Option Addr} {m C : Nat} (hs : a.eval s = v) (hx : a.eval x = .slice A m C)
    (h : OwnL R S w base e k v xs) (hy : SlOf R (ownB v ++ S) w k (.slice A m C) ys) (hl : xs.length + ys.length ≤ 1000000) (hb : (xs.length + ys.length) * bytes ≤ 140737488355328) (hbase : base ≤ w.heap.size)
    (hK : ∀ A' C' w', OwnL R S w' base e k (.slice A' (xs.length + ys.length) C') (xs ++ ys) → Keep (ownB v) w w' → (∀ b ∈ ownB (.slice A' (xs.length + ys.length) C'), b ∈ ownB v ∨ b = w.heap.size) → K (a.put o.dst (.slice A' (xs.length + ys.length) C')) w') : o.wp Tryz.prog a w K Q := by
  obtain ⟨A', C', w', hr, h2, h3, h4⟩ := run_append_data (ty := o.type) st hone ht hi hz hsz hby hzk hk h hy hl hb hbase
  unfold Oper.wp execOp
  simp only [ho, resolve, invoke, builtin, Sem.run_bind, Sem.run_pure, Result.andThen_ok, List.map_toArray, List.map_cons, List.map_nil, hs, hx, hr]
  exact hK A' C' w' h2 h3 h4
theorem wpList_append_data {α : Type} {R : List Nat → World → α → Array Value → Prop} (st : Stab R) (hone : OneC R) {ops : Array Oper} {rest : List Oper} {o : Oper} {a : Act} {Q : Exit → Act → World → Prop} (hgd : o.guard = none) (s x : Operand) (t : TypeId)
    (ho : o.op = .call { callee := .builtin .append, args := #[s, x], argTypes := #[t, t] }) {e : TypeId} {i : TypeInfo} {z : Value} {k bytes : Nat} (ht : Tryz.prog.underlying t = some (.slice e)) (hi : Tryz.prog.info? e = some i) (hz : i.zero = some z)
    (hsz : i.size = k) (hby : i.bytes = bytes) (hzk : z.cells.size = k) (hk : 0 < k) {S : List Nat} {w : World} {base : Nat} {v : Value} {xs ys : List α} {A : Option Addr} {m C : Nat} (hs : a.eval s = v) (hx : a.eval x = .slice A m C)
    (h : OwnL R S w base e k v xs) (hy : SlOf R (ownB v ++ S) w k (.slice A m C) ys) (hl : xs.length + ys.length ≤ 1000000) (hb : (xs.length + ys.length) * bytes ≤ 140737488355328) (hbase : base ≤ w.heap.size)
    (hK : ∀ A' C' w', OwnL R S w' base e k (.slice A' (xs.length + ys.length) C') (xs ++ ys) → Keep (ownB v) w w' → (∀ b ∈ ownB (.slice A' (xs.length + ys.length) C'), b ∈ ownB v ∨ b = w.heap.size) → wpList Tryz.prog ops Q rest (a.put o.dst (.slice A' (xs.length + ys.length) C')) w') : wpList Tryz.prog ops Q (o :: rest) a w :=
  wpList_plain hgd fun _ hk2 => wp_append_data st hone s x t ho ht hi hz hsz hby hzk hk hs hx h hy hl hb hbase fun A' C' w' h2 h3 h4 => hk2 _ _ (hK A' C' w' h2 h3 h4)
theorem step_append_data {α : Type} {R : List Nat → World → α → Array Value → Prop} (st : Stab R) (hone : OneC R) {ops : Array Oper} {o : Oper} {a : Act} {K : Act → World → Prop} {Q : Exit → Act → World → Prop} {Z : Prop} (hgd : o.guard = none) (s x : Operand) (t : TypeId)
    (ho : o.op = .call { callee := .builtin .append, args := #[s, x], argTypes := #[t, t] }) {e : TypeId} {i : TypeInfo} {z : Value} {k bytes : Nat} (ht : Tryz.prog.underlying t = some (.slice e)) (hi : Tryz.prog.info? e = some i) (hz : i.zero = some z)
    (hsz : i.size = k) (hby : i.bytes = bytes) (hzk : z.cells.size = k) (hk : 0 < k) {S : List Nat} {w : World} {base : Nat} {v : Value} {xs ys : List α} {A : Option Addr} {m C : Nat} (hs : a.eval s = v) (hx : a.eval x = .slice A m C)
    (h : OwnL R S w base e k v xs) (hy : SlOf R (ownB v ++ S) w k (.slice A m C) ys) (hl : xs.length + ys.length ≤ 1000000) (hb : (xs.length + ys.length) * bytes ≤ 140737488355328) (hbase : base ≤ w.heap.size)
    (hK : ∀ A' C' w', OwnL R S w' base e k (.slice A' (xs.length + ys.length) C') (xs ++ ys) → Keep (ownB v) w w' → (∀ b ∈ ownB (.slice A' (xs.length + ys.length) C'), b ∈ ownB v ∨ b = w.heap.size) → K (a.put o.dst (.slice A' (xs.length + ys.length) C')) w') :
    if Region.wanted o (yielded ops a.tmps) = true then Oper.wp Tryz.prog o a w K Q else Z := by
  have hw : Region.wanted o (yielded ops a.tmps) = true := by simp [Region.wanted, hgd]
  rw [if_pos hw]
  exact wp_append_data st hone s x t ho ht hi hz hsz hby hzk hk hs hx h hy hl hb hbase hK
theorem flat_setJ (k : Nat) : ∀ (l : List (Array Value)) (n j : Nat) (u : Value), (∀ i (h : i < l.length), l[i].size = k) → j < k → (h : n < l.length) → (l.flatMap Array.toList).set (n * k + j) u = (l.set n (l[n].setIfInBounds j u)).flatMap Array.toList
  | [], n, j, u, hl, hj, h => by simp at h
  | a :: l, 0, j, u, hl, hj, h => by
    have ha : a.size = k := hl 0 (by simp)
    simp only [List.flatMap_cons, List.set_cons_zero, List.getElem_cons_zero, Nat.zero_mul, Nat.zero_add]
    rw [List.set_append_left _ _ (by simp [ha]; exact hj), Array.toList_setIfInBounds]
  | a :: l, n + 1, j, u, hl, hj, h => by
    have ha : a.size = k := hl 0 (by simp)
    have ih := flat_setJ k l n j u (fun i hi => hl (i + 1) (by simpa using hi)) hj (by simpa using h)
    simp only [List.flatMap_cons, List.set_cons_succ, List.getElem_cons_succ]
    rw [List.set_append_right _ _ (by simp [ha, Nat.succ_mul]; omega), ← ih]
    congr 2
    simp [ha, Nat.succ_mul]; omega
/-- One cell of one element is stored. -/
theorem OwnL.store {α : Type} {R : List Nat → World → α → Array Value → Prop} (st : Stab R) {S : List Nat} {w : World} {base g C : Nat} {E : TypeId} {k : Nat} {xs : List α} (h : OwnL R S w base E k (.slice (some ⟨g, 0, none⟩) xs.length C) xs) (n j : Nat) (u : Value) (x : α)
    (hn : n < xs.length) (hj : j < k) (hx : ∀ row : Array Value, row.size = k → R ([g] ++ S) w xs[n] row → R ([g] ++ S) w x (row.setIfInBounds j u)) :
    OwnL R S (w.setCell ⟨g, n * k + j, none⟩ u) base E k (.slice (some ⟨g, 0, none⟩) xs.length C) (xs.set n x) := by
  obtain ⟨rows, h1, h2, h3⟩ := h
  have hob : ownB (.slice (some ⟨g, 0, none⟩) xs.length C) = [g] := rfl
  rw [hob] at h3
  have K : Keep [g] w (w.setCell ⟨g, n * k + j, none⟩ u) := (Keep.refl [g] w).setCell (.inl (by simp)) u
  have hrs : ∀ i (h : i < rows.length), rows[i].size = k := fun i hi => (h3 i (by omega) hi).1
  refine ⟨rows.set n ((rows[n]'(by omega)).setIfInBounds j u), by simp [h1], ?_, fun i hi hi' => ?_⟩
  · have hfl := flat_len k rows hrs
    have hfs := flat_setJ k rows n j u hrs hj (by omega)
    obtain ⟨hA, hB⟩ := h2
    rw [← hfs]
    rw [List.length_set]
    refine ⟨by rw [List.length_set]; exact hA, ?_⟩
    rcases hB with ⟨h4, h5⟩ | ⟨g', cap, cur, hv, hb, hgg, hnc, hcm, hcs, htk⟩
    · omega
    · right
      simp only [Value.slice.injEq, Option.some.injEq, Addr.mk.injEq, and_true, true_and] at hv
      obtain ⟨rfl, rfl⟩ := hv
      have hlt : n * k + j < cur.size := by
        rw [hcs]
        have h6 : (n + 1) * k ≤ xs.length * k := Nat.mul_le_mul_right k hn
        have h7 : xs.length * k ≤ C * k := Nat.mul_le_mul_right k hnc
        rw [Nat.succ_mul] at h6
        omega
      refine ⟨g, C, cur.setIfInBounds (n * k + j) u, rfl, hb, ?_, hnc, hcm, by simp [hcs], ?_⟩
      · simp [World.setCell, Array.getElem?_modify, hgg]
      · rw [Array.toList_setIfInBounds, List.take_set, htk]
  · rw [hob]
    have hT : ∀ b ∈ [g], b ∈ [g] ++ S ∨ w.heap.size ≤ b := fun b hb => .inl (by simp at hb; simp [hb])
    have hSS : ∀ b ∈ [g] ++ S, b ∈ [g] ++ S ∨ w.heap.size ≤ b := fun b hb => .inl hb
    by_cases e : n = i
    · subst e
      simp only [List.getElem_set_self]
      refine ⟨by rw [Array.size_setIfInBounds]; exact hrs _ _, st _ _ _ _ _ _ _ (hx _ (hrs _ _) (h3 n hn (by omega)).2) K hT hSS⟩
    · simp only [List.getElem_set_ne e]
      exact ⟨hrs i (by simpa using hi'), st _ _ _ _ _ _ _ (h3 i (by simpa using hi) (by simpa using hi')).2 K hT hSS⟩
end Go.Proofs.YtkminfdblimiiaaGreatDoor
namespace Go.Proofs.YtkminfdblimiiaaGreatDoor
open Go Go.RowKit

/-- append(nil, src...). -/
theorem wp_append_new {α : Type} {R : List Nat → World → α → Array Value → Prop} (st : Stab R) (hone : OneC R) {o : Oper} {a : Act} {K : Act → World → Prop} {Q : Exit → Act → World → Prop} (s x : Operand) (t : TypeId)
    (ho : o.op = .call { callee := .builtin .append, args := #[s, x], argTypes := #[t, t] }) {e : TypeId} {i : TypeInfo} {z : Value} {k bytes : Nat} (ht : Tryz.prog.underlying t = some (.slice e)) (hi : Tryz.prog.info? e = some i) (hz : i.zero = some z)
    (hsz : i.size = k) (hby : i.bytes = bytes) (hzk : z.cells.size = k) (hk : 0 < k) (S : List Nat) {w : World} (base : Nat) {ys : List α} (A : Option Addr) (m C : Nat) (hs : a.eval s = .slice none 0 0) (hx : a.eval x = .slice A m C)
    (hy : SlOf R S w k (.slice A m C) ys) (hl : ys.length ≤ 1000000) (hb : ys.length * bytes ≤ 140737488355328) (hbase : base ≤ w.heap.size)
    (hK : ∀ A' C' w', OwnL R S w' base e k (.slice A' ys.length C') ys → Keep [] w w' → (∀ b ∈ ownB (.slice A' ys.length C'), b = w.heap.size) → K (a.put o.dst (.slice A' ys.length C')) w') : o.wp Tryz.prog a w K Q := by
  refine wp_append_data st hone s x t ho ht hi hz hsz hby hzk hk (S := S) (base := base) (v := .slice none 0 0) (xs := []) hs hx (OwnL.nil _ _ _ _ _) hy (by simpa using hl) (by simpa using hb) hbase (fun A' C' w' h1 h2 h3 => ?_)
  simp only [List.length_nil, Nat.zero_add, List.nil_append] at h1 h3 ⊢
  exact hK A' C' w' h1 (h2.mono (by simp [ownB, Value.ownBlock])) (fun b hb => by
    rcases h3 b hb with h | h
    · simp [ownB, Value.ownBlock] at h
    · exact h)
theorem wpList_append_new {α : Type} {R : List Nat → World → α → Array Value → Prop} (st : Stab R) (hone : OneC R) {ops : Array Oper} {rest : List Oper} {o : Oper} {a : Act} {Q : Exit → Act → World → Prop} (hgd : o.guard = none) (s x : Operand) (t : TypeId)
    (ho : o.op = .call { callee := .builtin .append, args := #[s, x], argTypes := #[t, t] }) {e : TypeId} {i : TypeInfo} {z : Value} {k bytes : Nat} (ht : Tryz.prog.underlying t = some (.slice e)) (hi : Tryz.prog.info? e = some i) (hz : i.zero = some z)
    (hsz : i.size = k) (hby : i.bytes = bytes) (hzk : z.cells.size = k) (hk : 0 < k) (S : List Nat) {w : World} (base : Nat) {ys : List α} (A : Option Addr) (m C : Nat) (hs : a.eval s = .slice none 0 0) (hx : a.eval x = .slice A m C)
    (hy : SlOf R S w k (.slice A m C) ys) (hl : ys.length ≤ 1000000) (hb : ys.length * bytes ≤ 140737488355328) (hbase : base ≤ w.heap.size)
    (hK : ∀ A' C' w', OwnL R S w' base e k (.slice A' ys.length C') ys → Keep [] w w' → (∀ b ∈ ownB (.slice A' ys.length C'), b = w.heap.size) → wpList Tryz.prog ops Q rest (a.put o.dst (.slice A' ys.length C')) w') : wpList Tryz.prog ops Q (o :: rest) a w :=
  wpList_plain hgd fun _ hk2 => wp_append_new st hone s x t ho ht hi hz hsz hby hzk hk S base A m C hs hx hy hl hb hbase fun A' C' w' h2 h3 h4 => hk2 _ _ (hK A' C' w' h2 h3 h4)
theorem step_append_new {α : Type} {R : List Nat → World → α → Array Value → Prop} (st : Stab R) (hone : OneC R) {ops : Array Oper} {o : Oper} {a : Act} {K : Act → World → Prop} {Q : Exit → Act → World → Prop} {Z : Prop} (hgd : o.guard = none) (s x : Operand) (t : TypeId)
    (ho : o.op = .call { callee := .builtin .append, args := #[s, x], argTypes := #[t, t] }) {e : TypeId} {i : TypeInfo} {z : Value} {k bytes : Nat} (ht : Tryz.prog.underlying t = some (.slice e)) (hi : Tryz.prog.info? e = some i) (hz : i.zero = some z)
    (hsz : i.size = k) (hby : i.bytes = bytes) (hzk : z.cells.size = k) (hk : 0 < k) (S : List Nat) {w : World} (base : Nat) {ys : List α} (A : Option Addr) (m C : Nat) (hs : a.eval s = .slice none 0 0) (hx : a.eval x = .slice A m C)
    (hy : SlOf R S w k (.slice A m C) ys) (hl : ys.length ≤ 1000000) (hb : ys.length * bytes ≤ 140737488355328) (hbase : base ≤ w.heap.size)
    (hK : ∀ A' C' w', OwnL R S w' base e k (.slice A' ys.length C') ys → Keep [] w w' → (∀ b ∈ ownB (.slice A' ys.length C'), b = w.heap.size) → K (a.put o.dst (.slice A' ys.length C')) w') :
    if Region.wanted o (yielded ops a.tmps) = true then Oper.wp Tryz.prog o a w K Q else Z := by
  have hw : Region.wanted o (yielded ops a.tmps) = true := by simp [Region.wanted, hgd]
  rw [if_pos hw]
  exact wp_append_new st hone s x t ho ht hi hz hsz hby hzk hk S base A m C hs hx hy hl hb hbase hK
/-- Where a slice of the call's own lies that is not empty. -/
theorem OwnL.form {α : Type} {R : List Nat → World → α → Array Value → Prop} {S : List Nat} {w : World} {base : Nat} {E : TypeId} {k n C : Nat} {A : Option Addr} {xs : List α} (h : OwnL R S w base E k (.slice A n C) xs) (h0 : 0 < xs.length) :
    ∃ g, A = some ⟨g, 0, none⟩ ∧ base ≤ g ∧ g < w.heap.size := by
  obtain ⟨rows, h1, h2, _⟩ := h
  obtain ⟨g, cap, hv, hb, hg⟩ := h2.form h0
  simp only [Value.slice.injEq] at hv
  exact ⟨g, hv.1, hb, hg⟩
theorem OwnL.frozen {α : Type} {R : List Nat → World → α → Array Value → Prop} {S : List Nat} {w : World} {base : Nat} {E : TypeId} {k n C g : Nat} {xs : List α} (h : OwnL R S w base E k (.slice (some ⟨g, 0, none⟩) n C) xs) (h0 : 0 < xs.length) (j : Nat) : w.frozen? ⟨g, j, none⟩ = false := by
  obtain ⟨rows, h1, h2, _⟩ := h
  rcases h2.2 with ⟨_, h3⟩ | ⟨g', cap, cur, hv, _, hg, _⟩
  · omega
  · simp only [Value.slice.injEq, Option.some.injEq, Addr.mk.injEq, and_true] at hv
    obtain ⟨rfl, _, _⟩ := hv
    simp [World.frozen?, hg]
theorem gmay_alt {ps : List ProdS} (h : gmay ps = true) : ∀ p ∈ ps, 0 < p.a.length ∧ p.a.length ≤ 8 ∧ ∀ a ∈ p.a, a.length ≤ 40 := by
  unfold gmay at h
  simp only [Bool.and_eq_true, Bool.not_eq_true', List.any_eq_false] at h
  intro p hp
  have h1 := h.1.1 p hp
  unfold prodBad at h1
  simp only [Bool.not_eq_true, Bool.or_eq_false_iff, List.any_eq_false, decide_eq_false_iff_not] at h1
  refine ⟨by omega, by omega, fun a ha => ?_⟩
  have h2 := h1.2 a ha
  unfold altOdd at h2
  simp only [Bool.not_eq_true, Bool.or_eq_false_iff, decide_eq_false_iff_not] at h2
  omega
/-- One alternative, in a block of one cell. -/
theorem one_alt {S : List Nat} {w : World} {b n C : Nat} {A : Option Addr} {T : TypeId} {a : List SymS} (B : Blk w b #[.slice A n C] T) (hb : b ∉ S) (hn : n = a.length) (H : Syms S w (.slice A n C) a) : Alts S w (.slice (some ⟨b, 0, none⟩) 1 1) [a] := by
  subst hn
  have h := Sl.of_blk (S := S) (k := 1) (xs := [#[.slice A a.length C]]) 1 B hb (by simp) (fun i hi => by
    obtain rfl : i = 0 := by simpa using hi
    exact ⟨rfl, fun j hj => by simp⟩)
  refine ⟨[#[.slice A a.length C]], h, rfl, fun i hi hi' => ?_⟩
  obtain rfl : i = 0 := by simpa using hi
  exact ⟨A, C, rfl, H⟩
/-- With an alternative more. -/
def moreP (ps : List ProdS) (n : Nat) (l : List SymS) : List ProdS := match ps[n]? with
  | some p => ps.set n ⟨p.a ++ [l], p.marks, p.nt⟩
  | none => ps
theorem moreP_eq (ps : List ProdS) (n : Nat) (l : List SymS) (h : n < ps.length) : moreP ps n l = ps.set n ⟨ps[n].a ++ [l], ps[n].marks, ps[n].nt⟩ := by
  simp [moreP, h]
theorem moreP_len (ps : List ProdS) (n : Nat) (l : List SymS) : (moreP ps n l).length = ps.length := by
  unfold moreP
  split <;> simp
/-- The alternatives of one nonterminal of the copy are stored. -/
theorem own_alts {w : World} {S : List Nat} {base base2 g C C9 n : Nat} {A9 : Option Addr} {E : TypeId} {ps : List ProdS} {al : List (List SymS)} (OX : OwnL ProdRow S w base 29 3 (.slice (some ⟨g, 0, none⟩) ps.length C) ps) (hn : n < ps.length)
    (OA : OwnL AltRow (g :: S) w base2 E 1 (.slice A9 al.length C9) al) (hb2 : ∀ b ∈ g :: S, b < base2) :
    OwnL ProdRow S (w.setCell ⟨g, n * 3, none⟩ (.slice A9 al.length C9)) base 29 3 (.slice (some ⟨g, 0, none⟩) ps.length C) (ps.set n ⟨al, ps[n].marks, ps[n].nt⟩) := by
  have hA := OA.read (S' := g :: S) altRow_stab (fun b hb => .inl hb) (fun b hb hb' => by have h1 := (OA.base b hb).1; have := hb2 b hb'; omega)
  refine OwnL.store prodRow_stab OX n 0 _ _ hn (by omega) (fun row hr hR => ?_)
  obtain ⟨A2, C2, N2, F2, rfl, h2, h3⟩ := hR
  exact ⟨A9, C9, N2, F2, rfl, hA, h3⟩
/-- Since W the row g alone has turned of what was there: it is the nonterminals ps with alternatives al at n. -/
def AltsIn (S : List Nat) (W : World) (base g C : Nat) (ps : List ProdS) (n : Nat) (al : List (List SymS)) (wx : World) : Prop :=
  Keep [g] W wx ∧ ∃ p, ps[n]? = some p ∧ OwnL ProdRow S wx base 29 3 (.slice (some ⟨g, 0, none⟩) ps.length C) (ps.set n ⟨al, p.marks, p.nt⟩)
theorem altsIn {W w : World} {S : List Nat} {base g C C9 n k9 : Nat} {A9 : Option Addr} {E : TypeId} {ps : List ProdS} {al : List (List SymS)} (OX : OwnL ProdRow S W base 29 3 (.slice (some ⟨g, 0, none⟩) ps.length C) ps) (hn : n < ps.length) (K : Keep [] W w) (hS : ∀ b ∈ g :: S, b < W.heap.size)
    (hk : k9 = al.length) (OA : OwnL AltRow (g :: S) w W.heap.size E 1 (.slice A9 k9 C9) al) : AltsIn S W base g C ps n al (w.setCell ⟨g, n * 3, none⟩ (.slice A9 k9 C9)) := by
  subst hk
  exact ⟨(K.mono (by simp)).setCell (p := ⟨g, n * 3, none⟩) (.inl (by simp)) _, ps[n], List.getElem?_eq_getElem hn, own_alts (OX.move prodRow_stab K (by simp) (fun x hx => .inl hx)) hn OA hS⟩
theorem one_src {S : List Nat} {w0 w : World} {b n C : Nat} {A : Option Addr} {T : TypeId} {a : List SymS} (H : Syms [] w0 (.slice A n C) a) (K : Keep [] w0 w) (hS : ∀ x ∈ S, w0.heap.size ≤ x) (B : Blk w b #[.slice A n C] T) (hb : b ∉ S) : Alts S w (.slice (some ⟨b, 0, none⟩) 1 1) [a] :=
  one_alt B hb (SlOf.len H).1 (SlOf.move H symRow_stab (by omega) K (by simp) (fun x hx => .inr (hS x hx)))
end Go.Proofs.YtkminfdblimiiaaGreatDoor
namespace Go.Proofs.YtkminfdblimiiaaGreatDoor
open Go Go.RowKit Go.MapKept

theorem bad_cases {ps : List ProdS} (hg : gmay ps = true) : (badR ps = -1 ∧ ∀ n, n < ps.length → filtN ps n = true → badP ps n = false) ∨ ∃ n : Nat, badR ps = n ∧ n < ps.length ∧ filtN ps n = true ∧ badP ps n = true ∧ ∀ m, m < ps.length → filtN ps m = true → badP ps m = true → n ≤ m := by
  have h := leastF_law ps.length (fun n => filtN ps n && badP ps n)
  have e : badR ps = leastF ps.length (fun n => filtN ps n && badP ps n) := by unfold badR; rw [if_pos hg]
  rw [e]
  rcases h with ⟨h1, h2⟩ | ⟨n, h1, h2, h3⟩
  · left
    refine ⟨h1, fun n hn hf => ?_⟩
    cases hb : badP ps n with
    | false => rfl
    | true => exact absurd ⟨hn, by simp [hf, hb]⟩ (h2 n)
  · right
    have h4 := h2.2
    simp only [Bool.and_eq_true] at h4
    exact ⟨n, h1, h2.1, h4.1, h4.2, fun m hm hf hb => h3 m ⟨hm, by simp [hf, hb]⟩⟩
theorem laid_cases {ps : List ProdS} (hg : gmay ps = true) : (laidR ps = -1 ∧ ∀ n, n < ps.length → filtN ps n = true → laidP ps n = false) ∨ ∃ n : Nat, laidR ps = n ∧ n < ps.length ∧ filtN ps n = true ∧ laidP ps n = true ∧ ∀ m, m < ps.length → filtN ps m = true → laidP ps m = true → n ≤ m := by
  have h := leastF_law ps.length (fun n => filtN ps n && laidP ps n)
  have e : laidR ps = leastF ps.length (fun n => filtN ps n && laidP ps n) := by unfold laidR; rw [if_pos hg]
  rw [e]
  rcases h with ⟨h1, h2⟩ | ⟨n, h1, h2, h3⟩
  · left
    refine ⟨h1, fun n hn hf => ?_⟩
    cases hb : laidP ps n with
    | false => rfl
    | true => exact absurd ⟨hn, by simp [hf, hb]⟩ (h2 n)
  · right
    have h4 := h2.2
    simp only [Bool.and_eq_true] at h4
    exact ⟨n, h1, h2.1, h4.1, h4.2, fun m hm hf hb => h3 m ⟨hm, by simp [hf, hb]⟩⟩
theorem mk_at {ps : List ProdS} {n : Nat} (h : n < ps.length) : mk ps n = ps[n].marks := by simp [mk, h]
theorem filtN_at {ps : List ProdS} {n : Nat} (h : n < ps.length) : filtN ps n = filtB ps[n] := by simp [filtN, h]
theorem mk_in {ps : List ProdS} (hg : gmay ps = true) {n : Nat} (h : n < ps.length) : 0 ≤ mk ps n ∧ mk ps n ≤ 63 := by
  rw [mk_at h]
  exact gmay_marks hg _ (List.getElem_mem h)
/-- So far. -/
def accB (b : Bool) (f : Nat → Bool) (k : Nat) : Bool := b || (List.range k).any f
theorem accB_zero (b : Bool) (f : Nat → Bool) : accB b f 0 = b := by simp [accB]
theorem accB_succ (b : Bool) (f : Nat → Bool) (k : Nat) : accB b f (k + 1) = (accB b f k || f k) := by
  simp [accB, List.range_succ, Bool.or_assoc]
theorem accB_ext (b : Bool) {f g : Nat → Bool} (k : Nat) (h : ∀ i, i < k → f i = g i) : accB b f k = accB b g k := by
  unfold accB
  congr 1
  rw [Bool.eq_iff_iff, List.any_eq_true, List.any_eq_true]
  constructor <;> rintro ⟨x, hx, hf⟩ <;> have hx' := List.mem_range.1 hx
  · exact ⟨x, hx, by rw [← h x hx']; exact hf⟩
  · exact ⟨x, hx, by rw [h x hx']; exact hf⟩
theorem bad_acc {ps : List ProdS} (hg : gmay ps = true) (n : Nat) : badP ps n = accB ((fromF ps n).getD n false) (fun i => (fromF ps n).getD i false && decide (32 ≤ mk ps i)) ps.length := by
  unfold badP someM
  rw [fromF_len]
  refine accB_ext _ _ (fun i hi => ?_)
  rw [(marks_of (mk_in hg hi).1 (mk_in hg hi).2).1]
theorem laid_acc {ps : List ProdS} (hg : gmay ps = true) {n : Nat} (hn : n < ps.length) : laidP ps n = accB (decide (mk ps n / 4 % 8 ≠ 0)) (fun i => (fromF ps n).getD i false && decide (mk ps i / 4 % 8 ≠ 0)) ps.length := by
  unfold laidP someM
  rw [fromF_len, (marks_of (mk_in hg hn).1 (mk_in hg hn).2).2.1]
  refine accB_ext _ _ (fun i hi => ?_)
  rw [(marks_of (mk_in hg hi).1 (mk_in hg hi).2).2.1]
/-- As StrataWho reckons it. -/
theorem laid_acc2 {ps : List ProdS} (hg : gmay ps = true) {n : Nat} (hn : n < ps.length) : laidP ps n = accB false (fun i => (decide (i = n) || (fromF ps n).getD i false) && decide (mk ps i / 4 % 8 ≠ 0)) ps.length := by
  rw [laid_acc hg hn]
  unfold accB
  rw [Bool.eq_iff_iff]
  simp only [Bool.or_eq_true, List.any_eq_true, List.mem_range, Bool.and_eq_true, decide_eq_true_eq, Bool.false_eq_true, false_or]
  constructor
  · rintro (h | ⟨i, hi, h1, h2⟩)
    · exact ⟨n, hn, .inl rfl, h⟩
    · exact ⟨i, hi, .inr h1, h2⟩
  · rintro ⟨i, hi, rfl | h1, h2⟩
    · exact .inl h2
    · exact .inr ⟨i, hi, h1, h2⟩
/-- Where none is bad there is an order. -/
theorem order_is {ps : List ProdS} (hg : gmay ps = true) {r : Option (List Int)} (h : OrdRel ps (filtN ps) [] r) (hn : r = none) : 0 ≤ badR ps := by
  have key : ∀ {S : Nat → Bool} {out : List Int} {r : Option (List Int)}, OrdRel ps S out r → (∀ n, S n = true → filtN ps n = true) → r = none → ∃ k, filtN ps k = true ∧ inN ps k k = true := by
    intro S out r h
    induction h with
    | done _ => intro _ h; cases h
    | @stuck S out n h1 h2 =>
      intro hS _
      obtain ⟨k, hk, hkk⟩ := stuck_self hg (fun n hn => by have := hS n hn; unfold filtN at this; simp at this; exact this.1) h2 _ n (Nat.le_refl _) h1
      exact ⟨k, hS k hk, hkk⟩
    | step _ _ _ ih =>
      intro hS hr
      exact ih (fun m hm => by simp at hm; exact hS m hm.1) hr
  obtain ⟨k, hk, hkk⟩ := key h (fun n h => h) hn
  have hkl := inN_lt hkk
  rcases bad_cases hg with ⟨_, h2⟩ | ⟨n, h1, _⟩
  · have := h2 k hkl hk
    unfold badP at this
    unfold inN at hkk
    rw [hkk] at this
    cases this
  · omega
/-- Who is within hangs on the alternatives alone. -/
theorem fromF_alts {ps : List ProdS} {f : ProdS → ProdS} (h : ∀ p, (f p).a = p.a) (n : Int) : fromF (ps.map f) n = fromF ps n := by
  have h1 : ∀ q k, stepF (ps.map f) q k = stepF ps q k := fun q k => by
    unfold stepF
    rw [List.getElem?_map]
    cases ps[k]? with
    | none => rfl
    | some p => simp only [Option.map_some, h p]
  have h2 : ∀ k q, passF (ps.map f) k q = passF ps k q := fun k q => by
    induction k with
    | zero => rfl
    | succ k ih => rw [passF_succ, passF_succ, ih, h1]
  have h3 : ∀ g q, fromL (ps.map f) g q = fromL ps g q := fun g => by
    induction g with
    | zero => intro q; rfl
    | succ g ih =>
      intro q
      unfold fromL
      rw [List.length_map, h2]
      split
      · rfl
      · exact ih _
  unfold fromF
  rw [List.length_map, h3]
/-- Without filters. -/
def bareP (p : ProdS) : ProdS := ⟨p.a, p.marks / 4 * 4, []⟩
/-- With marks for filters alone. -/
def fewP (p : ProdS) : ProdS := ⟨p.a, p.marks % 4, p.nt⟩
theorem gmay_marks_map {ps : List ProdS} (hg : gmay ps = true) {f : ProdS → ProdS} (ha : ∀ p, (f p).a = p.a) (hm : ∀ p ∈ ps, 0 ≤ (f p).marks ∧ (f p).marks ≤ 63) (hn : ∀ p ∈ ps, rmay p.nt = true → rmay (f p).nt = true) : gmay (ps.map f) = true := by
  unfold gmay at hg ⊢
  rw [List.length_map]
  simp only [Bool.and_eq_true, Bool.not_eq_true', List.any_eq_false, decide_eq_true_eq] at hg ⊢
  refine ⟨⟨fun q hq => ?_, hg.1.2⟩, hg.2⟩
  obtain ⟨p, hp, rfl⟩ := List.mem_map.1 hq
  have h1 := hg.1.1 p hp
  have h2 := hm p hp
  unfold prodBad at h1 ⊢
  simp only [Bool.not_eq_true, Bool.or_eq_false_iff, decide_eq_false_iff_not, Bool.not_eq_false'] at h1 ⊢
  rw [ha p]
  exact ⟨⟨⟨⟨⟨h1.1.1.1.1.1, h1.1.1.1.1.2⟩, by omega⟩, by omega⟩, hn p hp h1.1.2⟩, h1.2⟩
theorem less_plain {ps : List ProdS} (hg : gmay ps = true) : gmay (ps.map bareP) = true ∧ gmay (ps.map fewP) = true ∧ badR (ps.map bareP) = -1 ∧ laidR (ps.map bareP) = -1 ∧ (∀ r, OrdRel (ps.map bareP) (filtN (ps.map bareP)) [] r → r = some []) ∧ laidR (ps.map fewP) = -1 ∧ (badR ps = -1 → badR (ps.map fewP) = -1) := by
  have hgm := gmay_marks hg
  have g1 := gmay_marks_map hg (f := bareP) (fun _ => rfl) (fun p hp => by have := hgm p hp; simp only [bareP]; omega) (fun p _ _ => by simp [bareP, rmay])
  have g2 := gmay_marks_map hg (f := fewP) (fun _ => rfl) (fun p hp => by have := hgm p hp; simp only [fewP]; omega) (fun p _ h => h)
  have nof : ∀ n, filtN (ps.map bareP) n = false := fun n => by
    by_cases hn : n < ps.length
    · rw [filtN_at (by simpa using hn)]
      simp only [List.getElem_map, filtB, bareP]
      have := hgm ps[n] (List.getElem_mem hn)
      rw [(marks_of this.1 this.2).2.2.1]
      simp
    · simp [filtN, hn]
  have mkf : ∀ n, n < ps.length → mk (ps.map fewP) n = mk ps n % 4 := fun n hn => by
    rw [mk_at (by simpa using hn), mk_at hn]
    simp [fewP]
  have sm : ∀ is k, (k = 28 ∨ k = 32) → is.length = ps.length → someM (ps.map fewP) is k = false := fun is k hk hl => by
    unfold someM
    rw [List.any_eq_false]
    intro i hi
    have hi' : i < ps.length := by rw [← hl]; simpa using hi
    rw [mkf i hi']
    have := mk_in hg hi'
    obtain ⟨_, _, _, _, e1, e2⟩ := marks_of this.1 this.2
    rcases hk with rfl | rfl
    · simp [e1]
    · simp [e2]
  refine ⟨g1, g2, ?_, ?_, fun r hr => ?_, ?_, fun hb => ?_⟩
  · rcases bad_cases g1 with h | ⟨n, _, _, h, _⟩
    · exact h.1
    · rw [nof] at h; cases h
  · rcases laid_cases g1 with h | ⟨n, _, _, h, _⟩
    · exact h.1
    · rw [nof] at h; cases h
  · exact hr.same (OrdRel.done nof)
  · rcases laid_cases g2 with h | ⟨n, _, hn, _, h, _⟩
    · exact h.1
    · exfalso
      have hn' : n < ps.length := by simpa using hn
      unfold laidP at h
      rw [mkf n hn', sm _ 28 (.inl rfl) (by rw [fromF_len]; simp)] at h
      have := mk_in hg hn'
      rw [(marks_of this.1 this.2).2.2.2.2.1] at h
      cases h
  · rcases bad_cases g2 with h | ⟨n, _, hn, hf, h, _⟩
    · exact h.1
    · exfalso
      have hn' : n < ps.length := by simpa using hn
      rcases bad_cases hg with ⟨_, h2⟩ | ⟨m, e, _⟩
      · have hf' : filtN ps n = true := by
          rw [filtN_at hn] at hf
          rw [filtN_at hn']
          simp only [List.getElem_map, filtB, fewP] at hf ⊢
          have := hgm ps[n] (List.getElem_mem hn')
          rw [(marks_of this.1 this.2).2.2.2.1] at hf
          exact hf
        have h3 := h2 n hn' hf'
        unfold badP at h h3
        rw [sm _ 32 (.inr rfl) (by rw [fromF_len]; simp), fromF_alts (f := fewP) (fun _ => rfl)] at h
        rw [Bool.or_false] at h
        rw [h] at h3
        cases h3
      · omega
end Go.Proofs.YtkminfdblimiiaaGreatDoor
