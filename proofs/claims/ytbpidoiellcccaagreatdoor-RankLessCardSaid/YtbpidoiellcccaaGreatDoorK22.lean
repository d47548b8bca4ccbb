/- By whom one may begin: the walk of null.Lefts. -/
import Derived.Test.YtbpidoiellcccaaGreatDoorK19
import Derived.Test.YtbpidoiellcccaaGreatDoorK14
import Derived.Test.YtbpidoiellcccaaGreatDoorK21
import Derived.Test.YtbpidoiellcccaaGreatDoorK15
import Derived.Test.YtbpidoiellcccaaGreatDoorK1
set_option linter.unusedVariables false
set_option linter.unusedSimpArgs false
namespace Go.Proofs.YtbpidoiellcccaaGreatDoor
open Go Go.RowKit Go.MapKept

theorem SlOf.take {α : Type} {R : List Nat → World → α → Array Value → Prop} {S : List Nat} {w : World} {k : Nat} {A : Option Addr} {C : Nat} {xs : List α} (h : SlOf R S w k (.slice A xs.length C) xs) (i : Nat) (hi : i ≤ xs.length) : SlOf R S w k (.slice A (xs.take i).length C) (xs.take i) := by
  obtain ⟨rows, ⟨a, c, hv, hm, hr⟩, h2, h3⟩ := h
  simp only [Value.slice.injEq] at hv
  obtain ⟨rfl, _, rfl⟩ := hv
  refine ⟨rows.take i, ⟨A, C, ?_, ?_, fun hp => ?_⟩, by simp [h2], fun j hj hj' => ?_⟩
  · simp only [List.length_take]; rw [h2]
  · simp only [List.length_take]; omega
  · obtain ⟨b, o, ha, hb, hc⟩ := hr (by simp only [List.length_take] at hp; omega)
    refine ⟨b, o, ha, hb, fun j hj => ?_⟩
    simp only [List.getElem_take]
    exact hc j (by simp only [List.length_take] at hj; omega)
  · simp only [List.getElem_take]
    exact h3 j (by simp only [List.length_take] at hj; omega) (by simp only [List.length_take] at hj'; omega)
/-- The nonterminals by which the first k symbols let one begin. -/
def leftsTo (L : List Int) (a : List SymS) (k : Nat) : List Int := (List.range k).flatMap fun i => match a[i]? with
  | some s => if s.k = 2 ∧ onlyF L (a.take i) = true then [s.n] else []
  | none => []
theorem leftsTo_succ (L : List Int) (a : List SymS) (k : Nat) (h : k < a.length) : leftsTo L a (k + 1) = leftsTo L a k ++ (if a[k].k = 2 ∧ onlyF L (a.take k) = true then [a[k].n] else []) := by
  unfold leftsTo
  rw [List.range_succ, List.flatMap_append]
  simp [h]
theorem leftsTo_len (L : List Int) (a : List SymS) : ∀ k, k ≤ a.length → (leftsTo L a k).length ≤ k
  | 0, _ => by simp [leftsTo]
  | k + 1, h => by
    rw [leftsTo_succ L a k (by omega)]
    have := leftsTo_len L a k (by omega)
    split <;> simp <;> omega
def leftsAll (L : List Int) (al : List (List SymS)) : List Int := al.flatMap fun a => leftsTo L a a.length
theorem leftsAll_succ (L : List Int) (al : List (List SymS)) (j : Nat) (h : j < al.length) : leftsAll L (al.take (j + 1)) = leftsAll L (al.take j) ++ leftsTo L al[j] al[j].length := by
  unfold leftsAll
  rw [List.take_succ_eq_append_getElem h, List.flatMap_append]
  simp
theorem leftsAll_len (L : List Int) : ∀ al : List (List SymS), (leftsAll L al).length ≤ lens al
  | [] => by simp [leftsAll]
  | a :: al => by
    have ih := leftsAll_len L al
    have h1 := leftsTo_len L a a.length (Nat.le_refl _)
    simp only [leftsAll, List.flatMap_cons, List.length_append, lens, List.map_cons, List.sum_cons] at ih ⊢
    omega
theorem lens_take9 (al : List (List SymS)) (j : Nat) (h : j < al.length) : lens (al.take j) + al[j].length ≤ lens al := by
  unfold lens
  conv => rhs; rw [← List.take_append_drop j al]
  rw [List.map_append, List.sum_append, List.drop_eq_getElem_cons h, List.map_cons, List.sum_cons]
  omega
/-- By whom one may begin, al null.Lefts answers. -/
def leftsR (ps : List ProdS) (n : Int) : List Int := if gmay ps = true ∧ 0 ≤ n ∧ n < ps.length then compI (sortI (leftsAll (emptyF ps) ((ps[n.toNat]?).map (·.a) |>.getD []))) else []
/-- The head of the rounds: what has been gathered. -/
def GotAt (w2 : World) (v : Value) (l : List Int) (wr : World) : Prop := OwnL IntRow [] wr w2.heap.size 3 1 v l ∧ Keep [] w2 wr
theorem ints_flat (l : List Int) : ∀ rows : List (Array Value), rows.length = l.length → (∀ i (h : i < l.length) (h' : i < rows.length), rows[i] = #[.int .i64 l[i]]) → rows.flatMap Array.toList = l.map (Value.int .i64) := by
  intro rows h1 h2
  have : rows = l.map (fun x => #[Value.int .i64 x]) := by
    refine List.ext_getElem (by simp [h1]) (fun i hi hi' => ?_)
    rw [h2 i (by omega) hi, List.getElem_map]
  rw [this]
  clear this h2 h1
  induction l with
  | nil => rfl
  | cons a l ih => simp [ih]
theorem GotAt.ints {w2 wr : World} {v : Value} {l : List Int} (h : GotAt w2 v l wr) (hl : l.length ≤ 1000000) : IntV wr w2.heap.size v l := by
  have hs := h.1.slice
  have hr := h.1.read (S' := []) intRow_stab (by simp) (by simp)
  have hty := OwnL.type h.1
  have hba := h.1.base
  obtain ⟨A, C, rfl⟩ := hs
  obtain ⟨A', C', hv, hm, hc⟩ := SlOf.at hr
  simp only [Value.slice.injEq, true_and] at hv
  obtain ⟨rfl, rfl⟩ := hv
  by_cases h0 : l = []
  · subst h0
    exact .inl ⟨rfl, A, C, rfl⟩
  · have hp : 0 < l.length := List.length_pos_iff.2 h0
    obtain ⟨b, o, rfl, _, hcell⟩ := hc hp
    have hb := hba b (by simp [ownB, Value.ownBlock])
    obtain ⟨cs, hcs⟩ := hty b (by simp [ownB, Value.ownBlock])
    refine .inr ⟨b, o, C, rfl, hb.1, hb.2, hm.2, hl, fun j hj => ?_⟩
    have hj' : j < l.length := by simpa using hj
    obtain ⟨row, _, hrow, hR⟩ := hcell j hj'
    have e0 := hrow 0 (by omega)
    rw [hR] at e0
    simp at e0
    refine ⟨?_, by simp [World.frozen?, hcs]⟩
    rw [getElem!_pos _ j hj]
    simpa using e0
end Go.Proofs.YtbpidoiellcccaaGreatDoor
namespace Go.Proofs.YtbpidoiellcccaaGreatDoor
open Go Go.RowKit Go.MapKept

theorem IntV.cells {w : World} {base : Nat} {v : Value} {xs : List Int} (h : IntV w base v xs) : ∃ A C, v = .slice A xs.length C ∧ xs.length ≤ 1000000 ∧ (0 < xs.length → ∃ b o, A = some ⟨b, o, none⟩ ∧ ∀ j (hj : j < xs.length), w.cell? ⟨b, o + j, none⟩ = some (.int .i64 xs[j])) := by
  rcases h with ⟨rfl, A, C, rfl⟩ | ⟨b, o, C, rfl, _, _, _, hl, hH⟩
  · exact ⟨A, C, rfl, by simp, fun h => by simp at h⟩
  · refine ⟨_, C, rfl, hl, fun _ => ⟨b, o, rfl, fun j hj => ?_⟩⟩
    have := (hH j (by simpa using hj)).1
    rw [getElem!_pos _ j (by simpa using hj)] at this
    simpa using this
theorem leftsR_nt (ps : List ProdS) (n : Nat) (hn : n < ps.length) (z : Int) (hz : z ∈ leftsR ps n) : ∃ s, Nt ps n s ∧ s.n = z := by
  unfold leftsR at hz
  split at hz
  · have h1 := (compI_sub _).2 z hz
    unfold sortI at h1
    rw [List.mem_mergeSort] at h1
    simp only [Int.toNat_natCast, List.getElem?_eq_getElem hn, Option.map_some, Option.getD_some] at h1
    unfold leftsAll at h1
    obtain ⟨a, ha, h1⟩ := List.mem_flatMap.1 h1
    unfold leftsTo at h1
    obtain ⟨i, hi, h1⟩ := List.mem_flatMap.1 h1
    have hi' : i < a.length := List.mem_range.1 hi
    rw [List.getElem?_eq_getElem hi'] at h1
    simp only at h1
    split at h1
    · rename_i hc
      simp at h1
      exact ⟨a[i], ⟨ps[n], List.getElem?_eq_getElem hn, List.mem_flatten.2 ⟨a, ha, List.getElem_mem _⟩, hc.1⟩, h1.symm⟩
    · simp at h1
  · simp at hz
theorem IntV.keep {w w' : World} {base : Nat} {v : Value} {xs : List Int} {S : List Nat} (h : IntV w base v xs) (K : Keep S w w') (hS : ∀ b ∈ S, b < base) : IntV w' base v xs := by
  rcases h with h | ⟨b, o, C, h1, h2, h3, h4, h5, h6⟩
  · exact .inl h
  · refine .inr ⟨b, o, C, h1, h2, Nat.lt_of_lt_of_le h3 K.size, h4, h5, fun j hj => ?_⟩
    have hb := K.block b h3 (fun hb => by have := hS b hb; omega)
    obtain ⟨c1, c2⟩ := h6 j hj
    exact ⟨by rw [← c1]; simp only [World.cell?, hb], by rw [← c2]; simp only [World.frozen?, hb]⟩
end Go.Proofs.YtbpidoiellcccaaGreatDoor
namespace Go.Proofs.YtbpidoiellcccaaGreatDoor
open Go Go.RowKit Go.MapKept

theorem sortI_sorted (xs : List Int) : (sortI xs).Pairwise (fun a b => a ≤ b) := by
  have h := List.pairwise_mergeSort (le := fun x y : Int => decide (x ≤ y)) (fun a b c h1 h2 => by simp at h1 h2 ⊢; omega) (fun a b => by simp; omega) xs
  exact h.imp (fun h => by simpa using h)
theorem compI_mem (xs : List Int) (z : Int) (hz : z ∈ xs) : z ∈ compI xs := by
  have key : ∀ j, j < xs.length → xs.toArray[j]! ∈ compI xs := by
    intro j
    induction j with
    | zero =>
      intro h
      unfold compI Lib.compact Lib.compactUpTo
      exact List.mem_map.2 ⟨0, List.mem_filter.2 ⟨List.mem_range.2 h, Lib.keeps_lt_one _ 0 (by omega)⟩, rfl⟩
    | succ j ih =>
      intro h
      by_cases he : xs.toArray[j + 1]! = xs.toArray[j]!
      · rw [he]; exact ih (by omega)
      · unfold compI Lib.compact Lib.compactUpTo
        exact List.mem_map.2 ⟨j + 1, List.mem_filter.2 ⟨List.mem_range.2 h, Lib.keeps_pos (by simpa using he)⟩, rfl⟩
  obtain ⟨j, hj, rfl⟩ := List.getElem_of_mem hz
  have := key j hj
  rw [getElem!_pos xs.toArray j (by simpa using hj)] at this
  simpa using this
theorem compI_strict (xs : List Int) (h : xs.Pairwise (fun a b => a ≤ b)) : (compI xs).Pairwise (fun a b => a < b) := by
  unfold compI Lib.compact Lib.compactUpTo
  rw [List.pairwise_map, List.pairwise_filter]
  refine List.Pairwise.imp_of_mem ?_ (List.pairwise_lt_range (n := xs.length))
  intro i j hi hj hij _ hk
  have hj' := List.mem_range.1 hj
  have hget : ∀ k, k < xs.length → xs.toArray[k]! = xs[k]! := fun k hk => by
    rw [getElem!_pos xs.toArray k (by simpa using hk), getElem!_pos xs k hk]; simp
  have hne : xs.toArray[j]! ≠ xs.toArray[j - 1]! := by
    intro e
    have := Lib.keeps_neg (d := xs.toArray) (m := j) (by omega) e
    rw [this] at hk
    cases hk
  have hle : ∀ a b, a ≤ b → b < xs.length → xs.toArray[a]! ≤ xs.toArray[b]! := fun a b hab hb => by
    by_cases e : a = b
    · rw [e]; exact Int.le_refl _
    · rw [hget a (by omega), hget b hb, getElem!_pos xs a (by omega), getElem!_pos xs b hb]
      exact List.pairwise_iff_getElem.1 h a b (by omega) hb (by omega)
  have h1 := hle i (j - 1) (by omega) (by omega)
  have h2 := hle (j - 1) j (by omega) hj'
  omega
theorem leftsR_strict (ps : List ProdS) (n : Int) : (leftsR ps n).Pairwise (fun a b => a < b) := by
  unfold leftsR
  split
  · exact compI_strict _ (sortI_sorted _)
  · exact List.Pairwise.nil
/-- Is there such a symbol among these? -/
def symIn (a : List SymS) (z : Int) : Bool := a.any (fun s => decide (s.k = 2) && decide (s.n = z))
def altIn (al : List (List SymS)) (z : Int) : Bool := al.any (fun a => symIn a z)
theorem leftsR_alt (ps : List ProdS) (n : Nat) (hn : n < ps.length) (z : Int) (hz : z ∈ leftsR ps n) : altIn ps[n].a z = true := by
  obtain ⟨s, ⟨p, hp, hs, h2⟩, rfl⟩ := leftsR_nt ps n hn z hz
  rw [List.getElem?_eq_getElem hn] at hp
  obtain rfl := Option.some.inj hp
  obtain ⟨a, ha, hs⟩ := List.mem_flatten.1 hs
  unfold altIn symIn
  exact List.any_eq_true.2 ⟨a, ha, List.any_eq_true.2 ⟨s, hs, by simp [h2]⟩⟩
theorem leftsR_first (ps : List ProdS) (n : Nat) (hg : gmay ps = true) (hn : n < ps.length) (a : List SymS) (ha : a ∈ ps[n].a) (h0 : 0 < a.length) (h2 : a[0].k = 2) : a[0].n ∈ leftsR ps n := by
  unfold leftsR
  rw [if_pos ⟨hg, by omega, by omega⟩]
  refine compI_mem _ _ ?_
  unfold sortI
  rw [List.mem_mergeSort]
  simp only [Int.toNat_natCast, List.getElem?_eq_getElem hn, Option.map_some, Option.getD_some]
  unfold leftsAll leftsTo
  refine List.mem_flatMap.2 ⟨a, ha, List.mem_flatMap.2 ⟨0, List.mem_range.2 h0, ?_⟩⟩
  rw [List.getElem?_eq_getElem h0]
  simp only
  rw [if_pos ⟨h2, by simp [onlyF]⟩]
  simp
end Go.Proofs.YtbpidoiellcccaaGreatDoor
namespace Go.Proofs.YtbpidoiellcccaaGreatDoor
open Go Go.RowKit Go.MapKept

section
variable (lf : Nat → Nat → Bool)
/-- n is left, and none that it waits for is. -/
def Ready (S : Nat → Bool) (n : Nat) : Prop := S n = true ∧ ∀ k, lf n k = true → S k = false
def del (S : Nat → Bool) (n : Nat) : Nat → Bool := fun m => S m && !decide (m = n)
/-- What is taken, always the least that is ready, till none is. -/
inductive RnkRel : (Nat → Bool) → List Int → Prop
  | done {S : Nat → Bool} : (∀ n, ¬ Ready lf S n) → RnkRel S []
  | step {S : Nat → Bool} {n : Nat} {r : List Int} : Ready lf S n → (∀ m, Ready lf S m → n ≤ m) → RnkRel (del S n) r → RnkRel S ((n : Int) :: r)
/-- What was taken, and what is left. -/
inductive RnkTo (S0 : Nat → Bool) : List Int → (Nat → Bool) → Prop
  | nil : RnkTo S0 [] S0
  | snoc {o : List Int} {S : Nat → Bool} {n : Nat} : RnkTo S0 o S → Ready lf S n → (∀ m, Ready lf S m → n ≤ m) → RnkTo S0 (o ++ [(n : Int)]) (del S n)
/-- One comes to another one. -/
inductive Comes : Nat → Nat → Prop
  | one {n k : Nat} : lf n k = true → Comes n k
  | more {n j k : Nat} : lf n j = true → Comes j k → Comes n k
end
variable {lf : Nat → Nat → Bool}
theorem Comes.trans {n j k : Nat} (h : Comes lf n j) (h2 : Comes lf j k) : Comes lf n k := by
  induction h with
  | one h => exact .more h h2
  | more h _ ih => exact .more h (ih h2)
theorem Comes.snoc {n j k : Nat} (h : Comes lf n j) (h2 : lf j k = true) : Comes lf n k := h.trans (.one h2)
theorem RnkRel.same {S : Nat → Bool} {r : List Int} (h : RnkRel lf S r) : ∀ {t}, RnkRel lf S t → r = t := by
  induction h with
  | done h => intro t h2; cases h2 with
    | done _ => rfl
    | step h3 _ _ => exact absurd h3 (h _)
  | @step S n r h1 h2 _ ih => intro t h3; cases h3 with
    | done h4 => exact absurd h1 (h4 _)
    | @step _ m r' k1 k2 k3 =>
      obtain rfl : n = m := Nat.le_antisymm (h2 _ k1) (k2 _ h1)
      rw [ih k3]
theorem RnkTo.rel {S0 S : Nat → Bool} {o : List Int} (h : RnkTo lf S0 o S) : ∀ {r}, RnkRel lf S r → RnkRel lf S0 (o ++ r) := by
  induction h with
  | nil => intro r h; exact h
  | snoc _ h1 h2 ih => intro r h; rw [List.append_assoc]; exact ih (.step h1 h2 h)
theorem RnkTo.end {S0 S : Nat → Bool} {o : List Int} (h : RnkTo lf S0 o S) (hd : ∀ n, ¬ Ready lf S n) : RnkRel lf S0 o := by
  have := h.rel (.done hd)
  simpa using this
/-- Each relation is such a way. -/
theorem RnkRel.way {S0 S : Nat → Bool} {r : List Int} (h : RnkRel lf S r) : ∀ {o}, RnkTo lf S0 o S → ∃ T, RnkTo lf S0 (o ++ r) T ∧ ∀ n, ¬ Ready lf T n := by
  induction h with
  | done h => intro o h2; exact ⟨_, by simpa using h2, h⟩
  | @step S n r h1 h2 _ ih =>
    intro o h3
    obtain ⟨T, k1, k2⟩ := ih (h3.snoc h1 h2)
    exact ⟨T, by simpa using k1, k2⟩
theorem del_self (S : Nat → Bool) (n : Nat) : del S n n = false := by simp [del]
theorem del_ne (S : Nat → Bool) {n m : Nat} (h : m ≠ n) : del S n m = S m := by simp [del, h]
theorem RnkTo.sub {S0 S : Nat → Bool} {o : List Int} (h : RnkTo lf S0 o S) : ∀ m, S m = true → S0 m = true := by
  induction h with
  | nil => exact fun _ h => h
  | snoc _ _ _ ih => exact fun m h => ih m (by simp [del] at h; exact h.1)
theorem RnkTo.mem {S0 S : Nat → Bool} {o : List Int} (h : RnkTo lf S0 o S) : ∀ z, z ∈ o ↔ ∃ m : Nat, z = m ∧ S0 m = true ∧ S m = false := by
  induction h with
  | nil => intro z; simp
  | @snoc o S n h h1 _ ih =>
    intro z
    rw [List.mem_append, ih z, List.mem_singleton]
    constructor
    · rintro (⟨m, rfl, h2, h3⟩ | rfl)
      · exact ⟨m, rfl, h2, by simp [del, h3]⟩
      · exact ⟨n, rfl, h.sub n h1.1, del_self S n⟩
    · rintro ⟨m, rfl, h2, h3⟩
      by_cases e : m = n
      · subst e; exact .inr rfl
      · rw [del_ne S e] at h3; exact .inl ⟨m, rfl, h2, h3⟩
theorem RnkTo.len {S0 S : Nat → Bool} {o : List Int} {N : Nat} (hN : ∀ n, S0 n = true → n < N) (h : RnkTo lf S0 o S) : o.length + cntB N S = cntB N S0 := by
  induction h with
  | nil => simp
  | @snoc o S n h h1 _ ih =>
    have := cntB_del N (f := S) (hN n (h.sub n h1.1)) h1.1
    rw [List.length_append, List.length_singleton]
    unfold del
    omega
theorem RnkTo.nodup {S0 S : Nat → Bool} {o : List Int} (h : RnkTo lf S0 o S) : o.Nodup := by
  induction h with
  | nil => exact List.nodup_nil
  | @snoc o S n h h1 _ ih =>
    rw [List.nodup_append]
    refine ⟨ih, by simp, fun a ha b hb => ?_⟩
    obtain rfl : b = n := by simpa using hb
    rintro rfl
    obtain ⟨m, e, _, h3⟩ := (h.mem _).1 ha
    obtain rfl : n = m := by omega
    rw [h1.1] at h3; cases h3
/-- Who is out is in no circle, nor is one that it comes to left. -/
theorem RnkTo.out {S0 S : Nat → Bool} {o : List Int} (hS : ∀ n k, lf n k = true → S0 n = true) (h : RnkTo lf S0 o S) : ∀ m, S0 m = true → S m = false → (∀ k, Comes lf m k → S k = false) ∧ ¬ Comes lf m m := by
  induction h with
  | nil => intro m h1 h2; rw [h1] at h2; cases h2
  | @snoc o S n h h1 _ ih =>
    have key : ∀ k, Comes lf n k → S k = false := fun k hk => by
      cases hk with
      | one h2 => exact h1.2 _ h2
      | @more _ j _ h2 h3 =>
        have h4 := h1.2 _ h2
        have h5 : S0 j = true := by cases h3 with
          | one h6 => exact hS _ _ h6
          | more h6 _ => exact hS _ _ h6
        exact (ih j h5 h4).1 k h3
    intro m h2 h3
    by_cases e : m = n
    · subst e
      refine ⟨fun k hk => ?_, fun hk => ?_⟩
      · unfold del; rw [key k hk]; rfl
      · have := key m hk
        rw [h1.1] at this; cases this
    · rw [del_ne S e] at h3
      obtain ⟨i1, i2⟩ := ih m h2 h3
      exact ⟨fun k hk => by unfold del; rw [i1 k hk]; rfl, i2⟩
/-- Where all that are left wait for one that is left some one is in a circle. -/
theorem circle_is {N : Nat} : ∀ c (S : Nat → Bool) (n : Nat), cntB N S ≤ c → (∀ m, S m = true → m < N) → S n = true → (∀ m, S m = true → ∃ k, Comes lf m k ∧ S k = true) → ∃ m, S m = true ∧ Comes lf m m := by
  classical
  intro c
  induction c with
  | zero =>
    intro S n hc hN hn _
    have := cntB_none (k := N) (f := S) (by omega) n (hN n hn)
    rw [hn] at this; cases this
  | succ c ih =>
    intro S n hc hN hn h
    by_cases e : Comes lf n n
    · exact ⟨n, hn, e⟩
    · obtain ⟨k, h1, h2⟩ := h n hn
      have hlt : cntB N (fun m => S m && decide (Comes lf n m)) ≤ c := by
        have h3 := cntB_del N (f := S) (hN n hn) hn
        have h4 : cntB N (fun m => S m && decide (Comes lf n m)) ≤ cntB N (fun m => S m && !decide (m = n)) := by
          unfold cntB
          refine List.countP_mono_left (fun m _ hm => ?_)
          simp only [Bool.and_eq_true, decide_eq_true_eq, Bool.not_eq_true', decide_eq_false_iff_not] at hm ⊢
          exact ⟨hm.1, fun e2 => e (by rw [← e2]; rw [e2] at hm; exact e2 ▸ hm.2)⟩
        omega
      obtain ⟨m, k1, k2⟩ := ih (fun m => S m && decide (Comes lf n m)) k hlt (fun m hm => hN m (by simp at hm; exact hm.1)) (by simp [h1, h2]) (fun m hm => by
        simp only [Bool.and_eq_true, decide_eq_true_eq] at hm
        obtain ⟨j, j1, j2⟩ := h m hm.1
        exact ⟨j, j1, by simp [j2, hm.2.trans j1]⟩)
      simp only [Bool.and_eq_true] at k1
      exact ⟨m, k1.1, k2⟩
/-- There are fewer than all just if some one is in a circle. -/
theorem RnkRel.few {N : Nat} {r : List Int} (hl : ∀ n k, lf n k = true → n < N ∧ k < N) (h : RnkRel lf (fun n => decide (n < N)) r) : r.length ≤ N ∧ (r.length < N ↔ ∃ n, n < N ∧ Comes lf n n) := by
  obtain ⟨T, h1, h2⟩ := h.way .nil
  rw [List.nil_append] at h1
  have hall : cntB N (fun n => decide (n < N)) = N := by
    unfold cntB
    have : (List.range N).countP (fun n => decide (n < N)) = (List.range N).length := List.countP_eq_length.2 (fun n hn => by simpa using List.mem_range.1 hn)
    rw [this, List.length_range]
  have hlen := h1.len (N := N) (fun n hn => by simpa using hn)
  rw [hall] at hlen
  refine ⟨by omega, fun hlt => ?_, fun ⟨n, hn, hc⟩ => ?_⟩
  · obtain ⟨n, hn, hT⟩ := cntB_ex (k := N) (f := T) (by omega)
    obtain ⟨m, hm, hc⟩ := circle_is (N := N) (lf := lf) _ T n (Nat.le_refl _) (fun m hm => by simpa using h1.sub m hm) hT (fun m hm => by
      have := h2 m
      unfold Ready at this
      rw [not_and] at this
      have := this hm
      obtain ⟨k, hk⟩ := Classical.not_forall.1 this
      rw [Classical.not_imp] at hk
      exact ⟨k, .one hk.1, by simpa using hk.2⟩)
    exact ⟨m, by simpa using h1.sub m hm, hc⟩
  · have : T n = true := by
      cases e : T n with
      | true => rfl
      | false => exact absurd hc (h1.out (fun n k h => by simpa using (hl n k h).1) n (by simpa using hn) e).2
    have : 0 < cntB N T := by
      have := cntB_del N hn this
      omega
    omega
/-- The k-th of a whole order waits for those ahead of it alone. -/
theorem RnkTo.ahead {S0 S : Nat → Bool} {o : List Int} (hS : ∀ n k, lf n k = true → S0 k = true) (h : RnkTo lf S0 o S) : ∀ a b (n : Nat), o = a ++ (n : Int) :: b → ∀ k, lf n k = true → (k : Int) ∈ a := by
  induction h with
  | nil => intro a b n e; simp at e
  | @snoc o S m h h1 _ ih =>
    intro a b n e k hk
    rcases List.eq_nil_or_concat b with rfl | ⟨b', x, rfl⟩
    · obtain ⟨e1, e2⟩ := List.append_inj' e rfl
      simp at e2
      obtain rfl : m = n := by omega
      subst e1
      exact (h.mem k).2 ⟨k, rfl, hS _ _ hk, h1.2 k hk⟩
    · have e' : o ++ [(m : Int)] = (a ++ (n : Int) :: b') ++ [x] := by rw [e]; simp
      obtain ⟨e1, _⟩ := List.append_inj' e' rfl
      exact ih a b' n e1 k hk
/-- Where none waits the numbers are in order. -/
theorem RnkRel.plain {N : Nat} {r : List Int} (hl : ∀ n k, lf n k = false) (h : RnkRel lf (fun n => decide (n < N)) r) : r = (List.range N).map (fun (n : Nat) => (n : Int)) := by
  refine h.same ?_
  have key : ∀ k j, k + j = N → RnkRel lf (fun n => decide (n < N) && decide (k ≤ n)) ((List.range' k j).map (fun (n : Nat) => (n : Int))) := by
    intro k j
    induction j generalizing k with
    | zero =>
      intro e
      refine .done (fun n hn => ?_)
      have := hn.1
      simp at this
      omega
    | succ j ih =>
      intro e
      rw [List.range'_succ, List.map_cons]
      refine .step ⟨by simp; omega, fun m hm => by rw [hl] at hm; cases hm⟩ (fun m hm => by have := hm.1; simp at this; omega) ?_
      have e2 : del (fun n => decide (n < N) && decide (k ≤ n)) k = fun n => decide (n < N) && decide (k + 1 ≤ n) := by
        funext n
        unfold del
        rw [Bool.eq_iff_iff]
        simp only [Bool.and_eq_true, decide_eq_true_eq, Bool.not_eq_true', decide_eq_false_iff_not]
        omega
      rw [e2]
      exact ih (k + 1) (by omega)
  have := key 0 N (by omega)
  rw [List.range_eq_range']
  simpa using this
end Go.Proofs.YtbpidoiellcccaaGreatDoor
namespace Go.Proofs.YtbpidoiellcccaaGreatDoor
open Go Go.RowKit Go.MapKept

theorem IntV.low {w : World} {base base' : Nat} {v : Value} {xs : List Int} (h : IntV w base v xs) (hb : base' ≤ base) : IntV w base' v xs := by
  rcases h with h | ⟨b, o, C, h1, h2, h3⟩
  · exact .inl h
  · exact .inr ⟨b, o, C, h1, Nat.le_trans hb h2, h3⟩
set_option maxRecDepth 20000 in
set_option maxHeartbeats 4000000 in
theorem lefts_any (A K : Option Addr) (C m D : Nat) (n : Int) (S : List Nat) (ps : List ProdS) (w : World) (HP : Prods S w (.slice A ps.length C) ps) (hS : ∀ b ∈ S, b < w.heap.size) (hlp : ps.length ≤ 9223372036854775807) :
    Calls Tryz.prog 19 #[.agg #[.slice A ps.length C, .slice K m D], .int .i64 n] w fun e w' => (∃ v, e = .returned v ∧ IntV w' w.heap.size v (leftsR ps n)) ∧ Keep [] w w' := by
  have K0 := (Keep.refl [] w).alloc (.cells #[.slice A ps.length C, .slice K m D] 25)
  have HP0 : Prods S _ (.slice A ps.length C) ps := SlOf.move HP prodRow_stab (by omega) K0 (by simp) (fun x hx => .inl hx)
  have B0 := Blk.new w #[.slice A ps.length C, .slice K m D] 25
  have hcall := may_any S (.slice A ps.length C) (.slice K m D) ps _ HP0
  have HC := Lib.hid hcall; clear hcall
  cases hg : gmay ps with
  | false =>
    have hr : leftsR ps n = [] := by simp [leftsR, hg]
    rw [hr]
    clear hr
    go_enter Tryz.func19, Tryz.ntmps19
    go_wp2_with fail
    refine HC.out.mono ?_
    rintro e w1 ⟨rfl, K1⟩
    rw [hg]
    go_wp2
    go_ret
    exact ⟨⟨_, rfl, .inl ⟨rfl, _, _, rfl⟩⟩, K0.trans K1⟩
  | true =>
    obtain ⟨hl0, hl1⟩ := gmay_len hg
    have HG := Lib.hid hg
    by_cases hn0 : n < 0
    · have hr : leftsR ps n = [] := by unfold leftsR; rw [if_neg]; rintro ⟨_, h, _⟩; omega
      rw [hr]
      clear hr
      go_enter Tryz.func19, Tryz.ntmps19
      go_wp2_with fail
      refine HC.out.mono ?_
      rintro e w1 ⟨rfl, K1⟩
      rw [hg]
      go_wp2
      go_ret
      exact ⟨⟨_, rfl, .inl ⟨rfl, _, _, rfl⟩⟩, K0.trans K1⟩
    · obtain ⟨k, rfl⟩ : ∃ k : Nat, n = k := ⟨n.toNat, by omega⟩
      by_cases hlt : k < ps.length
      · skip
        have hlt' : (k : Int) < (ps.length : Int) := by omega
        have hr : leftsR ps k = compI (sortI (leftsAll (emptyF ps) ps[k].a)) := by
          unfold leftsR
          rw [if_pos ⟨hg, by omega, by omega⟩]
          simp [hlt]
        obtain ⟨R, hRes⟩ : ∃ R, R = compI (sortI (leftsAll (emptyF ps) ps[k].a)) := ⟨_, rfl⟩
        rw [hr, ← hRes]
        have HRS := Lib.hid hRes
        clear hr hRes
        have hlens := gmay_lens hg ps[k] (List.getElem_mem _)
        have HPP := Lib.hid HP0
        have HSS := Lib.hid hS
        clear HP0 HP hS
        go_enter Tryz.func19, Tryz.ntmps19
        go_wp2_with fail
        refine HC.out.mono ?_
        rintro e w1 ⟨rfl, K1⟩
        rw [hg]
        have B1 := B0.keep K1 (by simp)
        have b0 := B1.cell 0
        have b1 := B1.cell 1
        have K01 := K0.trans K1
        have hsz : w.heap.size ≤ w1.heap.size := K01.size
        have hcall2 := nullOf_any A K C m D S ps w1 (SlOf.move HPP.out prodRow_stab (by omega) K1 (by simp) (fun x hx => .inl hx)) (fun b hb => Nat.lt_of_lt_of_le (HSS.out b hb) hsz) (by omega)
        have HC2 := Lib.hid hcall2
        clear hcall2 HC B0
        go_wp2_with fail
        refine HC2.out.mono ?_
        rintro e w2 ⟨rfl, hF, K2⟩
        clear HC2 b0 b1
        have c0 := (B1.keep K2 (by simp)).cell 0
        have hP2 : Prods S w2 (.slice A ps.length C) ps := SlOf.move HPP.out prodRow_stab (by omega) (K1.trans K2) (by simp) (fun x hx => .inl hx)
        obtain ⟨_, _, hv, _, hrd⟩ := SlOf.at hP2
        simp only [Value.slice.injEq, true_and] at hv
        obtain ⟨rfl, rfl⟩ := hv
        obtain ⟨b, o, rfl, hb, hc⟩ := hrd (by omega)
        obtain ⟨prow, hz, hcell, hR⟩ := hc k hlt
        obtain ⟨A2, C2, N2, F2, rfl, hR2, hR3⟩ := hR
        have e0 : w2.cell? ⟨b, o + k * 3, none⟩ = some (.slice A2 ps[k].a.length C2) := hcell 0 (by omega)
        generalize ps[k] = p at e0 hR2 hR3 hlens HRS
        have HF := Lib.hid hF
        have HA := Lib.hid hR2
        have HKW := Lib.hid (K01.trans K2)
        have HLN := Lib.hid hlens
        generalize emptyF ps = L at HF HRS
        have hal : p.a.length ≤ 9223372036854775807 := by obtain ⟨_, ⟨_, _, _, hm, _⟩, h2, _⟩ := hR2; omega
        clear hcell hc hrd hz hP2 hR2 hR3 hF K2 K1 K01 B1 HPP hlens
        go_wp2
        clear c0 e0
        go_loopw [6, 34] (fun out i wr => ∃ j : Nat, j ≤ p.a.length ∧ i = .int .i64 j ∧ GotAt w2 out (leftsAll L (p.a.take j)) wr) (fun _ i _ => p.a.length - (intOf i).toNat)
        case atStart => exact ⟨0, by omega, rfl, OwnL.nil _ _ _ _ _, Keep.refl _ _⟩
        case round =>
          obtain ⟨j, hj, rfl, hGot⟩ := hrel
          by_cases hjl : j < p.a.length
          · have hjl' : (j : Int) < (p.a.length : Int) := by omega
            have HJL := Lib.hid hjl
            have HW : SlOf AltRow S w2 1 (.slice A2 p.a.length C2) p.a := HA.out
            obtain ⟨_, _, hv, _, hr2⟩ := SlOf.at HW
            simp only [Value.slice.injEq, true_and] at hv
            obtain ⟨rfl, rfl⟩ := hv
            obtain ⟨b2, o2, rfl, hb2, hc2⟩ := hr2 (by omega)
            obtain ⟨row, hz2, hcell2, hRr⟩ := hc2 j hjl
            obtain ⟨A3, C3, rfl, hR3⟩ := hRr
            have e0 := hcell2 0 (by omega)
            simp only [Nat.mul_one, Nat.add_zero] at e0
            have e0 := (Keep.cell hGot.2 (v := .slice A3 p.a[j].length C3) e0 (by simp))
            have HSUM : Hid (leftsAll L (p.a.take (j + 1)) = leftsAll L (p.a.take j) ++ leftsTo L p.a[j] p.a[j].length) := Lib.hid (leftsAll_succ L p.a j hjl)
            have HLE : Hid ((leftsAll L (p.a.take j)).length + p.a[j].length ≤ 1000000) := Lib.hid (by have h1 := leftsAll_len L (p.a.take j); have h2 := lens_take9 p.a j hjl; have := HLN.out; omega)
            generalize leftsAll L (p.a.take j) = G0 at hGot HSUM HLE
            generalize p.a[j] = a at e0 hR3 HSUM HLE
            have haL : a.length ≤ 9223372036854775807 := by have := HLE.out; omega
            have HR3 := Lib.hid hR3
            have KG := Lib.hid hGot.2
            have HT1 : Hid (GotAt w2 u6 (G0 ++ leftsTo L a 0) wr) := Lib.hid (by simpa [leftsTo] using hGot)
            clear hcell2 hc2 hr2 hz2 HW hR3 hGot
            obtain ⟨wo, rfl⟩ : ∃ wo : World, wo = wr := ⟨_, rfl⟩
            go_wp2
            clear e0
            go_loopw [6, 40] (fun out i wr => ∃ t : Nat, t ≤ a.length ∧ i = .int .i64 t ∧ GotAt w2 out (G0 ++ leftsTo L a t) wr) (fun _ i _ => a.length - (intOf i).toNat)
            case atStart => exact ⟨0, by omega, rfl, HT1.out⟩
            case round =>
              obtain ⟨t, ht, rfl, hGot⟩ := hrel
              by_cases htl : t < a.length
              · have htl' : (t : Int) < (a.length : Int) := by omega
                have HTL := Lib.hid htl
                have hYs : Syms S wr (.slice A3 a.length C3) a := SlOf.move HR3.out symRow_stab (by omega) hGot.2 (by simp) (fun x hx => .inl hx)
                obtain ⟨_, _, hv, _, hr3⟩ := SlOf.at hYs
                simp only [Value.slice.injEq, true_and] at hv
                obtain ⟨rfl, rfl⟩ := hv
                obtain ⟨b3, o3, rfl, hb3, hc3⟩ := hr3 (by omega)
                obtain ⟨srow, hz3, hcell3, hRs⟩ := hc3 t htl
                obtain ⟨B4, E4, rfl, hR4⟩ := hRs
                have s0 : wr.cell? ⟨b3, o3 + t * 3, none⟩ = some (.int .i64 a[t].k) := hcell3 0 (by omega)
                have s1 : wr.cell? ⟨b3, o3 + t * 3 + 1, none⟩ = some (.slice B4 a[t].r.length E4) := hcell3 1 (by omega)
                have s2 : wr.cell? ⟨b3, o3 + t * 3 + 2, none⟩ = some (.int .i64 a[t].n) := hcell3 2 (by omega)
                have hYt := SlOf.take hYs t (by omega)
                have htk : (a.take t).length = t := by simp; omega
                have HSU : Hid (G0 ++ leftsTo L a (t + 1) = (G0 ++ leftsTo L a t) ++ (if a[t].k = 2 ∧ onlyF L (a.take t) = true then [a[t].n] else [])) := Lib.hid (by rw [leftsTo_succ L a t htl, List.append_assoc]; rfl)
                have hLb : (G0 ++ leftsTo L a t).length ≤ 1000000 := by have h1 := leftsTo_len L a t ht; have h2 := HLE.out; simp only [List.length_append]; omega
                generalize G0 ++ leftsTo L a t = l at hGot HSU hLb
                generalize a[t] = s at s0 s1 s2 hR4 HSU
                obtain ⟨sk, sr, sn⟩ := s
                simp only at s0 s1 s2 hR4 HSU
                have KB := (Keep.refl [] wr).alloc (.cells #[.int .i64 sk, .slice B4 sr.length E4, .int .i64 sn] 43)
                have BS := Blk.new wr #[.int .i64 sk, .slice B4 sr.length E4, .int .i64 sn] 43
                have hon := only_any _ _ _ _ _ _ _ _ L S (a.take t) _ C3 _ (HF.out.keep (hGot.2.trans KB) (by simp) (by simp)) (SlOf.move hYt symRow_stab (by omega) KB (by simp) (fun x hx => .inl hx))
                rw [htk] at hon
                have HON := Lib.hid hon
                have HGT := Lib.hid hGot
                clear hcell3 hc3 hr3 hz3 hYs hYt hR4 hon hGot
                by_cases h2 : sk = 2
                · subst h2
                  have htn : t ≤ C3 := by omega
                  go_wp2_with fail
                  refine HON.out.mono ?_
                  rintro e w5 ⟨rfl, K5⟩
                  have BS5 := BS.keep K5 (by simp)
                  have g2 := BS5.cell 2
                  have KR5 := KB.trans K5
                  have O5 : OwnL IntRow [] w5 w2.heap.size 3 1 u6 l := HGT.out.1.move intRow_stab KR5 (by simp) (fun x hx => .inl hx)
                  have KW5 := HGT.out.2.trans KR5
                  have htn2 : t ≤ a.length := by omega
                  cases hon : onlyF L (a.take t) with
                  | false =>
                    have HFIN : Hid (GotAt w2 u6 (G0 ++ leftsTo L a (t + 1)) w5) := Lib.hid (by
                      rw [HSU.out, if_neg (by rintro ⟨_, h⟩; rw [hon] at h; cases h), List.append_nil]
                      exact ⟨O5, KW5⟩)
                    clear HON HGT HSU hon O5 KW5 KR5 K5 BS5 g2 s0 s1 s2 KB BS
                    go_wp2
                    go_roundw
                    case rel => exact ⟨t + 1, by have := HTL.out; omega, by go_num, HFIN.out⟩
                    case measure => simp [intOf]; have := HTL.out; omega
                  | true =>
                    have HSU2 : Hid (G0 ++ leftsTo L a (t + 1) = l ++ [sn]) := Lib.hid (by rw [HSU.out, if_pos (by simp [hon])])
                    obtain ⟨A5, C5, rfl⟩ := O5.slice
                    obtain ⟨rows, hlr, hown, hel⟩ := O5
                    have HEL := Lib.hid hel
                    have HLR := Lib.hid hlr
                    have HKW5 := Lib.hid KW5
                    have hszz : w2.heap.size ≤ w5.heap.size := KW5.size
                    obtain ⟨i0, hi0, hz0, hz1, hz2⟩ := info_parts info_int
                    clear hel hlr HON HGT HSU hon KW5 KR5 K5 BS5 s0 s1 s2 KB BS
                    go_wp2_with (at_builtin; go_loud (refine wpList_append_lies _ rfl _ _ 26 rfl w2.heap.size 3 i0 (.int .i64 0) 1 8 Tryz.underlying26 hi0 hz0 hz1 hz2 rfl (by decide) _ l.length _ rfl (hown.alloc _) ⟨w5.heap.size, 0, none⟩ 1 1 [.int .i64 sn] rfl rfl (World.news_of_block (Blk.new' _ _ _ (by simp))) (by simp [Value.oneCell']) (by decide) (by unfold maxLen; omega) (by omega) (by simp; omega) _ rfl ?_); intro g cap w7 O7 G7 W7 L7)
                    have K57 := (Keep.refl [] w5).alloc (.cells #[.int .i64 sn] 3)
                    have hap := OwnL.append (R := IntRow) (S := []) (w := w5.alloc (.cells #[.int .i64 sn] 3)) (x := sn) (row := #[.int .i64 sn]) rows HLR.out (fun i hi hi' => ⟨(HEL.out i hi hi').1, (HEL.out i hi hi').2⟩) intRow_stab rfl rfl O7 G7 W7
                    have KF7 := (HKW5.out.trans K57).grown G7 (fun x hx => .inr (by
                      have := hown.lt x hx
                      omega))
                    have HFIN : Hid (GotAt w2 (.slice (some ⟨g, 0, none⟩) (l.length + 1) cap) (G0 ++ leftsTo L a (t + 1)) w7) := Lib.hid (by rw [HSU2.out]; exact ⟨hap, KF7⟩)
                    clear O7 G7 W7 L7 hap KF7 hown
                    go_wp2
                    go_roundw
                    case rel => exact ⟨t + 1, by have := HTL.out; omega, by go_num, HFIN.out⟩
                    case measure => simp [intOf]; have := HTL.out; omega
                · have h2b : (sk == 2) = false := by simpa using h2
                  have HFIN : Hid (GotAt w2 u6 (G0 ++ leftsTo L a (t + 1)) (wr.alloc (.cells #[.int .i64 sk, .slice B4 sr.length E4, .int .i64 sn] 43))) := Lib.hid (by
                    rw [HSU.out, if_neg (by rintro ⟨h, _⟩; exact h2 h), List.append_nil]
                    exact ⟨HGT.out.1.move intRow_stab KB (by simp) (fun x hx => .inl hx), HGT.out.2.trans KB⟩)
                  clear h2 HON HGT HSU
                  go_wp2
                  go_roundw
                  case rel => exact ⟨t + 1, by have := HTL.out; omega, by go_num, HFIN.out⟩
                  case measure => simp [intOf]; have := HTL.out; omega
              · obtain rfl : t = a.length := by omega
                have HFIN : Hid (GotAt w2 u6 (leftsAll L (p.a.take (j + 1))) wr) := Lib.hid (by rw [HSUM.out]; exact hGot)
                clear hGot
                go_wp2
                go_roundw
                case rel => exact ⟨j + 1, by have := HJL.out; omega, by go_num, HFIN.out⟩
                case measure => simp [intOf]; have := HJL.out; omega
          · obtain rfl : j = p.a.length := by omega
            have hI := hGot.ints (by have := leftsAll_len L (p.a.take p.a.length); rw [List.take_length] at this ⊢; have := HLN.out; omega)
            rw [List.take_length] at hI
            have HKK := Lib.hid (HKW.out.trans hGot.2)
            have HC7 := Lib.hid (sort_any _ _ _ _ hI)
            have hszz : w.heap.size ≤ w2.heap.size := HKW.out.size
            clear hGot hI
            go_wp2_with fail
            refine HC7.out.mono ?_
            rintro e w7 ⟨rfl, hI7, b7, hb7, K7⟩
            have HC8 := Lib.hid (compact_any _ _ _ _ hI7)
            have HK7 := Lib.hid (HKK.out.then K7 (fun x hx => by simp at hx; subst hx; right; omega))
            clear hI7 HC7 K7
            go_wp2_with fail
            refine HC8.out.mono ?_
            rintro e w8 ⟨⟨v8, rfl, hI8⟩, b8, hb8, K8⟩
            have HFIN : Hid (IntV w8 w.heap.size v8 R ∧ Keep [] w w8) := Lib.hid ⟨by rw [HRS.out]; exact hI8.low hszz, HK7.out.then K8 (fun x hx => by simp at hx; subst hx; right; omega)⟩
            clear hI8 HC8 K8
            go_wp2
            go_ret
            exact ⟨⟨v8, rfl, HFIN.out.1⟩, HFIN.out.2⟩
      · have hr : leftsR ps k = [] := by unfold leftsR; rw [if_neg]; rintro ⟨_, _, h⟩; omega
        rw [hr]
        clear hr
        have hle : ¬ (k : Int) < (ps.length : Int) := by omega
        go_enter Tryz.func19, Tryz.ntmps19
        go_wp2_with fail
        refine HC.out.mono ?_
        rintro e w1 ⟨rfl, K1⟩
        rw [hg]
        have b0 := (B0.keep K1 (by simp)).cell 0
        go_wp2
        go_ret
        exact ⟨⟨_, rfl, .inl ⟨rfl, _, _, rfl⟩⟩, K0.trans K1⟩
end Go.Proofs.YtbpidoiellcccaaGreatDoor
namespace Go.Proofs.YtbpidoiellcccaaGreatDoor
open Go Go.RowKit Go.MapKept

def numC (xs : List Int) : Array Value := (xs.map (Value.int .i64)).toArray
theorem numC_size (xs : List Int) : (numC xs).size = xs.length := by simp [numC]
theorem numC_at (xs : List Int) (i : Nat) (h : i < xs.length) : (numC xs)[i]? = some (.int .i64 (nth xs i)) := by simp [numC, nth, h]
theorem numC_set (xs : List Int) (i : Nat) (x : Int) : (numC xs).setIfInBounds i (.int .i64 x) = numC (xs.set i x) := by
  apply Array.ext'
  simp [numC]
abbrev noS : Value := .slice none 0 0
/-- A ranker: its three blocks, and the rows that its third one leads to. -/
structure RkV (w : World) (base rb wb gb : Nat) (vs : List Value) (N : Nat) (wt : List Int) (rg : List (List Int)) : Prop where
  r : Blk w rb #[.slice (some ⟨wb, 0, none⟩) N N, .slice (some ⟨gb, 0, none⟩) N N] 103
  wk : Blk w wb (numC wt) 3
  gk : Blk w gb vs.toArray 26
  wl : wt.length = N
  vl : vs.length = N
  gl : rg.length = N
  ne : rb ≠ wb ∧ rb ≠ gb ∧ wb ≠ gb
  lo : base ≤ rb ∧ base ≤ wb ∧ base ≤ gb
  row : ∀ k, k < N → NumV w base (vs.getD k noS) (rg.getD k [])
  apart : ∀ i j, i < N → j < N → i ≠ j → ∀ b ∈ ownB (vs.getD i noS), b ∉ ownB (vs.getD j noS)
  out : ∀ i, i < N → ∀ b ∈ ownB (vs.getD i noS), b ≠ rb ∧ b ≠ wb ∧ b ≠ gb
/-- Where none of its blocks turns. -/
theorem RkV.keep {w w' : World} {base rb wb gb : Nat} {vs : List Value} {N : Nat} {wt : List Int} {rg : List (List Int)} {T : List Nat} (h : RkV w base rb wb gb vs N wt rg) (K : Keep T w w') (hT : ∀ b ∈ T, b < base ∨ w.heap.size ≤ b) : RkV w' base rb wb gb vs N wt rg := by
  have hl := h.lo
  have l1 := h.r.lt; have l2 := h.wk.lt; have l3 := h.gk.lt
  have hn : ∀ b, base ≤ b → b < w.heap.size → b ∉ T := fun b h1 h2 hb => by rcases hT b hb with h | h <;> omega
  refine ⟨h.r.keep K (hn _ hl.1 l1), h.wk.keep K (hn _ hl.2.1 l2), h.gk.keep K (hn _ hl.2.2 l3), h.wl, h.vl, h.gl, h.ne, h.lo, fun k hk => (h.row k hk).keep K (fun b hb hv => ?_), h.apart, h.out⟩
  have := (h.row k hk).base b hv
  exact hn b this.1 this.2 hb
theorem RkV.setW {w : World} {base rb wb gb : Nat} {vs : List Value} {N : Nat} {wt : List Int} {rg : List (List Int)} (h : RkV w base rb wb gb vs N wt rg) (n : Nat) (x : Int) : RkV (w.setCell ⟨wb, n, none⟩ (.int .i64 x)) base rb wb gb vs N (wt.set n x) rg := by
  have K := (Keep.refl [wb] w).setCell (p := ⟨wb, n, none⟩) (by simp) (.int .i64 x)
  have hne := h.ne
  refine ⟨h.r.keep K (by simp; omega), by have := h.wk.set n (.int .i64 x); rw [numC_set] at this; exact this, h.gk.keep K (by simp; omega), by simp [h.wl], h.vl, h.gl, h.ne, h.lo, fun k hk => (h.row k hk).keep K (fun b hb hv => ?_), h.apart, h.out⟩
  have := (h.out k hk b hv).2.1
  simp at hb
  exact this hb
theorem getD_set {α : Type} (l : List α) (k i : Nat) (x d : α) (h : k < l.length) : (l.set k x).getD i d = if i = k then x else l.getD i d := by
  rw [List.getD_eq_getElem?_getD, List.getD_eq_getElem?_getD]
  by_cases e : i = k
  · subst e; simp [h]
  · rw [List.getElem?_set_ne (by omega), if_neg e]
/-- One row has grown, and is stored. -/
theorem RkV.setR {w w' : World} {base rb wb gb : Nat} {vs : List Value} {N : Nat} {wt : List Int} {rg : List (List Int)} (h : RkV w base rb wb gb vs N wt rg) (k : Nat) (hk : k < N) {v : Value} {ys : List Int} (K : Keep (ownB (vs.getD k noS)) w w') (hN : NumV w' base v ys)
    (hv : ∀ b ∈ ownB v, b ∈ ownB (vs.getD k noS) ∨ w.heap.size ≤ b) : RkV (w'.setCell ⟨gb, k, none⟩ v) base rb wb gb (vs.set k v) N wt (rg.set k ys) := by
  have hne := h.ne
  have l1 := h.r.lt; have l2 := h.wk.lt; have l3 := h.gk.lt
  have ho := h.out k hk
  have hout : ∀ b ∈ ownB v, b ≠ rb ∧ b ≠ wb ∧ b ≠ gb := fun b hb => by
    rcases hv b hb with h1 | h1
    · exact ho b h1
    · omega
  have K2 := (Keep.refl [gb] w').setCell (p := ⟨gb, k, none⟩) (by simp) v
  have r1 := h.r.keep K (fun hb => (ho rb hb).1 rfl)
  have w1 := h.wk.keep K (fun hb => (ho wb hb).2.1 rfl)
  have g1 := h.gk.keep K (fun hb => (ho gb hb).2.2 rfl)
  have hap : ∀ i, i < N → i ≠ k → ∀ b ∈ ownB (vs.getD i noS), b ∉ ownB v := fun i hi hik b hb hb2 => by
    rcases hv b hb2 with h1 | h1
    · exact h.apart i k hi hk hik b hb h1
    · have := ((h.row i hi).base b hb).2; omega
  refine ⟨r1.keep K2 (by simp; omega), w1.keep K2 (by simp; omega), ?_, h.wl, by simp [h.vl], by simp [h.gl], h.ne, h.lo, fun i hi => ?_, fun i j hi hj hij b hb => ?_, fun i hi b hb => ?_⟩
  · have := g1.set k v
    have e : vs.toArray.setIfInBounds k v = (vs.set k v).toArray := by simp
    rw [e] at this
    exact this
  · rw [getD_set _ _ _ _ _ (by rw [h.vl]; exact hk), getD_set _ _ _ _ _ (by rw [h.gl]; exact hk)]
    by_cases e : i = k
    · rw [if_pos e, if_pos e]
      exact hN.keep K2 (fun b hb hb2 => by simp at hb; exact (hout b hb2).2.2 hb)
    · rw [if_neg e, if_neg e]
      exact ((h.row i hi).keep K (fun b hb hb2 => h.apart i k hi hk e b hb2 hb)).keep K2 (fun b hb hb2 => by simp at hb; exact (h.out i hi b hb2).2.2 hb)
  · rw [getD_set _ _ _ _ _ (by rw [h.vl]; exact hk)] at hb ⊢
    by_cases e : i = k
    · rw [if_pos e] at hb
      rw [if_neg (by omega)]
      exact fun hb2 => hap j hj (by omega) b hb2 hb
    · rw [if_neg e] at hb
      by_cases e2 : j = k
      · rw [if_pos e2]; exact hap i hi e b hb
      · rw [if_neg e2]; exact h.apart i j hi hj hij b hb
  · rw [getD_set _ _ _ _ _ (by rw [h.vl]; exact hk)] at hb
    by_cases e : i = k
    · rw [if_pos e] at hb; exact hout b hb
    · rw [if_neg e] at hb; exact h.out i hi b hb
/-- n is put into the rows of these. -/
def addAll (rg : List (List Int)) (n : Int) (l : List Int) : List (List Int) := l.foldl (fun rg k => rg.set k.toNat (rg.getD k.toNat [] ++ [n])) rg
theorem addAll_len (n : Int) : ∀ (l : List Int) (rg : List (List Int)), (addAll rg n l).length = rg.length
  | [], rg => rfl
  | k :: l, rg => by
    have := addAll_len n l (rg.set k.toNat (rg.getD k.toNat [] ++ [n]))
    simpa [addAll] using this
theorem addAll_snoc (rg : List (List Int)) (n : Int) (l : List Int) (j : Nat) (h : j < l.length) : addAll rg n (l.take (j + 1)) = (addAll rg n (l.take j)).set (nth l j).toNat ((addAll rg n (l.take j)).getD (nth l j).toNat [] ++ [n]) := by
  have e : nth l j = l[j] := by simp [nth, h]
  unfold addAll
  rw [List.take_succ_eq_append_getElem h, List.foldl_append, e]
  rfl
theorem addAll_at (n : Int) : ∀ (l : List Int) (rg : List (List Int)) (k : Nat), l.Nodup → (∀ z ∈ l, 0 ≤ z ∧ z < rg.length) → k < rg.length → (addAll rg n l).getD k [] = rg.getD k [] ++ (if (k : Int) ∈ l then [n] else [])
  | [], rg, k, _, _, _ => by simp [addAll]
  | z :: l, rg, k, hn, hz, hk => by
    have h0 := hz z (by simp)
    have ih := addAll_at n l (rg.set z.toNat (rg.getD z.toNat [] ++ [n])) k (List.nodup_cons.1 hn).2 (fun y hy => by rw [List.length_set]; exact hz y (by simp [hy])) (by rw [List.length_set]; exact hk)
    have e : addAll rg n (z :: l) = addAll (rg.set z.toNat (rg.getD z.toNat [] ++ [n])) n l := rfl
    rw [e, ih, getD_set _ _ _ _ _ (by omega)]
    by_cases e2 : k = z.toNat
    · have e3 : (k : Int) = z := by omega
      rw [if_pos e2, e3, if_neg (List.nodup_cons.1 hn).1, if_pos (by simp), e2]
      simp
    · rw [if_neg e2]
      have e3 : (k : Int) ≠ z := by omega
      simp [e3]
/-- k is a left of n. -/
def lfP (ps : List ProdS) (n k : Nat) : Bool := decide (n < ps.length) && decide ((k : Int) ∈ leftsR ps n)
/-- How many each of the first n waits for. -/
def waitsR (ps : List ProdS) (n : Nat) : List Int := (List.range ps.length).map fun k => if k < n then ((leftsR ps k).length : Int) else 0
/-- Who of the first n waits for each. -/
def rightsR (ps : List ProdS) (n : Nat) : List (List Int) := (List.range ps.length).map fun k => ((List.range n).filter fun m => lfP ps m k).map fun (m : Nat) => (m : Int)
theorem waitsR_zero (ps : List ProdS) : waitsR ps 0 = List.replicate ps.length 0 := by
  apply List.ext_getElem (by simp [waitsR])
  intro i h1 h2
  simp [waitsR]
theorem rightsR_zero (ps : List ProdS) : rightsR ps 0 = List.replicate ps.length [] := by
  apply List.ext_getElem (by simp [rightsR])
  intro i h1 h2
  simp [rightsR]
theorem waitsR_succ (ps : List ProdS) (n : Nat) (h : n < ps.length) : waitsR ps (n + 1) = (waitsR ps n).set n ((leftsR ps n).length : Int) := by
  apply List.ext_getElem (by simp [waitsR])
  intro i h1 h2
  have hi : i < ps.length := by simpa [waitsR] using h1
  rw [List.getElem_set]
  simp only [waitsR, List.getElem_map, List.getElem_range]
  by_cases e : n = i
  · subst e; simp
  · rw [if_neg e]
    have : (i < n + 1) = (i < n) := by simp; omega
    simp only [this]
theorem leftsR_in {ps : List ProdS} {n : Int} : ∀ z ∈ leftsR ps n, 0 ≤ z ∧ z < ps.length := by
  intro z hz
  have hc : gmay ps = true ∧ 0 ≤ n ∧ n < ps.length := by
    unfold leftsR at hz
    split at hz
    · assumption
    · simp at hz
  obtain ⟨m, rfl⟩ : ∃ m : Nat, n = m := ⟨n.toNat, by omega⟩
  obtain ⟨s, hs, rfl⟩ := leftsR_nt ps m (by omega) z hz
  exact gmay_nt hc.1 m s hs
theorem leftsR_nodup (ps : List ProdS) (n : Int) : (leftsR ps n).Nodup := (leftsR_strict ps n).imp (fun h => by omega)
theorem rightsR_succ (ps : List ProdS) (n : Nat) (h : n < ps.length) : rightsR ps (n + 1) = addAll (rightsR ps n) n (leftsR ps n) := by
  have hl : (rightsR ps n).length = ps.length := by simp [rightsR]
  apply List.ext_getElem (by rw [addAll_len]; simp [rightsR])
  intro i h1 h2
  have hi : i < ps.length := by simpa [rightsR] using h1
  have e1 : (addAll (rightsR ps n) n (leftsR ps n))[i] = (addAll (rightsR ps n) n (leftsR ps n)).getD i [] := by simp [h2]
  have e2 : (rightsR ps n).getD i [] = ((List.range n).filter fun m => lfP ps m i).map fun (m : Nat) => (m : Int) := by simp [rightsR, hi]
  rw [e1, addAll_at n _ _ i (leftsR_nodup ps n) (by rw [hl]; exact leftsR_in) (by rw [hl]; exact hi), e2]
  simp only [rightsR, List.getElem_map, List.getElem_range]
  rw [List.range_succ, List.filter_append, List.map_append]
  congr 1
  by_cases e : (i : Int) ∈ leftsR ps n
  · simp [lfP, h, e]
  · simp [lfP, e]
end Go.Proofs.YtbpidoiellcccaaGreatDoor
