/- Who is empty, in plain words. -/
import Derived.Test.YtbpidoiellcccaaGreatDoorK19
import Derived.Test.YtbpidoiellcccaaGreatDoorK26
import Derived.Test.YtbpidoiellcccaaGreatDoorK15
set_option linter.unusedVariables false
set_option linter.unusedSimpArgs false
namespace Go.Proofs.YtbpidoiellcccaaGreatDoor
open Go Go.RowKit Go.MapKept

/-- May these symbols be empty together? -/
def emptyR (ps : List ProdS) (l : List SymS) : Bool := gmay ps && onlyF (emptyF ps) l
/-- Whether each is empty. -/
def allR (ps : List ProdS) : List Bool := if gmay ps = true then bl ps.length (emptyF ps) else []
/-- What is told when k are told. -/
def partB (n : Nat) (L : List Int) (k : Nat) : List Bool := (List.range n).map (fun (j : Nat) => decide (j < k) && decide ((j : Int) ∈ L))
theorem partB_len (n : Nat) (L : List Int) (k : Nat) : (partB n L k).length = n := by simp [partB]
theorem partB_zero (n : Nat) (L : List Int) : partB n L 0 = List.replicate n false := by
  apply List.ext_getElem (by simp [partB])
  intro i h1 h2
  simp [partB]
theorem partB_succ (n : Nat) (L : List Int) (k : Nat) (h : k < n) : partB n L (k + 1) = (partB n L k).set k (decide ((k : Int) ∈ L)) := by
  apply List.ext_getElem (by simp [partB])
  intro i h1 h2
  rw [List.getElem_set]
  simp only [partB, List.getElem_map, List.getElem_range]
  by_cases e : k = i
  · subst e; simp
  · rw [if_neg e]
    have : (i < k + 1) = (i < k) := by simp; omega
    simp only [this]
theorem partB_all (n : Nat) (L : List Int) : partB n L n = bl n L := by
  apply List.ext_getElem (by simp [partB, bl])
  intro i h1 h2
  have : i < n := by simpa [partB] using h1
  simp [partB, bl, this]
end Go.Proofs.YtbpidoiellcccaaGreatDoor
namespace Go.Proofs.YtbpidoiellcccaaGreatDoor
open Go Go.RowKit Go.MapKept

theorem onlyF_mono {L M : List Int} (h : ∀ x ∈ L, x ∈ M) (l : List SymS) (ho : onlyF L l = true) : onlyF M l = true := by
  unfold onlyF at ho ⊢
  simp only [Bool.not_eq_true', List.any_eq_false] at ho ⊢
  intro s hs
  have h1 := ho s hs
  unfold hard at h1 ⊢
  simp at h1 ⊢
  exact ⟨h1.1, h _ h1.2⟩
theorem any_mono {L M : List Int} (h : ∀ x ∈ L, x ∈ M) (al : List (List SymS)) (ho : al.any (onlyF L) = true) : al.any (onlyF M) = true := by
  obtain ⟨a, ha, h1⟩ := List.any_eq_true.1 ho
  exact List.any_eq_true.2 ⟨a, ha, onlyF_mono h a h1⟩
/-- Each has an alternative of which all are there. -/
def Sound (ps : List ProdS) (L : List Int) : Prop := ∀ x ∈ L, ∃ n : Nat, ∃ p, x = n ∧ ps[n]? = some p ∧ p.a.any (onlyF L) = true
theorem estep_sound (ps : List ProdS) (q : List Int × Bool) (k : Nat) (h : Sound ps q.1) : Sound ps (estep ps q k).1 := by
  unfold estep
  split
  · rename_i p hp
    split
    · exact h
    · split
      · rename_i hn ha
        have hm : ∀ x ∈ q.1, x ∈ q.1 ++ [(k : Int)] := fun x hx => List.mem_append_left _ hx
        intro x hx
        rcases List.mem_append.1 hx with hx | hx
        · obtain ⟨n, p', e, hp', h1⟩ := h x hx
          exact ⟨n, p', e, hp', any_mono hm _ h1⟩
        · simp at hx
          exact ⟨k, p, hx, hp, any_mono hm _ ha⟩
      · exact h
  · exact h
theorem epass_sound (ps : List ProdS) (q : List Int × Bool) (h : Sound ps q.1) : ∀ k, Sound ps (epass ps k q).1
  | 0 => h
  | k + 1 => by rw [epass_succ]; exact estep_sound ps _ k (epass_sound ps q h k)
theorem epass_flag (ps : List ProdS) (q : List Int × Bool) (k : Nat) (h : (estep ps q k).2 = false) : q.2 = false ∧ estep ps q k = q ∧ ∀ p, ps[k]? = some p → (k : Int) ∈ q.1 ∨ p.a.any (onlyF q.1) = false := by
  unfold estep at h ⊢
  split at h
  · rename_i p hp
    split at h
    · rename_i hk
      simp only [hk, if_true]
      exact ⟨h, trivial, fun p' _ => .inl trivial⟩
    · rename_i hk
      split at h
      · cases h
      · rename_i ha
        rw [if_neg hk, if_neg ha]
        exact ⟨h, rfl, fun p' hp' => .inr (by rw [hp] at hp'; obtain rfl := Option.some.inj hp'; simpa using ha)⟩
  · rename_i hp
    exact ⟨h, rfl, fun p' hp' => by rw [hp] at hp'; cases hp'⟩
theorem epass_shut (ps : List ProdS) (L : List Int) : ∀ k, (epass ps k (L, false)).2 = false → epass ps k (L, false) = (L, false) ∧ ∀ j, j < k → ∀ p, ps[j]? = some p → (j : Int) ∈ L ∨ p.a.any (onlyF L) = false
  | 0, _ => ⟨rfl, fun j hj => by omega⟩
  | k + 1, h => by
    rw [epass_succ] at h ⊢
    obtain ⟨h1, h2, h3⟩ := epass_flag ps _ k h
    obtain ⟨i1, i2⟩ := epass_shut ps L k h1
    rw [h2, i1]
    refine ⟨rfl, fun j hj p hp => ?_⟩
    by_cases e : j = k
    · subst e
      rw [i1] at h3
      exact h3 p hp
    · exact i2 j (by omega) p hp
theorem emptyL_law (ps : List ProdS) : ∀ f L, falses (bl ps.length L) < f → Sound ps L → Sound ps (emptyL ps f L) ∧ ∀ j, j < ps.length → ∀ p, ps[j]? = some p → (j : Int) ∈ emptyL ps f L ∨ p.a.any (onlyF (emptyL ps f L)) = false
  | 0, L, hf, _ => by omega
  | f + 1, L, hf, hs => by
    unfold emptyL
    have hl := epass_less ps L ps.length
    split
    · rename_i hb
      have hl2 : falses (bl ps.length (epass ps ps.length (L, false)).1) < falses (bl ps.length L) := by
        rcases hl with ⟨h, _⟩ | ⟨_, h⟩
        · rw [hb] at h; cases h
        · exact h
      exact emptyL_law ps f _ (by omega) (epass_sound ps _ hs _)
    · rename_i hb
      obtain ⟨h1, h2⟩ := epass_shut ps L ps.length (by simpa using hb)
      rw [h1]
      exact ⟨hs, h2⟩
/-- A nonterminal is empty just if all symbols of an alternative are. -/
theorem emptyF_law (ps : List ProdS) (n : Nat) (hn : n < ps.length) : decide ((n : Int) ∈ emptyF ps) = ps[n].a.any (onlyF (emptyF ps)) := by
  obtain ⟨h1, h2⟩ := emptyL_law ps (ps.length + 1) [] (by have := falses_nil ps.length; omega) (fun x hx => absurd hx (by simp))
  rw [Bool.eq_iff_iff, decide_eq_true_eq]
  constructor
  · intro h
    obtain ⟨m, p, e, hp, ha⟩ := h1 _ h
    obtain rfl : n = m := by omega
    rw [List.getElem?_eq_getElem hn] at hp
    obtain rfl := Option.some.inj hp
    exact ha
  · intro h
    rcases h2 n hn _ (List.getElem?_eq_getElem hn) with hh | hh
    · exact hh
    · change ps[n].a.any (onlyF (emptyF ps)) = false at hh
      rw [h] at hh; cases hh
theorem onlyF_append (L : List Int) (a b : List SymS) : onlyF L (a ++ b) = (onlyF L a && onlyF L b) := by
  simp [onlyF, List.any_append]
end Go.Proofs.YtbpidoiellcccaaGreatDoor
namespace Go.Proofs.YtbpidoiellcccaaGreatDoor
open Go Go.RowKit Go.MapKept

theorem onlyF_iff (L : List Int) (l : List SymS) : onlyF L l = true ↔ ∀ s ∈ l, s.k = 2 ∧ s.n ∈ L := by
  unfold onlyF
  simp only [Bool.not_eq_true', List.any_eq_false]
  constructor
  · intro h s hs
    have h1 := h s hs
    unfold hard at h1
    simpa using h1
  · intro h s hs
    have h1 := h s hs
    unfold hard
    simp [h1]
/-- With all symbols of an alternative its nonterminal is there. -/
def Clo (ps : List ProdS) (P : Int → Prop) : Prop := ∀ (k : Nat) (p : ProdS), ps[k]? = some p → ∀ a ∈ p.a, (∀ s ∈ a, s.k = 2 ∧ P s.n) → P k
/-- It is in all sets that are closed. -/
def Emp (ps : List ProdS) (x : Int) : Prop := ∀ P : Int → Prop, Clo ps P → P x
theorem emp_clo (ps : List ProdS) : Clo ps (Emp ps) := fun k p hp a ha h P hP => hP k p hp a ha (fun s hs => ⟨(h s hs).1, (h s hs).2 P hP⟩)
theorem emp_step {ps : List ProdS} {L : List Int} (hL : ∀ x ∈ L, Emp ps x) {k : Nat} {p : ProdS} (hp : ps[k]? = some p) {a : List SymS} (ha : a ∈ p.a) (h : onlyF L a = true) : Emp ps k :=
  emp_clo ps k p hp a ha (fun s hs => ⟨((onlyF_iff L a).1 h s hs).1, hL _ ((onlyF_iff L a).1 h s hs).2⟩)
theorem estep_emp (ps : List ProdS) (q : List Int × Bool) (k : Nat) (h : ∀ x ∈ q.1, Emp ps x) : ∀ x ∈ (estep ps q k).1, Emp ps x := by
  unfold estep
  split
  · rename_i p hp
    split
    · exact h
    · split
      · rename_i hn ha
        intro x hx
        rcases List.mem_append.1 hx with hx | hx
        · exact h x hx
        · simp at hx
          subst hx
          obtain ⟨a, ha1, ha2⟩ := List.any_eq_true.1 ha
          exact emp_step h hp ha1 ha2
      · exact h
  · exact h
theorem epass_emp (ps : List ProdS) (q : List Int × Bool) (h : ∀ x ∈ q.1, Emp ps x) : ∀ k, ∀ x ∈ (epass ps k q).1, Emp ps x
  | 0 => h
  | k + 1 => by rw [epass_succ]; exact estep_emp ps _ k (epass_emp ps q h k)
theorem emptyL_emp (ps : List ProdS) : ∀ f L, (∀ x ∈ L, Emp ps x) → ∀ x ∈ emptyL ps f L, Emp ps x
  | 0, L, h => h
  | f + 1, L, h => by
    unfold emptyL
    split
    · exact emptyL_emp ps f _ (epass_emp ps _ h _)
    · exact epass_emp ps _ h _
theorem mem_emptyF (ps : List ProdS) (x : Int) : x ∈ emptyF ps ↔ Emp ps x := by
  constructor
  · exact emptyL_emp ps _ _ (fun x hx => absurd hx (by simp)) x
  · intro h
    refine h (fun y => y ∈ emptyF ps) (fun k p hp a ha hs => ?_)
    have hk : k < ps.length := (List.getElem?_eq_some_iff.1 hp).1
    obtain ⟨_, h2⟩ := emptyL_law ps (ps.length + 1) [] (by have := falses_nil ps.length; omega) (fun x hx => absurd hx (by simp))
    rcases h2 k hk p hp with h3 | h3
    · exact h3
    · exfalso
      change p.a.any (onlyF (emptyF ps)) = false at h3
      have : p.a.any (onlyF (emptyF ps)) = true := List.any_eq_true.2 ⟨a, ha, (onlyF_iff _ _).2 hs⟩
      rw [h3] at this
      cases this
/-- More alternatives, no fewer empty. -/
theorem emp_mono {ps qs : List ProdS} (h : ∀ (k : Nat) p, ps[k]? = some p → ∃ q, qs[k]? = some q ∧ ∀ a ∈ p.a, a ∈ q.a) (x : Int) (hx : Emp ps x) : Emp qs x := by
  intro P hP
  refine hx P (fun k p hp a ha hs => ?_)
  obtain ⟨q, hq, hqa⟩ := h k p hp
  exact hP k q hq a (hqa a ha) hs
end Go.Proofs.YtbpidoiellcccaaGreatDoor
namespace Go.Proofs.YtbpidoiellcccaaGreatDoor
open Go Go.RowKit Go.MapKept

theorem info_prod2 : (Tryz.prog.info? 41).map (fun i => (i.zero, i.size, i.bytes)) = some (some (.agg #[.slice none 0 0, .int .i64 0, .slice none 0 0]), 3, 56) := by kernel_rfl
theorem info_alt2 : (Tryz.prog.info? 44).map (fun i => (i.zero, i.size, i.bytes)) = some (some (.slice none 0 0), 1, 24) := by kernel_rfl
theorem moreP_get (ps : List ProdS) (n : Nat) (l : List SymS) (hn : n < ps.length) (k : Nat) (q : ProdS) (hq : (moreP ps n l)[k]? = some q) : (k = n ∧ q.a = ps[n].a ++ [l]) ∨ (k ≠ n ∧ ps[k]? = some q) := by
  rw [moreP_eq ps n l hn] at hq
  by_cases e : n = k
  · subst e
    rw [List.getElem?_set_self hn] at hq
    exact .inl ⟨rfl, by rw [← Option.some.inj hq]⟩
  · rw [List.getElem?_set_ne e] at hq
    exact .inr ⟨fun h => e h.symm, hq⟩
theorem moreP_gmay (ps : List ProdS) (n : Nat) (l : List SymS) (hn : n < ps.length) (h : gmay ps = true) (h7 : ps[n].a.length ≤ 7) (hl : altOdd ps.length l = false) : gmay (moreP ps n l) = true := by
  unfold gmay at h ⊢
  rw [moreP_len]
  simp only [Bool.and_eq_true, Bool.not_eq_true', List.any_eq_false, decide_eq_true_eq] at h ⊢
  refine ⟨⟨fun q hq => ?_, h.1.2⟩, h.2⟩
  obtain ⟨k, hk⟩ := List.getElem?_of_mem hq
  rcases moreP_get ps n l hn k q hk with ⟨rfl, _⟩ | ⟨_, hk⟩
  · rw [moreP_eq ps k l hn, List.getElem?_set_self hn] at hk
    obtain rfl := Option.some.inj hk
    have h1 := h.1.1 ps[k] (List.getElem_mem hn)
    unfold prodBad at h1 ⊢
    simp only [Bool.not_eq_true, Bool.or_eq_false_iff, List.any_append, List.length_append, List.length_cons, List.length_nil] at h1 ⊢
    obtain ⟨⟨⟨⟨⟨a1, a2⟩, a3⟩, a4⟩, a5⟩, a6⟩ := h1
    exact ⟨⟨⟨⟨⟨by simp, by simp; omega⟩, a3⟩, a4⟩, a5⟩, by simp [a6, hl]⟩
  · exact h.1.1 q (List.mem_of_getElem? hk)
theorem self_odd (ps : List ProdS) (n : Nat) (hn : n < ps.length) : altOdd ps.length [⟨2, [], n⟩] = false := by
  simp [altOdd, symBad]; omega
theorem nil_odd (m : Nat) : altOdd m [] = false := by simp [altOdd]
theorem one_sym {S : List Nat} {w : World} {b : Nat} {T : TypeId} {n : Int} (B : Blk w b #[.int .i64 2, .slice none 0 0, .int .i64 n] T) (hb : b ∉ S) : Syms S w (.slice (some ⟨b, 0, none⟩) 1 1) [⟨2, [], n⟩] := by
  have h := Sl.of_blk (S := S) (k := 3) (xs := [#[.int .i64 2, .slice none 0 0, .int .i64 n]]) 1 B hb (by simp) (fun i hi => by
    obtain rfl : i = 0 := by simpa using hi
    exact ⟨rfl, fun j hj => by
      match j, hj with
      | 0, _ => rfl
      | 1, _ => rfl
      | 2, _ => rfl⟩)
  refine ⟨[#[.int .i64 2, .slice none 0 0, .int .i64 n]], h, rfl, fun i hi hi' => ?_⟩
  obtain rfl : i = 0 := by simpa using hi
  exact ⟨none, 0, rfl, Sl.nil _ _ _⟩
theorem self_src {S : List Nat} {w : World} {b1 b2 : Nat} {T T' : TypeId} {n : Int} (B1 : Blk w b1 #[.int .i64 2, .slice none 0 0, .int .i64 n] T) (B2 : Blk w b2 #[.slice (some ⟨b1, 0, none⟩) 1 1] T') (h1 : b1 ∉ S) (h2 : b2 ∉ S) : Alts S w (.slice (some ⟨b2, 0, none⟩) 1 1) [[⟨2, [], n⟩]] :=
  one_alt B2 h2 rfl (one_sym B1 h1)
end Go.Proofs.YtbpidoiellcccaaGreatDoor
