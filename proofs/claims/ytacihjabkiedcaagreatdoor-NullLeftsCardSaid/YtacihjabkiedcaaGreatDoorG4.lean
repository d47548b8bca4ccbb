/- Slices of structured elements: read ('SlOf') and made by appending ('OwnL'). -/
import Derived.Test.YtacihjabkiedcaaGreatDoorG1
import Derived.Deep.AppendLies
import Derived.Test.YtacihjabkiedcaaGreatDoorG3
import Derived.WalkLawsBesides
set_option linter.unusedVariables false
set_option linter.unusedSimpArgs false
namespace Go.Proofs.YtacihjabkiedcaaGreatDoor
open Go Go.RowKit

/-- A word on elements that lives on where nothing of theirs turns: T may turn, S' is what they lie beside then. -/
def Stab {α : Type} (R : List Nat → World → α → Array Value → Prop) : Prop :=
  ∀ (S T S' : List Nat) (w w' : World) (x : α) (row : Array Value), R S w x row → Keep T w w' → (∀ b ∈ T, b ∈ S ∨ w.heap.size ≤ b) → (∀ b ∈ S', b ∈ S ∨ w.heap.size ≤ b) → R S' w' x row
theorem Sl.move {S T S' : List Nat} {w w' : World} {k : Nat} {v : Value} {xs : List (Array Value)} (h : Sl S w k v xs) (hk : 0 < k) (K : Keep T w w') (hT : ∀ b ∈ T, b ∈ S ∨ w.heap.size ≤ b) (hS : ∀ b ∈ S', b ∈ S ∨ w.heap.size ≤ b) : Sl S' w' k v xs := by
  obtain ⟨a, c, hv, hm, hr⟩ := h
  refine ⟨a, c, hv, hm, fun hp => ?_⟩
  obtain ⟨b, o, ha, hb, hc⟩ := hr hp
  have hlt : b < w.heap.size := by
    have h1 := (hc 0 hp).2 0 hk
    have hs : xs[0][0]? = some (xs[0][0]'(by rw [(hc 0 hp).1]; exact hk)) := Array.getElem?_eq_getElem _
    rw [hs] at h1
    exact World.block_lt_of_cell? w _ h1
  have hnot : ∀ (L : List Nat), (∀ b ∈ L, b ∈ S ∨ w.heap.size ≤ b) → b ∉ L := fun L hL hb' => by
    rcases hL b hb' with h | h
    · exact hb h
    · omega
  refine ⟨b, o, ha, hnot S' hS, fun i hi => ⟨(hc i hi).1, fun j hj => ?_⟩⟩
  rw [← (hc i hi).2 j hj]
  exact World.cell?_of_block (w := w) (a := ⟨b, o + i * k + j, none⟩) (K.block b hlt (hnot T hT))

section
variable {α : Type} {R : List Nat → World → α → Array Value → Prop}

/-- The slice v has these elements, each of k cells. -/
def SlOf (R : List Nat → World → α → Array Value → Prop) (S : List Nat) (w : World) (k : Nat) (v : Value) (xs : List α) : Prop :=
  ∃ rows : List (Array Value), Sl S w k v rows ∧ rows.length = xs.length ∧ ∀ i (h : i < xs.length) (h' : i < rows.length), R S w xs[i] rows[i]
theorem SlOf.nil (S : List Nat) (w : World) (k : Nat) : SlOf R S w k (.slice none 0 0) [] := ⟨[], Sl.nil _ _ _, rfl, fun i h => absurd h (by simp)⟩
theorem SlOf.move {S T S' : List Nat} {w w' : World} {k : Nat} {v : Value} {xs : List α} (h : SlOf R S w k v xs) (st : Stab R) (hk : 0 < k) (K : Keep T w w') (hT : ∀ b ∈ T, b ∈ S ∨ w.heap.size ≤ b) (hS : ∀ b ∈ S', b ∈ S ∨ w.heap.size ≤ b) : SlOf R S' w' k v xs := by
  obtain ⟨rows, h1, h2, h3⟩ := h
  exact ⟨rows, h1.move hk K hT hS, h2, fun i hi hi' => st _ _ _ _ _ _ _ (h3 i hi hi') K hT hS⟩
theorem SlOf.at {S : List Nat} {w : World} {k : Nat} {v : Value} {xs : List α} (h : SlOf R S w k v xs) : ∃ a c, v = .slice a xs.length c ∧ (xs.length ≤ 9223372036854775807 ∧ xs.length ≤ c) ∧
    (0 < xs.length → ∃ b o, a = some ⟨b, o, none⟩ ∧ b ∉ S ∧ ∀ i (h : i < xs.length), ∃ row : Array Value, row.size = k ∧ (∀ j, j < k → w.cell? ⟨b, o + i * k + j, none⟩ = row[j]?) ∧ R S w xs[i] row) := by
  obtain ⟨rows, ⟨a, c, hv, hm, hr⟩, h2, h3⟩ := h
  rw [h2] at hv hm
  refine ⟨a, c, hv, hm, fun hp => ?_⟩
  obtain ⟨b, o, ha, hb, hc⟩ := hr (by omega)
  refine ⟨b, o, ha, hb, fun i hi => ⟨rows[i], (hc i (by omega)).1, (hc i (by omega)).2, h3 i hi (by omega)⟩⟩

/-- The blocks in which a slice's row lies. -/
def ownB (v : Value) : List Nat := v.ownBlock.toList
/-- The slice v, made by the call from block base on, has these elements; what they lead to lies beside its row, and beside S. -/
def OwnL (R : List Nat → World → α → Array Value → Prop) (S : List Nat) (w : World) (base : Nat) (E : TypeId) (k : Nat) (v : Value) (xs : List α) : Prop :=
  ∃ rows : List (Array Value), rows.length = xs.length ∧ w.ownsRow base E k v xs.length (rows.flatMap Array.toList) ∧ ∀ i (h : i < xs.length) (h' : i < rows.length), rows[i].size = k ∧ R (ownB v ++ S) w xs[i] rows[i]
theorem OwnL.nil (S : List Nat) (w : World) (base : Nat) (E : TypeId) (k : Nat) : OwnL R S w base E k (.slice none 0 0) [] :=
  ⟨[], rfl, World.ownsRow_nil _ _ _ _, fun i h => absurd h (by simp)⟩
theorem OwnL.slice {S : List Nat} {w : World} {base : Nat} {E : TypeId} {k : Nat} {v : Value} {xs : List α} (h : OwnL R S w base E k v xs) : ∃ A C, v = .slice A xs.length C := by
  obtain ⟨rows, _, h1, _⟩ := h
  rcases h1.2 with ⟨h, h0⟩ | ⟨g, cap, cur, h, _⟩
  · exact ⟨none, 0, by rw [h, h0]⟩
  · exact ⟨_, _, h⟩
theorem OwnL.base {S : List Nat} {w : World} {base : Nat} {E : TypeId} {k : Nat} {v : Value} {xs : List α} (h : OwnL R S w base E k v xs) : ∀ b ∈ ownB v, base ≤ b ∧ b < w.heap.size := by
  obtain ⟨rows, _, h1, _⟩ := h
  intro b hb
  exact h1.lt b (by simpa [ownB] using hb)
/-- Where T turns, the row's block not among it. -/
theorem OwnL.move {S T S' : List Nat} {w w' : World} {base : Nat} {E : TypeId} {k : Nat} {v : Value} {xs : List α} (h : OwnL R S w base E k v xs) (st : Stab R) (K : Keep T w w') (hT : ∀ b ∈ T, (b ∈ S ∧ b ∉ ownB v) ∨ w.heap.size ≤ b)
    (hS : ∀ b ∈ S', b ∈ S ∨ w.heap.size ≤ b) : OwnL R S' w' base E k v xs := by
  have hlt := h.base
  obtain ⟨rows, h1, h2, h3⟩ := h
  refine ⟨rows, h1, ?_, fun i hi hi' => ⟨(h3 i hi hi').1, st _ _ _ _ _ _ _ (h3 i hi hi').2 K (fun b hb => ?_) (fun b hb => ?_)⟩⟩
  · refine ⟨h2.1, ?_⟩
    rcases h2.2 with hn | ⟨g, cap, cur, rfl, hb, hgg, rest⟩
    · exact .inl hn
    · refine .inr ⟨g, cap, cur, rfl, hb, ?_, rest⟩
      rw [K.block g (Array.getElem?_eq_some_iff.1 hgg).1 (fun hs => by
        rcases hT g hs with ⟨_, h⟩ | h
        · exact h (by simp [ownB, Value.ownBlock])
        · have := (Array.getElem?_eq_some_iff.1 hgg).1; omega)]
      exact hgg
  · rcases hT b hb with ⟨h, _⟩ | h
    · exact .inl (by simp [h])
    · exact .inr h
  · rcases List.mem_append.1 hb with h | h
    · exact .inl (by simp [h])
    · rcases hS b h with h | h
      · exact .inl (by simp [h])
      · exact .inr h
/-- Behind an append of one element. -/
theorem OwnL.append {S : List Nat} {w w' : World} {base : Nat} {E : TypeId} {k g cap : Nat} {v : Value} {xs : List α} {x : α} {row : Array Value} (rows : List (Array Value)) (h1 : rows.length = xs.length)
    (h3 : ∀ i (h : i < xs.length) (h' : i < rows.length), rows[i].size = k ∧ R (ownB v ++ S) w xs[i] rows[i]) (st : Stab R) (hx : R (ownB v ++ S) w x row) (hr : row.size = k)
    (ho : w'.ownsRow base E k (.slice (some ⟨g, 0, none⟩) (xs.length + 1) cap) (xs.length + 1) (rows.flatMap Array.toList ++ row.toList)) (hg : w.grownBy w' v.ownBlock) (hw : v.ownBlock = some g ∨ g = w.heap.size) :
    OwnL R S w' base E k (.slice (some ⟨g, 0, none⟩) (xs.length + 1) cap) (xs ++ [x]) := by
  have K : Keep (ownB v) w w' := ⟨hg.os, hg.tape, hg.output, hg.size, fun b hb hs => hg.block b hb (fun e => hs (by simp [ownB, ← e]))⟩
  have hS : ∀ b ∈ ownB (.slice (some ⟨g, 0, none⟩) (xs.length + 1) cap) ++ S, b ∈ ownB v ++ S ∨ w.heap.size ≤ b := by
    intro b hb
    rcases List.mem_append.1 hb with hb | hb
    · have : b = g := by simpa [ownB, Value.ownBlock, eq_comm] using hb
      subst this
      rcases hw with hw | hw
      · exact .inl (by simp [ownB, hw])
      · exact .inr (by omega)
    · exact .inl (by simp [hb])
  have hT : ∀ b ∈ ownB v, b ∈ ownB v ++ S ∨ w.heap.size ≤ b := fun b hb => .inl (by simp [hb])
  refine ⟨rows ++ [row], by simp [h1], ?_, fun i hi hi' => ?_⟩
  · rw [List.length_append, List.flatMap_append]
    simpa using ho
  · by_cases e : i < rows.length
    · have e2 : (xs ++ [x])[i] = xs[i]'(by omega) := List.getElem_append_left (by omega)
      have e3 : (rows ++ [row])[i] = rows[i] := List.getElem_append_left e
      rw [e2, e3]
      exact ⟨(h3 i (by omega) e).1, st _ _ _ _ _ _ _ (h3 i (by omega) e).2 K hT hS⟩
    · have e1 : i = rows.length := by simp at hi'; omega
      subst e1
      have e2 : (xs ++ [x])[rows.length] = x := by rw [List.getElem_append_right (by omega)]; simp [h1]
      have e3 : (rows ++ [row])[rows.length] = row := by rw [List.getElem_append_right (by omega)]; simp
      rw [e2, e3]
      exact ⟨hr, st _ _ _ _ _ _ _ hx K hT hS⟩
/-- What was made is read. -/
theorem OwnL.read {S S' : List Nat} {w : World} {base : Nat} {E : TypeId} {k : Nat} {v : Value} {xs : List α} (h : OwnL R S w base E k v xs) (st : Stab R) (hS : ∀ b ∈ S', b ∈ S ∨ w.heap.size ≤ b) (hv : ∀ b ∈ ownB v, b ∉ S') : SlOf R S' w k v xs := by
  have hl := h.slice
  obtain ⟨rows, h1, h2, h3⟩ := h
  refine ⟨rows, ?_, h1, fun i hi hi' => st _ _ _ _ _ _ _ (h3 i hi hi').2 (Keep.refl [] w) (by simp) (fun b hb => ?_)⟩
  · have hsz : ∀ (l : List (Array Value)), (∀ i (h : i < l.length), l[i].size = k) → ∀ i (h : i < l.length) j, j < k → (l.flatMap Array.toList)[i * k + j]? = l[i][j]? := by
      intro l
      induction l with
      | nil => intro _ i h; simp at h
      | cons a l ih =>
        intro hl i hi j hj
        have ha : a.size = k := hl 0 (by simp)
        cases i with
        | zero =>
          simp only [List.flatMap_cons, Nat.zero_mul, Nat.zero_add, List.getElem_cons_zero]
          rw [List.getElem?_append_left (by simp [ha]; exact hj)]
          simp
        | succ i =>
          simp only [List.flatMap_cons, List.getElem_cons_succ]
          rw [List.getElem?_append_right (by simp [ha, Nat.succ_mul]; omega)]
          rw [show (i + 1) * k + j - a.toList.length = i * k + j by simp [ha, Nat.succ_mul]; omega]
          exact ih (fun i h => hl (i + 1) (by simpa using h)) i (by simpa using hi) j hj
    have hszr := hsz rows (fun i hi => (h3 i (by omega) hi).1)
    obtain ⟨A, C, rfl⟩ := hl
    have hm : xs.length ≤ 9223372036854775807 ∧ xs.length ≤ C := by
      rcases h2.2 with ⟨_, h0⟩ | ⟨g, cap, cur, hv, _, _, hn, hcap, _⟩
      · omega
      · simp only [Value.slice.injEq] at hv
        unfold maxLen at hcap; omega
    refine ⟨A, C, by rw [h1], by rw [h1]; exact hm, fun hp => ?_⟩
    rcases h2.2 with ⟨_, h0⟩ | ⟨g, cap, cur, hv', _⟩
    · omega
    · simp only [Value.slice.injEq] at hv'
      obtain ⟨rfl, _, rfl⟩ := hv'
      refine ⟨g, 0, rfl, hv g (by simp [ownB, Value.ownBlock]), fun i hi => ⟨(h3 i (by omega) hi).1, fun j hj => ?_⟩⟩
      have hlt : i * k + j < xs.length * k := by
        have : (i + 1) * k ≤ xs.length * k := Nat.mul_le_mul_right k (by omega)
        rw [Nat.succ_mul] at this; omega
      rw [show (0 + i * k + j) = i * k + j by omega, h2.cellAt (i * k + j) hlt]
      exact hszr i hi j hj
  · rcases hS b hb with h | h
    · exact .inl (by simp [h])
    · exact .inr h
end
theorem Sl.stab {k : Nat} (hk : 0 < k) {S T S' : List Nat} {w w' : World} {v : Value} {xs : List (Array Value)} (h : Sl S w k v xs) (K : Keep T w w') (hT : ∀ b ∈ T, b ∈ S ∨ w.heap.size ≤ b) (hS : ∀ b ∈ S', b ∈ S ∨ w.heap.size ≤ b) : Sl S' w' k v xs := h.move hk K hT hS
end Go.Proofs.YtacihjabkiedcaaGreatDoor
/- A text's tokens. -/
namespace Go.Proofs.YtacihjabkiedcaaGreatDoor
open Go Go.RowKit

/-- A token: its kind, text, set and place. -/
structure TokS where
  k : Int
  t : ByteArray
  r : List Rng
  a : Int
def TokRow (S : List Nat) (w : World) (x : TokS) (row : Array Value) : Prop := ∃ v, row = #[.int .i64 x.k, .string x.t, v, .int .i64 x.a] ∧ Rngs S w v x.r
theorem tokRow_stab : Stab TokRow := by
  rintro S T S' w w' x row ⟨v, h1, h2⟩ K hT hS
  exact ⟨v, h1, Sl.move h2 (by omega) K hT hS⟩
/-- A slice of tokens. -/
def Toks (S : List Nat) (w : World) (v : Value) (ts : List TokS) : Prop := SlOf TokRow S w 4 v ts

/-- The first place from i on that is no blank. -/
def skipB (s : ByteArray) (i : Nat) : Nat := s.size - (Lib.trimLeftS (s.data.toList.drop i) [32, 9, 10, 13]).length
abbrev WayR := Option (Int × ByteArray × List Rng × Nat)
/-- The token that begins at i, and where it ends; how sets are read is left open. -/
def wayR (cR bR : ByteArray → Nat → WayR) (s : ByteArray) (i : Nat) : WayR := match s.data[i]? with
  | none => none
  | some c =>
    if c.toNat = 64 then (if isMark (s.extract (i + 1) (i + 1 + wordN (s.data.toList.drop (i + 1)) false)) then some (5, s.extract (i + 1) (i + 1 + wordN (s.data.toList.drop (i + 1)) false), [], i + 1 + wordN (s.data.toList.drop (i + 1)) false) else none)
    else if c.toNat = 34 then litTok (litR s (s.size + 1) (i + 1) [])
    else if c.toNat = 91 then cR s i
    else if c.toNat = 60 then bR s i
    else if c.toNat = 61 ∨ c.toNat = 124 ∨ c.toNat = 59 ∨ c.toNat = 40 ∨ c.toNat = 41 ∨ c.toNat = 42 ∨ c.toNat = 43 ∨ c.toNat = 63 ∨ c.toNat = 47 ∨ c.toNat = 37 then some (4, s.extract i (i + 1), [], i + 1)
    else if 0 < wordN (s.data.toList.drop i) false ∧ wordN (s.data.toList.drop i) false ≤ 12 then some (0, s.extract i (i + wordN (s.data.toList.drop i) false), [], i + wordN (s.data.toList.drop i) false) else none
/-- All tokens from i on, behind some; where it ended, and the error's number. -/
def lexR (cR bR : ByteArray → Nat → WayR) (s : ByteArray) : Nat → Nat → List TokS → List TokS × Nat × Nat
  | 0, _, _ => ([], 0, 0)
  | n + 1, i, acc =>
    if skipB s i = s.size then (acc, s.size, 0)
    else match wayR cR bR s (skipB s i) with
      | none => ([], skipB s i, 2)
      | some (k, t, r, j) => if acc.length = 600 then ([], skipB s i, 7) else lexR cR bR s n j (acc ++ [⟨k, t, r, skipB s i⟩])
/-- The function by which a byte's token is read. -/
def wayN (c : Nat) : Nat := (wayF c).getD 84

/-- How a set is read is as cR, bR say, wherever one begins in s. -/
def SetsAt (f : Nat) (c0 : Nat) (cR : ByteArray → Nat → WayR) (s : ByteArray) : Prop :=
  ∀ (b i : Nat) (w : World) (hi : i < s.size), Scan w b s i → (s[i]'hi).toNat = c0 → Calls Tryz.prog f #[.pointer (some ⟨b, 0, none⟩)] w (WayPost b s w (cR s i))

theorem way_any (cR bR : ByteArray → Nat → WayR) (s : ByteArray) (hm : s.size ≤ 4096) (hC : SetsAt 111 91 cR s) (hB : SetsAt 112 60 bR s)
    (b i : Nat) (w : World) (hi : i < s.size) (H : Scan w b s i) (n : Nat) (hn : n = wayN (s[i]'hi).toNat) :
    Calls Tryz.prog n #[.pointer (some ⟨b, 0, none⟩)] w (WayPost b s w (wayR cR bR s i)) := by
  subst hn
  have hd := digitByte s i hi
  unfold wayN wayF wayR
  rw [hd]
  simp only
  by_cases h1 : (s[i]'hi).toNat = 64
  · simp only [h1, if_true, Option.getD_some]
    refine (mark_any b s i _ w H hm hi rfl).mono ?_
    rintro e w' ⟨rfl, h2, h3⟩
    refine ⟨h3, ?_⟩
    by_cases hk : isMark (s.extract (i + 1) (i + 1 + wordN (s.data.toList.drop (i + 1)) false)) = true
    · rw [if_pos hk, hk]; exact ⟨_, rfl, fun _ _ => Sl.nil _ _ _, h2⟩
    · rw [if_neg hk, (by simpa using hk : isMark (s.extract (i + 1) (i + 1 + wordN (s.data.toList.drop (i + 1)) false)) = false)]; exact ⟨_, _, none, 0, 0, _, rfl, h2⟩
  by_cases h2 : (s[i]'hi).toNat = 34
  · simp only [h1, h2, if_true, if_false, Option.getD_some]
    exact lit_any b s i w H hm hi _ rfl
  by_cases h3 : (s[i]'hi).toNat = 91
  · simp only [h1, h2, h3, if_true, if_false, Option.getD_some]
    exact hC b i w hi H h3
  by_cases h4 : (s[i]'hi).toNat = 60
  · simp only [h1, h2, h3, h4, if_true, if_false, Option.getD_some]
    exact hB b i w hi H h4
  simp only [h1, h2, h3, h4, if_false]
  by_cases h5 : ((s[i]'hi).toNat = 61 ∨ (s[i]'hi).toNat = 124 ∨ (s[i]'hi).toNat = 59 ∨ (s[i]'hi).toNat = 40 ∨ (s[i]'hi).toNat = 41 ∨ (s[i]'hi).toNat = 42 ∨ (s[i]'hi).toNat = 43 ∨ (s[i]'hi).toNat = 63 ∨ (s[i]'hi).toNat = 47 ∨ (s[i]'hi).toNat = 37)
  · rw [if_pos h5, if_pos h5]
    refine (sign_any b s i w H hm hi).mono ?_
    rintro e w' ⟨rfl, h2, h3⟩
    exact ⟨h3, _, rfl, fun _ _ => Sl.nil _ _ _, h2⟩
  · rw [if_neg h5, if_neg h5]
    refine (name_any b s i _ w H hm (by omega) rfl).mono ?_
    rintro e w' ⟨rfl, h2, h3⟩
    refine ⟨h3, ?_⟩
    by_cases hk : 0 < wordN (s.data.toList.drop i) false ∧ wordN (s.data.toList.drop i) false ≤ 12
    · rw [if_pos hk, show (decide (0 < wordN (s.data.toList.drop i) false) && decide (wordN (s.data.toList.drop i) false ≤ 12)) = true by simpa using hk]; exact ⟨_, rfl, fun _ _ => Sl.nil _ _ _, h2⟩
    · rw [if_neg hk, show (decide (0 < wordN (s.data.toList.drop i) false) && decide (wordN (s.data.toList.drop i) false ≤ 12)) = false by simpa using hk]; exact ⟨_, _, none, 0, 0, _, rfl, h2⟩
end Go.Proofs.YtacihjabkiedcaaGreatDoor
/- The reader of tokens: what it is, and what it comes to. -/
namespace Go.Proofs.YtacihjabkiedcaaGreatDoor
open Go Go.RowKit

theorem Keep.cell {T : List Nat} {w w' : World} (K : Keep T w w') {a : Addr} {v : Value} (h : w.cell? a = some v) (ha : a.block ∉ T) : w'.cell? a = some v :=
  (World.cell?_of_block (K.block a.block (World.block_lt_of_cell? w a h) ha)).trans h
/-- A part of a rule: its kind, bytes, set, parts and place. -/
inductive PartS where
  | mk (k : Int) (t : ByteArray) (r : List Rng) (l : List PartS) (a : Int)
def PartS.a : PartS → Int | .mk _ _ _ _ a => a
def PartS.k : PartS → Int | .mk k _ _ _ _ => k
inductive PartAt (S : List Nat) (w : World) : PartS → Array Value → Prop where
  | mk (k : Int) (t : ByteArray) (r : List Rng) (l : List PartS) (a : Int) (rv lv : Value) (rows : List (Array Value)) (hr : Rngs S w rv r) (hl : Sl S w 5 lv rows) (hn : rows.length = l.length)
      (hp : ∀ i (h : i < l.length) (h' : i < rows.length), PartAt S w l[i] rows[i]) : PartAt S w (.mk k t r l a) #[.int .i64 k, .string t, rv, lv, .int .i64 a]
theorem partAt_stab : Stab PartAt := by
  intro S T S' w w' x row h K hT hS
  induction h with
  | mk k t r l a rv lv rows hr hl hn hp ih => exact .mk k t r l a rv lv rows (Sl.move hr (by omega) K hT hS) (Sl.move hl (by omega) K hT hS) hn ih
theorem PartAt.size {S : List Nat} {w : World} {x : PartS} {row : Array Value} (h : PartAt S w x row) : row.size = 5 := by cases h; rfl
theorem PartAt.form {S : List Nat} {w : World} {x : PartS} {row : Array Value} (h : PartAt S w x row) : ∃ k t A n C B m D a, row = #[.int .i64 k, .string t, .slice A n C, .slice B m D, .int .i64 a] ∧ k = x.k ∧ a = x.a := by
  cases h with
  | mk k t r l a rv lv rows hr hl hn hp =>
    obtain ⟨A, C, rfl, _⟩ := hr
    obtain ⟨B, D, rfl, _⟩ := hl
    exact ⟨k, t, A, _, C, B, _, D, a, rfl, rfl, rfl⟩
theorem PartAt.of {S : List Nat} {w : World} {k : Int} {t : ByteArray} {r : List Rng} {l : List PartS} {a : Int} {rv lv : Value} (hr : Rngs S w rv r) (hl : SlOf PartAt S w 5 lv l) : PartAt S w (.mk k t r l a) #[.int .i64 k, .string t, rv, lv, .int .i64 a] := by
  obtain ⟨rows, h1, h2, h3⟩ := hl
  exact .mk _ _ _ _ _ _ _ rows hr h1 h2 h3

/-- The reader at block b: the tokens that are left, the text's length, how deep it is. -/
def Rdr (S : List Nat) (w : World) (b : Nat) (ts : List TokS) (n deep : Int) : Prop := ∃ v, Blk w b #[v, .int .i64 n, .int .i64 deep] 94 ∧ Toks S w v ts
theorem Rdr.move {S T S' : List Nat} {w w' : World} {b : Nat} {ts : List TokS} {n deep : Int} (h : Rdr S w b ts n deep) (K : Keep T w w') (hT : ∀ x ∈ T, (x ∈ S ∧ x ≠ b) ∨ w.heap.size ≤ x) (hS : ∀ x ∈ S', x ∈ S ∨ w.heap.size ≤ x) : Rdr S' w' b ts n deep := by
  obtain ⟨v, hb, ht⟩ := h
  refine ⟨v, hb.keep K (fun hx => ?_), SlOf.move ht tokRow_stab (by omega) K (fun x hx => ?_) hS⟩
  · rcases hT b hx with ⟨_, h⟩ | h
    · exact h rfl
    · have := hb.lt; omega
  · rcases hT x hx with ⟨h, _⟩ | h
    · exact .inl h
    · exact .inr h
theorem Rdr.lt {S : List Nat} {w : World} {b : Nat} {ts : List TokS} {n deep : Int} (h : Rdr S w b ts n deep) : b < w.heap.size := by
  obtain ⟨v, hb, ht⟩ := h
  exact hb.lt

/-- What is wrong: the error's number, and the place. -/
abbrev Err := Int × Int
def PanE (x : Err) : Ending := .panicked [{ v := .iface 91 (.agg #[.int .i64 x.1, .int .i64 x.2]), recovered := false }]
def placeR (n : Int) : List TokS → Int
  | [] => n
  | t :: _ => t.a
def isR (k : Int) (x : ByteArray) : List TokS → Bool
  | [] => false
  | t :: _ => t.k == k && (x.toList == [] || t.t.toList == x.toList)
def takeR (n k : Int) (x : ByteArray) : List TokS → Except Err (TokS × List TokS)
  | [] => .error (3, n)
  | t :: ts => if isR k x (t :: ts) then .ok (t, ts) else .error (3, t.a)
end Go.Proofs.YtacihjabkiedcaaGreatDoor
/- The reader's small functions. -/
namespace Go.Proofs.YtacihjabkiedcaaGreatDoor
open Go Go.RowKit

/-- What lies at the head of the tokens that are left. -/
theorem Toks.head {S : List Nat} {w : World} {v : Value} {t : TokS} {ts : List TokS} (h : Toks S w v (t :: ts)) : ∃ b o c A m C, v = .slice (some ⟨b, o, none⟩) (ts.length + 1) c ∧ (b ∉ S ∧ ts.length + 1 ≤ c) ∧
    w.cell? ⟨b, o, none⟩ = some (.int .i64 t.k) ∧ w.cell? ⟨b, o + 1, none⟩ = some (.string t.t) ∧ w.cell? ⟨b, o + 2, none⟩ = some (.slice A m C) ∧ w.cell? ⟨b, o + 3, none⟩ = some (.int .i64 t.a) ∧ Rngs S w (.slice A m C) t.r := by
  obtain ⟨a, c, rfl, hm, hr⟩ := SlOf.at h
  obtain ⟨b, o, rfl, hb, hc⟩ := hr (by simp)
  obtain ⟨row, hz, hcell, v2, rfl, hR⟩ := hc 0 (by simp)
  have hR' := hR
  obtain ⟨A, C, rfl, _⟩ := hR'
  have e0 := hcell 0 (by omega)
  have e1 := hcell 1 (by omega)
  have e2 := hcell 2 (by omega)
  have e3 := hcell 3 (by omega)
  simp only [Nat.zero_mul, Nat.add_zero] at e0 e1 e2 e3
  exact ⟨b, o, c, A, _, C, rfl, ⟨hb, by simpa using hm.2⟩, e0, e1, e2, e3, hR⟩
/-- The tokens behind the first one. -/
theorem Toks.tail {S : List Nat} {w : World} {b o c : Nat} {t : TokS} {ts : List TokS} (h : Toks S w (.slice (some ⟨b, o, none⟩) (ts.length + 1) c) (t :: ts)) (x : Addr) (c' : Nat) (hx : 0 < ts.length → x = ⟨b, o + 4, none⟩) (hc' : ts.length ≤ c') : Toks S w (.slice (some x) ts.length c') ts := by
  obtain ⟨rows, h1, h2, h3⟩ := h
  obtain ⟨a, c0, hv, hm, hr⟩ := h1
  cases rows with
  | nil => simp at h2
  | cons row rows =>
    simp only [Value.slice.injEq] at hv
    obtain ⟨rfl, _, rfl⟩ := hv
    have hn : rows.length = ts.length := by simpa using h2
    have hm' : rows.length ≤ 9223372036854775807 ∧ rows.length ≤ c' := by simp only [List.length_cons] at hm; omega
    refine ⟨rows, ⟨some x, c', by rw [hn], hm', fun hp => ?_⟩, hn, fun i hi hi' => h3 (i + 1) (by simpa using hi) (by simpa using hi')⟩
    obtain ⟨b', o', he, hb, hc⟩ := hr (by simp)
    simp only [Option.some.injEq, Addr.mk.injEq] at he
    obtain ⟨rfl, rfl, _⟩ := he
    refine ⟨b, o + 4, by rw [hx (by omega)], hb, fun i hi => ⟨(hc (i + 1) (by simpa using hi)).1, fun j hj => ?_⟩⟩
    have := (hc (i + 1) (by simpa using hi)).2 j hj
    rw [show o + 4 + i * 4 + j = o + (i + 1) * 4 + j by omega]
    simpa using this

set_option maxHeartbeats 1000000 in
theorem place_any (S : List Nat) (b : Nat) (ts : List TokS) (n deep : Int) (w : World) (H : Rdr S w b ts n deep) :
    Calls Tryz.prog 119 #[.pointer (some ⟨b, 0, none⟩)] w fun e w' => e = .returned (.int .i64 (placeR n ts)) ∧ w = w' := by
  obtain ⟨v, hB, hT⟩ := H
  cases ts with
  | nil =>
    obtain ⟨A, C, rfl, _⟩ := SlOf.at hT
    have h0 := hB.cell 0
    have h1 := hB.cell 1
    go_enter Tryz.func119, Tryz.ntmps119
    go_wp2
    go_ret
    exact ⟨rfl, rfl⟩
  | cons t ts =>
    obtain ⟨B, o, c, A, m, C, rfl, hb, c0, c1, c2, c3, _⟩ := hT.head
    have h0 := hB.cell 0
    go_enter Tryz.func119, Tryz.ntmps119
    go_wp2
    go_ret
    exact ⟨rfl, rfl⟩

set_option maxHeartbeats 2000000 in
theorem ris_any (S : List Nat) (b : Nat) (ts : List TokS) (n deep k : Int) (x : ByteArray) (w : World) (H : Rdr S w b ts n deep) :
    Calls Tryz.prog 87 #[.pointer (some ⟨b, 0, none⟩), .int .i64 k, .string x] w fun e w' => e = .returned (.bool (isR k x ts)) ∧ w = w' := by
  obtain ⟨v, hB, hT⟩ := H
  cases ts with
  | nil =>
    obtain ⟨A, C, rfl, _⟩ := SlOf.at hT
    have h0 := hB.cell 0
    go_enter Tryz.func87, Tryz.ntmps87
    go_wp2
    go_ret
    exact ⟨rfl, rfl⟩
  | cons t ts =>
    obtain ⟨B, o, c, A, m, C, rfl, hb, c0, c1, c2, c3, _⟩ := hT.head
    have h0 := hB.cell 0
    cases hk : (t.k == k)
    · have hr : isR k x (t :: ts) = false := by simp [isR, hk]
      rw [hr]
      go_enter Tryz.func87, Tryz.ntmps87
      go_wp2
      go_ret
      exact ⟨rfl, rfl⟩
    · by_cases hx : x.toList = []
      · have hr : isR k x (t :: ts) = true := by simp [isR, hk, hx]
        rw [hr]
        go_enter Tryz.func87, Tryz.ntmps87
        go_wp2
        go_ret
        exact ⟨rfl, rfl⟩
      · have hr : isR k x (t :: ts) = (t.t.toList == x.toList) := by simp [isR, hk, hx]
        rw [hr]
        clear hr
        have he : x.toList.isEmpty = false := by simpa using hx
        go_enter Tryz.func87, Tryz.ntmps87
        go_wp2
        go_ret
        exact ⟨rfl, rfl⟩

/-- The tokens behind the first one, wherever that leaves the address. -/
theorem run_tail (b o n c : Nat) (hc : n + 1 ≤ c) : ∃ (x : Addr) (c' : Nat), (n ≤ c' ∧ (0 < n → x = ⟨b, o + 4, none⟩)) ∧ ∀ w, (Instr.slice 87 (.slice (some ⟨b, o, none⟩) (n + 1) c) (some (.int .i64 1)) none none).run Tryz.prog w = .ok (.slice (some x) n c') w := by
  have hz : ∀ w, (sizeOf (Tryz.prog.elem 87)).run Tryz.prog w = .ok 4 w := fun _ => by kernel_rfl
  have hr : ∀ w, (Instr.slice 87 (.slice (some ⟨b, o, none⟩) (n + 1) c) (some (.int .i64 1)) none none).run Tryz.prog w = .ok (sliced (some ⟨b, o, none⟩) 1 (n + 1) c 4) w := fun w => by
    rw [run_slice_l w 87 (some ⟨b, o, none⟩) (n + 1) c (by kernel_rfl) .i64 1 (by omega) (by omega), hz]
    rfl
  unfold sliced at hr
  by_cases h1 : c = 1
  · refine ⟨⟨b, o, none⟩, c - 1, ⟨by omega, fun h => by omega⟩, fun w => ?_⟩
    rw [hr, if_pos h1]; rfl
  · refine ⟨⟨b, o + 4, none⟩, c - 1, ⟨by omega, fun _ => rfl⟩, fun w => ?_⟩
    rw [hr, if_neg h1]; rfl
set_option maxRecDepth 20000 in
set_option maxHeartbeats 1000000 in
theorem sign2_any (S : List Nat) (b : Nat) (ts : List TokS) (n deep : Int) (x : ByteArray) (w : World) (H : Rdr S w b ts n deep) (hS : b ∈ S) :
    Calls Tryz.prog 85 #[.pointer (some ⟨b, 0, none⟩), .string x] w fun e w' => e = .returned (.bool (isR 4 x ts)) ∧ Rdr S w' b (if isR 4 x ts then ts.tail else ts) n deep ∧ Keep [b] w w' := by
  cases hi : isR 4 x ts
  · go_enter Tryz.func85, Tryz.ntmps85
    go_wp2_with fail
    refine (ris_any S b ts n deep 4 x w H).mono ?_
    rintro e w1 ⟨rfl, rfl⟩
    rw [hi]
    go_wp2
    go_ret
    exact ⟨rfl, H, Keep.refl _ _⟩
  · cases ts with
    | nil => simp [isR] at hi
    | cons t ts =>
      obtain ⟨v, hB, hT⟩ := H
      have hT' := hT
      obtain ⟨B, o, c, A, m, C, rfl, hb, c0, c1, c2, c3, _⟩ := hT'.head
      go_enter Tryz.func85, Tryz.ntmps85
      go_wp2_with fail
      refine (ris_any S b (t :: ts) n deep 4 x w ⟨_, hB, hT⟩).mono ?_
      rintro e w1 ⟨rfl, rfl⟩
      rw [hi]
      obtain ⟨y, c', hy, hsl⟩ := run_tail B o ts.length c hb.2
      have h0 := hB.cell 0
      have f0 := hB.frozen 0
      go_wp2
      go_ret
      refine ⟨rfl, ⟨_, by simpa using hB.set 0 _, SlOf.move (hT.tail y c' hy.2 hy.1) tokRow_stab (by omega) (T := [b]) ((Keep.refl _ _).setCell (by simp) _) (by simp [hS]) (fun x hx => .inl hx)⟩, (Keep.refl _ _).setCell (by simp) _⟩

set_option maxHeartbeats 1000000 in
theorem fail_any (S : List Nat) (b : Nat) (ts : List TokS) (n deep e0 : Int) (w : World) (H : Rdr S w b ts n deep) :
    Calls Tryz.prog 88 #[.pointer (some ⟨b, 0, none⟩), .int .i64 e0] w fun e w' => e = PanE (e0, placeR n ts) ∧ Keep [] w w' := by
  go_enter Tryz.func88, Tryz.ntmps88
  go_wp2_with fail
  refine (place_any S b ts n deep _ H).mono ?_
  rintro e w1 ⟨rfl, rfl⟩
  go_wp2
  exact ⟨rfl, rfl, Keep.refl _ _⟩

def TakePost (S : List Nat) (b : Nat) (n deep : Int) (w : World) (r : Except Err (TokS × List TokS)) (e : Ending) (w' : World) : Prop :=
  Keep [b] w w' ∧ match r with
    | .ok (t, ts) => ∃ A m C, e = .returned (.agg #[.int .i64 t.k, .string t.t, .slice A m C, .int .i64 t.a]) ∧ Rngs S w' (.slice A m C) t.r ∧ Rdr S w' b ts n deep
    | .error x => e = PanE x
theorem takeR_no {n k : Int} {x : ByteArray} {ts : List TokS} (h : isR k x ts = false) : takeR n k x ts = .error (3, placeR n ts) := by
  cases ts with
  | nil => rfl
  | cons t ts => simp only [takeR, h]; rfl
set_option maxRecDepth 20000 in
set_option maxHeartbeats 2000000 in
theorem take_any (S : List Nat) (b : Nat) (ts : List TokS) (n deep k : Int) (x : ByteArray) (w : World) (H : Rdr S w b ts n deep) (hS : b ∈ S) :
    Calls Tryz.prog 86 #[.pointer (some ⟨b, 0, none⟩), .int .i64 k, .string x] w (TakePost S b n deep w (takeR n k x ts)) := by
  have K0 := (Keep.refl [] w).alloc (.cells #[.int .i64 0, .string { data := #[] }, .slice none 0 0, .int .i64 0] 130)
  have H1 := H.move K0 (by simp) (fun x hx => .inl hx)
  have hlt := H.lt
  cases hi : isR k x ts
  · rw [takeR_no hi]
    go_enter Tryz.func86, Tryz.ntmps86
    go_wp2_with fail
    refine (ris_any S b ts n deep k x _ H1).mono ?_
    rintro e w1 ⟨rfl, rfl⟩
    rw [hi]
    go_wp2_with fail
    refine (fail_any S b ts n deep 3 _ H1).mono ?_
    rintro e w1 ⟨rfl, K1⟩
    unfold PanE
    go_wp2
    exact ⟨rfl, (K0.trans K1).mono (by simp), rfl⟩
  · cases ts with
    | nil => simp [isR] at hi
    | cons t ts =>
      have hr : takeR n k x (t :: ts) = .ok (t, ts) := by simp [takeR, hi]
      rw [hr]
      obtain ⟨v, hB0, hT0⟩ := H
      have hT' := hT0
      obtain ⟨B, o, c, A, m, C, rfl, hb, c0, c1, c2, c3, hR0⟩ := hT'.head
      have hB := hB0.alloc (.cells #[.int .i64 0, .string { data := #[] }, .slice none 0 0, .int .i64 0] 130)
      have hT : Toks S (w.alloc (.cells #[.int .i64 0, .string { data := #[] }, .slice none 0 0, .int .i64 0] 130)) _ _ := SlOf.move hT0 tokRow_stab (by omega) K0 (by simp) (fun x hx => .inl hx)
      have c0 := K0.cell c0 (by simp)
      have c1 := K0.cell c1 (by simp)
      have c2 := K0.cell c2 (by simp)
      have c3 := K0.cell c3 (by simp)
      clear H1
      go_enter Tryz.func86, Tryz.ntmps86
      go_wp2_with fail
      refine (ris_any S b (t :: ts) n deep k x _ ⟨_, hB, hT⟩).mono ?_
      rintro e w1 ⟨rfl, rfl⟩
      rw [hi]
      obtain ⟨y, c', hy, hsl⟩ := run_tail B o ts.length c hb.2
      have h0 := hB.cell 0
      have f0 := hB.frozen 0
      go_wp2
      have KF : Keep [b] w (((w.setCell ⟨b, 0, none⟩ (.slice (some y) ts.length c')).alloc (.cells #[.int .i64 t.k, .string t.t, .slice A m C, .int .i64 t.a] 130)).alloc (.cells #[.int .i64 t.k, .string t.t, .slice A m C, .int .i64 t.a] 130)) := (((Keep.refl _ _).setCell (by simp) _).alloc _).alloc _
      refine bodyPost_ret (v := .agg #[.int .i64 t.k, .string t.t, .slice A m C, .int .i64 t.a]) (by simp [results, Tryz.results86, go_sem]) rfl ⟨?_, A, m, C, rfl, ?_, ?_⟩
      · exact KF
      · exact Sl.move hR0 (by omega) KF (by simp [hS]) (fun x hx => .inl hx)
      · exact ⟨_, by simpa using ((hB0.set 0 (.slice (some y) ts.length c')).alloc _).alloc _, SlOf.move (hT0.tail y c' hy.2 hy.1) tokRow_stab (by omega) KF (by simp [hS]) (fun x hx => .inl hx)⟩
end Go.Proofs.YtacihjabkiedcaaGreatDoor
/- What the reader comes to, in plain words; its small makers. -/
namespace Go.Proofs.YtacihjabkiedcaaGreatDoor
open Go Go.RowKit Go.MapKept

def sg (c : UInt8) : ByteArray := ⟨#[c]⟩
def oneR (k a : Int) : List PartS → PartS
  | [p] => p
  | l => .mk k ⟨#[]⟩ [] l a
def oftenR (p : PartS) (ts : List TokS) : PartS × List TokS :=
  if isR 4 (sg 42) ts then (.mk 6 ⟨#[]⟩ [] [p] p.a, ts.tail) else if isR 4 (sg 43) ts then (.mk 7 ⟨#[]⟩ [] [p] p.a, ts.tail)
  else if isR 4 (sg 63) ts then (.mk 8 ⟨#[]⟩ [] [p] p.a, ts.tail) else (p, ts)
abbrev PRes := Except Err (PartS × List TokS)
def seqL (atom : List TokS → Except Err (Option (PartS × List TokS))) : Nat → List PartS → List TokS → Except Err (List PartS × List TokS)
  | 0, l, ts => .ok (l, ts)
  | f + 1, l, ts => match atom ts with
    | .error e => .error e
    | .ok none => .ok (l, ts)
    | .ok (some (p, ts1)) => seqL atom f (l ++ [(oftenR p ts1).1]) (oftenR p ts1).2
def altL (seq : List TokS → PRes) : Nat → List PartS → List TokS → Except Err (List PartS × List TokS)
  | 0, l, ts => .ok (l, ts)
  | f + 1, l, ts => if isR 4 (sg 124) ts then (match seq ts.tail with
    | .error e => .error e
    | .ok (p, ts1) => altL seq f (l ++ [p]) ts1) else .ok (l, ts)
def groupR (n : Int) (alt : Option (List TokS → PRes)) (t : TokS) (rest : List TokS) : Except Err (Option (PartS × List TokS)) :=
  if isR 4 (sg 40) (t :: rest) then (match alt with
    | none => .error (4, t.a)
    | some f => match f rest with
      | .error e => .error e
      | .ok (p, ts1) => match takeR n 4 (sg 41) ts1 with
        | .error e => .error e
        | .ok (_, ts2) => .ok (some (p, ts2))) else .ok none
def atomR (n : Int) (alt : Option (List TokS → PRes)) : List TokS → Except Err (Option (PartS × List TokS))
  | [] => .ok none
  | t :: rest => if 0 ≤ t.k ∧ t.k ≤ 3 then .ok (some (.mk t.k t.t t.r [] t.a, rest)) else if t.k = 4 then groupR n alt t rest else .ok none
def seqR (n : Int) (alt : Option (List TokS → PRes)) (ts : List TokS) : PRes := match seqL (atomR n alt) (ts.length + 1) [] ts with
  | .error e => .error e
  | .ok (l, ts1) => .ok (oneR 4 (placeR n ts) l, ts1)
def altOf (n : Int) (alt : Option (List TokS → PRes)) (ts : List TokS) : PRes := match seqR n alt ts with
  | .error e => .error e
  | .ok (p, ts1) => match altL (seqR n alt) (ts1.length + 1) [p] ts1 with
    | .error e => .error e
    | .ok (l, ts2) => .ok (oneR 5 p.a l, ts2)
/-- One of several parts, d groups within one another at most. -/
def altR (n : Int) : Nat → List TokS → PRes
  | 0 => altOf n none
  | d + 1 => altOf n (some (altR n d))
def deeper (n : Int) : Nat → Option (List TokS → PRes)
  | 0 => none
  | d + 1 => some (altR n d)
theorem altR_eq (n : Int) (d : Nat) (ts : List TokS) : altR n d ts = altOf n (deeper n d) ts := by cases d <;> rfl

/-- No more tokens are left than there were. -/
def Short (f : List TokS → PRes) : Prop := ∀ ts p ts1, f ts = .ok (p, ts1) → ts1.length ≤ ts.length
theorem oftenR_len (p : PartS) (ts : List TokS) : (oftenR p ts).2.length ≤ ts.length := by
  unfold oftenR
  repeat' split
  all_goals simp
theorem takeR_len {n k : Int} {x : ByteArray} {ts : List TokS} {t : TokS} {ts1 : List TokS} (h : takeR n k x ts = .ok (t, ts1)) : ts1.length < ts.length := by
  cases ts with
  | nil => cases h
  | cons t0 ts =>
    simp only [takeR] at h
    split at h
    · simp only [Except.ok.injEq, Prod.mk.injEq] at h
      obtain ⟨rfl, rfl⟩ := h
      simp
    · cases h
theorem atomR_len {n : Int} {alt : Option (List TokS → PRes)} (ha : ∀ f, alt = some f → Short f) {ts : List TokS} {p : PartS} {ts1 : List TokS} (h : atomR n alt ts = .ok (some (p, ts1))) : ts1.length < ts.length := by
  cases ts with
  | nil => cases h
  | cons t rest =>
    simp only [atomR] at h
    split at h
    · simp only [Except.ok.injEq, Option.some.injEq, Prod.mk.injEq] at h
      obtain ⟨_, rfl⟩ := h
      simp
    · split at h
      · unfold groupR at h
        split at h
        · split at h
          · cases h
          · rename_i f
            split at h
            · cases h
            · rename_i q ts2 hf
              have h1 := ha f rfl _ _ _ hf
              split at h
              · cases h
              · rename_i t3 ts3 ht
                have h2 := takeR_len ht
                simp only [Except.ok.injEq, Option.some.injEq, Prod.mk.injEq] at h
                obtain ⟨_, rfl⟩ := h
                simp; omega
        · cases h
      · cases h
theorem seqL_len {atom : List TokS → Except Err (Option (PartS × List TokS))} (ha : ∀ ts p ts1, atom ts = .ok (some (p, ts1)) → ts1.length < ts.length) : ∀ f l ts l1 ts1, seqL atom f l ts = .ok (l1, ts1) → ts1.length ≤ ts.length
  | 0, l, ts, l1, ts1, h => by
    simp only [seqL, Except.ok.injEq, Prod.mk.injEq] at h
    rw [h.2]; exact Nat.le_refl _
  | f + 1, l, ts, l1, ts1, h => by
    unfold seqL at h
    split at h
    · cases h
    · simp only [Except.ok.injEq, Prod.mk.injEq] at h
      rw [h.2]; exact Nat.le_refl _
    · rename_i p ts2 hp
      have h1 := ha _ _ _ hp
      have h2 := seqL_len ha f _ _ _ _ h
      have h3 := oftenR_len p ts2
      omega
theorem seqR_short {n : Int} {alt : Option (List TokS → PRes)} (ha : ∀ f, alt = some f → Short f) : Short (seqR n alt) := by
  intro ts p ts1 h
  unfold seqR at h
  split at h
  · cases h
  · rename_i l ts2 hl
    simp only [Except.ok.injEq, Prod.mk.injEq] at h
    rw [← h.2]
    exact seqL_len (fun _ _ _ h => atomR_len ha h) _ _ _ _ _ hl
theorem altL_len {seq : List TokS → PRes} (hs : Short seq) : ∀ f l ts l1 ts1, altL seq f l ts = .ok (l1, ts1) → ts1.length ≤ ts.length
  | 0, l, ts, l1, ts1, h => by
    simp only [altL, Except.ok.injEq, Prod.mk.injEq] at h
    rw [h.2]; exact Nat.le_refl _
  | f + 1, l, ts, l1, ts1, h => by
    unfold altL at h
    split at h
    · split at h
      · cases h
      · rename_i p ts2 hp
        have h1 := hs _ _ _ hp
        have h2 := altL_len hs f _ _ _ _ h
        simp at h1; omega
    · simp only [Except.ok.injEq, Prod.mk.injEq] at h
      rw [h.2]; exact Nat.le_refl _
theorem altOf_short {n : Int} {alt : Option (List TokS → PRes)} (ha : ∀ f, alt = some f → Short f) : Short (altOf n alt) := by
  intro ts p ts1 h
  unfold altOf at h
  split at h
  · cases h
  · rename_i q ts2 hq
    have h1 := seqR_short ha _ _ _ hq
    split at h
    · cases h
    · rename_i l ts3 hl
      have h2 := altL_len (seqR_short ha) _ _ _ _ _ hl
      simp only [Except.ok.injEq, Prod.mk.injEq] at h
      rw [← h.2]; omega
theorem altR_short (n : Int) : ∀ d, Short (altR n d)
  | 0 => altOf_short (fun f h => by cases h)
  | d + 1 => altOf_short (fun f h => by cases h; exact altR_short n d)
theorem deeper_short (n : Int) (d : Nat) : ∀ f, deeper n d = some f → Short f := by
  cases d with
  | zero => intro f h; cases h
  | succ d => intro f h; cases h; exact altR_short n d

/-- What a part's maker hands back. -/
def PartPost (S : List Nat) (b : Nat) (n deep : Int) (w : World) (r : PRes) (e : Ending) (w' : World) : Prop :=
  Keep [b] w w' ∧ match r with
    | .ok (p, ts) => ∃ row, e = .returned (.agg row) ∧ PartAt S w' p row ∧ Rdr S w' b ts n deep
    | .error x => e = PanE x
def AtomPost (S : List Nat) (b : Nat) (n deep : Int) (w : World) (ts0 : List TokS) (r : Except Err (Option (PartS × List TokS))) (e : Ending) (w' : World) : Prop :=
  Keep [b] w w' ∧ match r with
    | .ok (some (p, ts)) => ∃ row, e = .returned (.tuple #[.agg row, .bool true]) ∧ PartAt S w' p row ∧ Rdr S w' b ts n deep
    | .ok none => e = .returned (.tuple #[.agg #[.int .i64 0, .string { data := #[] }, .slice none 0 0, .slice none 0 0, .int .i64 0], .bool false]) ∧ Rdr S w' b ts0 n deep
    | .error x => e = PanE x
end Go.Proofs.YtacihjabkiedcaaGreatDoor
