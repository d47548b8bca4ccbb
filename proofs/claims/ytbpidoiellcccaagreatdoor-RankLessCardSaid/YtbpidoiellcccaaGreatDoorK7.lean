/- A text's tokens. -/
import Derived.Test.YtbpidoiellcccaaGreatDoorK3
import Derived.Test.YtbpidoiellcccaaGreatDoorK6
import Derived.Test.YtbpidoiellcccaaGreatDoorK1
import Derived.Test.YtbpidoiellcccaaGreatDoorK2
import Derived.Deep.AppendLies
import Derived.Lib.SliceRun
set_option linter.unusedVariables false
set_option linter.unusedSimpArgs false
namespace Go.Proofs.YtbpidoiellcccaaGreatDoor
open Go Go.RowKit

/-- A token: its kind, text, set and place. -/
structure TokS where
  k : Int
  t : ByteArray
  r : List Rng
  a : Int
def TokRow (S : List Nat) (w : World) (x : TokS) (row : Array Value) : Prop := ∃ v, row = #[.int .i64 x.k, .string x.t, v, .int .i64 x.a] ∧ Rngs S w v x.r
theorem tokRow_stab : Stab TokRow := by
  rintro S T S' w w' x row ⟨v, h1, h2⟩ K hT hS
  exact ⟨v, h1, Sl.move h2 (by omega) K hT hS⟩
/-- A slice of tokens. -/
def Toks (S : List Nat) (w : World) (v : Value) (ts : List TokS) : Prop := SlOf TokRow S w 4 v ts

/-- The first place from i on that is no blank. -/
def skipB (s : ByteArray) (i : Nat) : Nat := s.size - (Lib.trimLeftS (s.data.toList.drop i) [32, 9, 10, 13]).length
abbrev WayR := Option (Int × ByteArray × List Rng × Nat)
/-- The token that begins at i, and where it ends; how sets are read is left open. -/
def wayR (cR bR : ByteArray → Nat → WayR) (s : ByteArray) (i : Nat) : WayR := match s.data[i]? with
  | none => none
  | some c =>
    if c.toNat = 64 then (if isMark (s.extract (i + 1) (i + 1 + wordN (s.data.toList.drop (i + 1)) false)) then some (5, s.extract (i + 1) (i + 1 + wordN (s.data.toList.drop (i + 1)) false), [], i + 1 + wordN (s.data.toList.drop (i + 1)) false) else none)
    else if c.toNat = 34 then litTok (litR s (s.size + 1) (i + 1) [])
    else if c.toNat = 91 then cR s i
    else if c.toNat = 60 then bR s i
    else if c.toNat = 61 ∨ c.toNat = 124 ∨ c.toNat = 59 ∨ c.toNat = 40 ∨ c.toNat = 41 ∨ c.toNat = 42 ∨ c.toNat = 43 ∨ c.toNat = 63 ∨ c.toNat = 47 ∨ c.toNat = 37 then some (4, s.extract i (i + 1), [], i + 1)
    else if 0 < wordN (s.data.toList.drop i) false ∧ wordN (s.data.toList.drop i) false ≤ 12 then some (0, s.extract i (i + wordN (s.data.toList.drop i) false), [], i + wordN (s.data.toList.drop i) false) else none
/-- All tokens from i on, behind some; where it ended, and the error's number. -/
def lexR (cR bR : ByteArray → Nat → WayR) (s : ByteArray) : Nat → Nat → List TokS → List TokS × Nat × Nat
  | 0, _, _ => ([], 0, 0)
  | n + 1, i, acc =>
    if skipB s i = s.size then (acc, s.size, 0)
    else match wayR cR bR s (skipB s i) with
      | none => ([], skipB s i, 2)
      | some (k, t, r, j) => if acc.length = 600 then ([], skipB s i, 7) else lexR cR bR s n j (acc ++ [⟨k, t, r, skipB s i⟩])
/-- The function by which a byte's token is read. -/
def wayN (c : Nat) : Nat := (wayF c).getD 65

/-- How a set is read is as cR, bR say, wherever one begins in s. -/
def SetsAt (f : Nat) (c0 : Nat) (cR : ByteArray → Nat → WayR) (s : ByteArray) : Prop :=
  ∀ (b i : Nat) (w : World) (hi : i < s.size), Scan w b s i → (s[i]'hi).toNat = c0 → Calls Tryz.prog f #[.pointer (some ⟨b, 0, none⟩)] w (WayPost b s w (cR s i))

theorem way_any (cR bR : ByteArray → Nat → WayR) (s : ByteArray) (hm : s.size ≤ 4096) (hC : SetsAt 91 91 cR s) (hB : SetsAt 92 60 bR s)
    (b i : Nat) (w : World) (hi : i < s.size) (H : Scan w b s i) (n : Nat) (hn : n = wayN (s[i]'hi).toNat) :
    Calls Tryz.prog n #[.pointer (some ⟨b, 0, none⟩)] w (WayPost b s w (wayR cR bR s i)) := by
  subst hn
  have hd := digitByte s i hi
  unfold wayN wayF wayR
  rw [hd]
  simp only
  by_cases h1 : (s[i]'hi).toNat = 64
  · simp only [h1, if_true, Option.getD_some]
    refine (mark_any b s i _ w H hm hi rfl).mono ?_
    rintro e w' ⟨rfl, h2, h3⟩
    refine ⟨h3, ?_⟩
    by_cases hk : isMark (s.extract (i + 1) (i + 1 + wordN (s.data.toList.drop (i + 1)) false)) = true
    · rw [if_pos hk, hk]; exact ⟨_, rfl, fun _ _ => Sl.nil _ _ _, h2⟩
    · rw [if_neg hk, (by simpa using hk : isMark (s.extract (i + 1) (i + 1 + wordN (s.data.toList.drop (i + 1)) false)) = false)]; exact ⟨_, _, none, 0, 0, _, rfl, h2⟩
  by_cases h2 : (s[i]'hi).toNat = 34
  · simp only [h1, h2, if_true, if_false, Option.getD_some]
    exact lit_any b s i w H hm hi _ rfl
  by_cases h3 : (s[i]'hi).toNat = 91
  · simp only [h1, h2, h3, if_true, if_false, Option.getD_some]
    exact hC b i w hi H h3
  by_cases h4 : (s[i]'hi).toNat = 60
  · simp only [h1, h2, h3, h4, if_true, if_false, Option.getD_some]
    exact hB b i w hi H h4
  simp only [h1, h2, h3, h4, if_false]
  by_cases h5 : ((s[i]'hi).toNat = 61 ∨ (s[i]'hi).toNat = 124 ∨ (s[i]'hi).toNat = 59 ∨ (s[i]'hi).toNat = 40 ∨ (s[i]'hi).toNat = 41 ∨ (s[i]'hi).toNat = 42 ∨ (s[i]'hi).toNat = 43 ∨ (s[i]'hi).toNat = 63 ∨ (s[i]'hi).toNat = 47 ∨ (s[i]'hi).toNat = 37)
  · rw [if_pos h5, if_pos h5]
    refine (sign_any b s i w H hm hi).mono ?_
    rintro e w' ⟨rfl, h2, h3⟩
    exact ⟨h3, _, rfl, fun _ _ => Sl.nil _ _ _, h2⟩
  · rw [if_neg h5, if_neg h5]
    refine (name_any b s i _ w H hm (by omega) rfl).mono ?_
    rintro e w' ⟨rfl, h2, h3⟩
    refine ⟨h3, ?_⟩
    by_cases hk : 0 < wordN (s.data.toList.drop i) false ∧ wordN (s.data.toList.drop i) false ≤ 12
    · rw [if_pos hk, show (decide (0 < wordN (s.data.toList.drop i) false) && decide (wordN (s.data.toList.drop i) false ≤ 12)) = true by simpa using hk]; exact ⟨_, rfl, fun _ _ => Sl.nil _ _ _, h2⟩
    · rw [if_neg hk, show (decide (0 < wordN (s.data.toList.drop i) false) && decide (wordN (s.data.toList.drop i) false ≤ 12)) = false by simpa using hk]; exact ⟨_, _, none, 0, 0, _, rfl, h2⟩
end Go.Proofs.YtbpidoiellcccaaGreatDoor
namespace Go.Proofs.YtbpidoiellcccaaGreatDoor
open Go Go.RowKit

theorem Keep.cell {T : List Nat} {w w' : World} (K : Keep T w w') {a : Addr} {v : Value} (h : w.cell? a = some v) (ha : a.block ∉ T) : w'.cell? a = some v :=
  (World.cell?_of_block (K.block a.block (World.block_lt_of_cell? w a h) ha)).trans h
/-- A part of a rule: its kind, bytes, set, parts and place. -/
inductive PartS where
  | mk (k : Int) (t : ByteArray) (r : List Rng) (l : List PartS) (a : Int)
def PartS.a : PartS → Int | .mk _ _ _ _ a => a
def PartS.k : PartS → Int | .mk k _ _ _ _ => k
inductive PartAt (S : List Nat) (w : World) : PartS → Array Value → Prop where
  | mk (k : Int) (t : ByteArray) (r : List Rng) (l : List PartS) (a : Int) (rv lv : Value) (rows : List (Array Value)) (hr : Rngs S w rv r) (hl : Sl S w 5 lv rows) (hn : rows.length = l.length)
      (hp : ∀ i (h : i < l.length) (h' : i < rows.length), PartAt S w l[i] rows[i]) : PartAt S w (.mk k t r l a) #[.int .i64 k, .string t, rv, lv, .int .i64 a]
theorem partAt_stab : Stab PartAt := by
  intro S T S' w w' x row h K hT hS
  induction h with
  | mk k t r l a rv lv rows hr hl hn hp ih => exact .mk k t r l a rv lv rows (Sl.move hr (by omega) K hT hS) (Sl.move hl (by omega) K hT hS) hn ih
theorem PartAt.size {S : List Nat} {w : World} {x : PartS} {row : Array Value} (h : PartAt S w x row) : row.size = 5 := by cases h; rfl
theorem PartAt.form {S : List Nat} {w : World} {x : PartS} {row : Array Value} (h : PartAt S w x row) : ∃ k t A n C B m D a, row = #[.int .i64 k, .string t, .slice A n C, .slice B m D, .int .i64 a] ∧ k = x.k ∧ a = x.a := by
  cases h with
  | mk k t r l a rv lv rows hr hl hn hp =>
    obtain ⟨A, C, rfl, _⟩ := hr
    obtain ⟨B, D, rfl, _⟩ := hl
    exact ⟨k, t, A, _, C, B, _, D, a, rfl, rfl, rfl⟩
theorem PartAt.of {S : List Nat} {w : World} {k : Int} {t : ByteArray} {r : List Rng} {l : List PartS} {a : Int} {rv lv : Value} (hr : Rngs S w rv r) (hl : SlOf PartAt S w 5 lv l) : PartAt S w (.mk k t r l a) #[.int .i64 k, .string t, rv, lv, .int .i64 a] := by
  obtain ⟨rows, h1, h2, h3⟩ := hl
  exact .mk _ _ _ _ _ _ _ rows hr h1 h2 h3

/-- The reader at block b: the tokens that are left, the text's length, how deep it is. -/
def Rdr (S : List Nat) (w : World) (b : Nat) (ts : List TokS) (n deep : Int) : Prop := ∃ v, Blk w b #[v, .int .i64 n, .int .i64 deep] 81 ∧ Toks S w v ts
theorem Rdr.move {S T S' : List Nat} {w w' : World} {b : Nat} {ts : List TokS} {n deep : Int} (h : Rdr S w b ts n deep) (K : Keep T w w') (hT : ∀ x ∈ T, (x ∈ S ∧ x ≠ b) ∨ w.heap.size ≤ x) (hS : ∀ x ∈ S', x ∈ S ∨ w.heap.size ≤ x) : Rdr S' w' b ts n deep := by
  obtain ⟨v, hb, ht⟩ := h
  refine ⟨v, hb.keep K (fun hx => ?_), SlOf.move ht tokRow_stab (by omega) K (fun x hx => ?_) hS⟩
  · rcases hT b hx with ⟨_, h⟩ | h
    · exact h rfl
    · have := hb.lt; omega
  · rcases hT x hx with ⟨h, _⟩ | h
    · exact .inl h
    · exact .inr h
theorem Rdr.lt {S : List Nat} {w : World} {b : Nat} {ts : List TokS} {n deep : Int} (h : Rdr S w b ts n deep) : b < w.heap.size := by
  obtain ⟨v, hb, ht⟩ := h
  exact hb.lt

/-- What is wrong: the error's number, and the place. -/
abbrev Err := Int × Int
def PanE (x : Err) : Ending := .panicked [{ v := .iface 78 (.agg #[.int .i64 x.1, .int .i64 x.2]), recovered := false }]
def placeR (n : Int) : List TokS → Int
  | [] => n
  | t :: _ => t.a
def isR (k : Int) (x : ByteArray) : List TokS → Bool
  | [] => false
  | t :: _ => t.k == k && (x.toList == [] || t.t.toList == x.toList)
def takeR (n k : Int) (x : ByteArray) : List TokS → Except Err (TokS × List TokS)
  | [] => .error (3, n)
  | t :: ts => if isR k x (t :: ts) then .ok (t, ts) else .error (3, t.a)
end Go.Proofs.YtbpidoiellcccaaGreatDoor
namespace Go.Proofs.YtbpidoiellcccaaGreatDoor
open Go Go.RowKit Go.Shelf

theorem trim_any (s : ByteArray) (w : World) : Calls Tryz.prog 64 #[.string s, .string { data := #[32, 9, 10, 13] }] w fun e w' =>
    e = .returned (.string ⟨(Lib.trimLeftS s.data.toList [32, 9, 10, 13]).toArray⟩) ∧ Keep [] w w' := by
  refine (Any.strings_TrimLeft_laid Tryz.lays161 (by kernel_rfl) s ⟨#[32, 9, 10, 13]⟩ w (by decide) (ascii_of_all (by decide))).mono ?_
  rintro e w' ⟨rfl, h⟩
  exact ⟨rfl, Keep.of_below h⟩

/-- What a set's reader hands back lies within the text, behind where it began. -/
def Ahead (cR : ByteArray → Nat → WayR) (s : ByteArray) : Prop := ∀ i k t r j, cR s i = some (k, t, r, j) → i < j ∧ j ≤ s.size
theorem isB_lt {s : ByteArray} {i : Nat} {c : Int} (h : isB s i c = true) : i < s.size := by
  unfold isB at h
  by_cases h1 : i < s.size
  · exact h1
  · simp [h1] at h
theorem litR_ahead (s : ByteArray) : ∀ n i acc l j, litR s n i acc = some (l, j) → i < j ∧ j ≤ s.size
  | 0, _, _, _, _, h => by simp [litR] at h
  | n + 1, i, acc, l, j, h => by
    by_cases hi : i < s.size
    · rw [litR, digitByte s i hi] at h
      simp only at h
      split at h
      · simp only [Option.some.injEq, Prod.mk.injEq] at h; omega
      · split at h
        · split at h
          · rename_i hx
            have h1 := isB_lt hx
            have hsz := numR_size s 2 (i + 2) 0 (by omega)
            unfold hexR at h
            split at h
            · rename_i v hv
              split at hv
              · rename_i h2
                have := litR_ahead s n _ _ _ _ h
                omega
              · cases hv
            · cases h
          · cases h
        · split at h
          · cases h
          · have := litR_ahead s n _ _ _ _ h
            omega
    · rw [litR_end hi] at h; cases h
theorem wayR_ahead {cR bR : ByteArray → Nat → WayR} {s : ByteArray} (hc : Ahead cR s) (hb : Ahead bR s) {i : Nat} {k : Int} {t : ByteArray} {r : List Rng} {j : Nat} (h : wayR cR bR s i = some (k, t, r, j)) : i < j ∧ j ≤ s.size := by
  have hi : i < s.size := by
    by_cases h1 : i < s.size
    · exact h1
    · unfold wayR at h
      rw [Array.getElem?_eq_none (show s.data.size ≤ i from Nat.le_of_not_lt h1)] at h; cases h
  have hw : ∀ a b, a ≤ s.size → a + wordN (s.data.toList.drop a) b ≤ s.size := fun a b ha => by
    have := wordN_le (s.data.toList.drop a) b
    simp at this
    have e : s.data.size = s.size := rfl
    omega
  unfold wayR at h
  rw [digitByte s i hi] at h
  simp only at h
  split at h
  · split at h
    · simp only [Option.some.injEq, Prod.mk.injEq] at h
      have := hw (i + 1) false (by omega)
      omega
    · cases h
  · split at h
    · unfold litTok at h
      split at h
      · rename_i l j' hl
        split at h
        · simp only [Option.some.injEq, Prod.mk.injEq] at h
          have := litR_ahead s _ _ _ _ _ hl
          omega
        · cases h
      · cases h
    · split at h
      · exact hc _ _ _ _ _ h
      · split at h
        · exact hb _ _ _ _ _ h
        · split at h
          · simp only [Option.some.injEq, Prod.mk.injEq] at h; omega
          · split at h
            · simp only [Option.some.injEq, Prod.mk.injEq] at h
              have := hw i false (by omega)
              omega
            · cases h

theorem skipB_le (s : ByteArray) (i : Nat) (hi : i ≤ s.size) : i ≤ skipB s i ∧ skipB s i ≤ s.size := by
  unfold skipB Lib.trimLeftS
  have h := (List.dropWhile_suffix (fun x => List.contains [32, 9, 10, 13] x) (l := s.data.toList.drop i)).length_le
  have e : (s.data.toList.drop i).length = s.size - i := by simp
  omega
theorem info_tok : (Tryz.prog.info? 132).map (fun i => (i.zero, i.size, i.bytes)) = some (some (.agg #[.int .i64 0, .string { data := #[] }, .slice none 0 0, .int .i64 0]), 4, 56) := by kernel_rfl

theorem lexR_end {cR bR : ByteArray → Nat → WayR} {s : ByteArray} {n i : Nat} {acc : List TokS} (hn : 0 < n) (h : skipB s i = s.size) : lexR cR bR s n i acc = (acc, s.size, 0) := by
  obtain ⟨m, rfl⟩ : ∃ m, n = m + 1 := ⟨n - 1, by omega⟩
  rw [lexR, if_pos h]
theorem lexR_bad {cR bR : ByteArray → Nat → WayR} {s : ByteArray} {n i : Nat} {acc : List TokS} (hn : 0 < n) (h : skipB s i ≠ s.size) (hw : wayR cR bR s (skipB s i) = none) : lexR cR bR s n i acc = ([], skipB s i, 2) := by
  obtain ⟨m, rfl⟩ : ∃ m, n = m + 1 := ⟨n - 1, by omega⟩
  rw [lexR, if_neg h, hw]
theorem lexR_go {cR bR : ByteArray → Nat → WayR} {s : ByteArray} {n i : Nat} {acc : List TokS} {k : Int} {t : ByteArray} {r : List Rng} {j : Nat} (hn : 0 < n) (h : skipB s i ≠ s.size) (hw : wayR cR bR s (skipB s i) = some (k, t, r, j)) :
    lexR cR bR s n i acc = if acc.length = 600 then ([], skipB s i, 7) else lexR cR bR s (n - 1) j (acc ++ [⟨k, t, r, skipB s i⟩]) := by
  obtain ⟨m, rfl⟩ : ∃ m, n = m + 1 := ⟨n - 1, by omega⟩
  rw [lexR, if_neg h, hw]; rfl

/-- What the walk of All knows at the head of a round. -/
def AllAt (S0 : List Nat) (cR bR : ByteArray → Nat → WayR) (s : ByteArray) (w : World) (goal : List TokS × Nat × Nat) (v : Value) (wr : World) : Prop :=
  ∃ (n i : Nat) (acc : List TokS), i ≤ s.size ∧ s.size < n + i ∧ acc.length ≤ 600 ∧ Scan wr w.heap.size s i ∧ OwnL TokRow (w.heap.size :: S0) wr (w.heap.size + 2) 132 4 v acc ∧ MapB wr (w.heap.size + 1) (wayE 10) 14 ∧ Keep [] w wr ∧ lexR cR bR s n i acc = goal

theorem callWay {c nn : Nat} (h : wayF c = some nn) (args : Array Value) (w : World) : (callFunc nn args).run Tryz.prog w = .ok (.enter nn args) w := by
  have e : nn = 89 ∨ nn = 90 ∨ nn = 91 ∨ nn = 92 ∨ nn = 93 := by
    unfold wayF at h
    split at h
    · simp only [Option.some.injEq] at h; omega
    · split at h
      · simp only [Option.some.injEq] at h; omega
      · split at h
        · simp only [Option.some.injEq] at h; omega
        · split at h
          · simp only [Option.some.injEq] at h; omega
          · split at h
            · simp only [Option.some.injEq] at h; omega
            · cases h
  have h1 : ∀ args w, (callFunc 89 args).run Tryz.prog w = .ok (.enter 89 args) w := fun _ _ => by kernel_rfl
  have h2 : ∀ args w, (callFunc 90 args).run Tryz.prog w = .ok (.enter 90 args) w := fun _ _ => by kernel_rfl
  have h3 : ∀ args w, (callFunc 91 args).run Tryz.prog w = .ok (.enter 91 args) w := fun _ _ => by kernel_rfl
  have h4 : ∀ args w, (callFunc 92 args).run Tryz.prog w = .ok (.enter 92 args) w := fun _ _ => by kernel_rfl
  have h5 : ∀ args w, (callFunc 93 args).run Tryz.prog w = .ok (.enter 93 args) w := fun _ _ => by kernel_rfl
  rcases e with rfl | rfl | rfl | rfl | rfl
  · exact h1 _ _
  · exact h2 _ _
  · exact h3 _ _
  · exact h4 _ _
  · exact h5 _ _

set_option maxRecDepth 100000 in
set_option maxHeartbeats 4000000 in
theorem all_any (S0 : List Nat) (cR bR : ByteArray → Nat → WayR) (s : ByteArray) (hm : s.size ≤ 3000) (hC : SetsAt 91 91 cR s) (hB : SetsAt 92 60 bR s) (hcA : Ahead cR s) (hbA : Ahead bR s) (w : World) (hS0 : ∀ x ∈ S0, x < w.heap.size)
    (ts : List TokS) (a e0 : Nat) (hr : lexR cR bR s (s.size + 1) 0 [] = (ts, a, e0)) :
    Calls Tryz.prog 42 #[.string s] w fun e w' => (∃ v, e = .returned (.tuple #[v, .int .i64 a, .int .i64 e0]) ∧ Toks S0 w' v ts) ∧ Keep [] w w' := by
  have HR := Lib.hid hr; clear hr
  have hgt : ¬ (3000 : Int) < (s.size : Int) := by omega
  go_enter Tryz.func42, Tryz.ntmps42
  go_wp2_with fail
  refine (ways_any _).mono ?_
  rintro e w1 ⟨rfl, M1, K1⟩
  have B0 := (Blk.new w #[.string s, .int .i64 0] 125).keep K1 (by simp)
  have K2 := ((Keep.refl [] w).alloc _).trans K1
  have hsz : (w.alloc (.cells #[.string s, .int .i64 0] 125)).heap.size = w.heap.size + 1 := by simp
  rw [hsz] at M1 ⊢
  clear K1 hsz
  have hst : AllAt S0 cR bR s w (ts, a, e0) (.slice none 0 0) w1 := ⟨s.size + 1, 0, [], by omega, by omega, by simp, B0, OwnL.nil _ _ _ _ _, M1, K2, HR.out⟩
  have HST := Lib.hid hst; clear hst B0 M1 K2 HR
  go_wp2
  go_loopw [7] (fun v wr => AllAt S0 cR bR s w (ts, a, e0) v wr) (fun _ wr => s.size - (intOf ((wr.cell? ⟨w.heap.size, 1, none⟩).getD undef)).toNat)
  case atStart => exact HST.out
  case round =>
    clear HST
    obtain ⟨n, i, acc, hi, hn, hacc, Hr, Hown, HM, Kr, hr⟩ := hrel
    obtain ⟨A, C, rfl⟩ := Hown.slice
    have HR := Lib.hid hr; clear hr
    have h0 : wr.cell? ⟨w.heap.size, 0, none⟩ = some (.string s) := Hr.cell 0
    have h1 : wr.cell? ⟨w.heap.size, 1, none⟩ = some (.int .i64 i) := Hr.cell 1
    have HMS := Lib.hid h1
    have hbnd : (i : Int) ≤ s.size := by omega
    go_wp2_with fail
    refine (trim_any _ _).mono ?_
    rintro e w2 ⟨rfl, K2⟩
    rw [toList_extract_end s i]
    have hsk := skipB_le s i hi
    have hsub : (s.size : Int) - ((⟨(Lib.trimLeftS (s.data.toList.drop i) [32, 9, 10, 13]).toArray⟩ : ByteArray).size : Int) = (skipB s i : Int) := by
      have h1 : ((⟨(Lib.trimLeftS (s.data.toList.drop i) [32, 9, 10, 13]).toArray⟩ : ByteArray).size) = (Lib.trimLeftS (s.data.toList.drop i) [32, 9, 10, 13]).length := by
        simp [ByteArray.size]
      rw [h1]
      have h2 := (List.dropWhile_suffix (fun x => List.contains [32, 9, 10, 13] x) (l := s.data.toList.drop i)).length_le
      unfold skipB Lib.trimLeftS
      have h3 : (s.data.toList.drop i).length = s.size - i := by simp
      omega
    generalize (⟨(Lib.trimLeftS (s.data.toList.drop i) [32, 9, 10, 13]).toArray⟩ : ByteArray) = tr at hsub ⊢
    generalize hf : skipB s i = f at hsub hsk
    have HF := Lib.hid hf; clear hf
    have Hr2 := Hr.keep K2 (by simp)
    have HM2 := HM.keep K2 (by simp)
    have Ho2 := Hown.move tokRow_stab K2 (S' := w.heap.size :: S0) (by simp) (fun b hb => .inl hb)
    have K3 := Kr.trans K2
    clear Hr HM Hown Kr K2 h0 h1 hbnd
    have g0 : w2.cell? ⟨w.heap.size, 0, none⟩ = some (.string s) := Hr2.cell 0
    have g1 : w2.cell? ⟨w.heap.size, 1, none⟩ = some (.int .i64 i) := Hr2.cell 1
    have gf : w2.frozen? ⟨w.heap.size, 1, none⟩ = false := Hr2.frozen 1
    have Hr3 : Scan (w2.setCell ⟨w.heap.size, 1, none⟩ (.int .i64 f)) w.heap.size s f := Scan.move Hr2 f rfl
    have HM3 := HM2.setCell ⟨w.heap.size, 1, none⟩ (by simp) (.int .i64 f)
    have KS : Keep [w.heap.size] w2 (w2.setCell ⟨w.heap.size, 1, none⟩ (.int .i64 f)) := (Keep.refl _ _).setCell (by simp) _
    have Ho3 := Ho2.move tokRow_stab KS (S' := w.heap.size :: S0) (fun b hb => .inl ⟨by simp at hb; simp [hb], fun h => by have := (Ho2.base b h).1; simp at hb; omega⟩) (fun b hb => .inl hb)
    have K4 : Keep [] w (w2.setCell ⟨w.heap.size, 1, none⟩ (.int .i64 f)) := K3.setCell (by simp) _
    by_cases hend : f = s.size
    · subst hend
      have hb : ((s.size : Int) == (s.size : Int)) = true := by simp
      have hr := HR.out
      rw [lexR_end (by omega) HF.out] at hr
      have HR' := Lib.hid hr; clear hr HR
      go_wp2
      go_ret3
      have hr := HR'.out
      simp only [Prod.mk.injEq] at hr
      obtain ⟨rfl, rfl, rfl⟩ := hr
      exact ⟨⟨_, rfl, Ho3.read tokRow_stab (fun b hb => .inl (by simp [hb])) (fun b hb hb' => by have h1 := (Ho3.base b hb).1; have := hS0 b hb'; omega)⟩, K4⟩
    · have hfl : f < s.size := by omega
      have hb : ((f : Int) == (s.size : Int)) = false := by simp; omega
      have hlk := way_look _ _ (s[f]'hfl).toNat _ HM3
      have hne : skipB s i ≠ s.size := by rw [HF.out]; exact hend
      clear hend
      have key : ∀ (w4 : World) (e : Ending), WayPost w.heap.size s (w2.setCell ⟨w.heap.size, 1, none⟩ (.int .i64 f)) (wayR cR bR s f) e w4 → True := fun _ _ _ => trivial
      clear key
      have hq1 : ∀ w, (binOp .eql 129 .nilFunc .nilFunc).run Tryz.prog w = .ok (.bool true) w := fun _ => by kernel_rfl
      have hq2 : ∀ n w, (binOp .eql 129 (.func (.func n) #[] #[]) .nilFunc).run Tryz.prog w = .ok (.bool false) w := fun _ _ => by kernel_rfl
      have hwn : ∀ nn, (wayF (s[f]'hfl).toNat).getD 65 = nn → nn = wayN (s[f]'hfl).toNat := fun nn h => by rw [← h]; rfl
      have HWN := Lib.hid hwn; clear hwn
      obtain ⟨i0, hi0, hz0, hz1, hz2⟩ := info_parts info_tok
      cases hwf : wayF (s[f]'hfl).toNat
      case' none =>
        have hv : wayV (s[f]'hfl).toNat = .nilFunc := by unfold wayV; rw [hwf]
        have hn' := HWN.out 65 (by rw [hwf]; rfl)
        have hcf : True := trivial
      case' some nn =>
        have hv : wayV (s[f]'hfl).toNat = .func (.func nn) #[] #[] := by unfold wayV; rw [hwf]; rfl
        have hn' := HWN.out nn (by rw [hwf]; rfl)
        have hcf := fun args w => callWay hwf args w
      all_goals
        rw [hv] at hlk
        have HN' := Lib.hid hn'
        clear hn' hv hwf HWN
        go_wp2_with fail
        refine (way_any cR bR s (by omega) hC hB w.heap.size f _ hfl Hr3 _ HN'.out).mono ?_
        rintro e w4 ⟨K5, hres⟩
        have HM4 := HM3.keep K5 (by simp)
        have Ho4 := Ho3.move tokRow_stab K5 (S' := w.heap.size :: S0) (fun b hb => .inl ⟨by simp at hb; simp [hb], fun h => by have := (Ho3.base b h).1; simp at hb; omega⟩) (fun b hb => .inl hb)
        have K6 := K4.then K5 (by simp)
        clear hlk hq1 hq2 hcf
        cases hw : wayR cR bR s f with
        | none =>
          rw [hw] at hres
          obtain ⟨k, t, A2, n2, C2, j, rfl, H4⟩ := hres
          have hr := HR.out
          rw [lexR_bad (by omega) hne (by rw [HF.out]; exact hw), HF.out] at hr
          have HR' := Lib.hid hr; clear hr HR hw hne
          unfold tokV
          go_wp2
          go_ret3
          have hr := HR'.out
          simp only [Prod.mk.injEq] at hr
          obtain ⟨rfl, rfl, rfl⟩ := hr
          exact ⟨⟨_, rfl, SlOf.nil _ _ _⟩, K6.alloc _⟩
        | some p =>
          obtain ⟨k, t, r, j⟩ := p
          rw [hw] at hres
          obtain ⟨v, rfl, hv, H4⟩ := hres
          have hr := HR.out
          rw [lexR_go (by omega) hne (by rw [HF.out]; exact hw), HF.out] at hr
          have HR' := Lib.hid hr; clear hr HR
          have haj := wayR_ahead hcA hbA hw
          obtain ⟨A2, C2, hvv, hvx⟩ := hv [] (by simp)
          rw [List.length_map] at hvv
          clear hvx
          subst hvv
          have HV := Lib.hid hv; clear hv
          clear hw hne
          unfold tokV
          by_cases h600 : acc.length = 600
          · have hb6 : ((acc.length : Int) == 600) = true := by simp; omega
            have hr := HR'.out
            rw [if_pos h600] at hr
            have HR2 := Lib.hid hr; clear hr HR' h600
            go_wp2
            go_ret3
            have hr := HR2.out
            simp only [Prod.mk.injEq] at hr
            obtain ⟨rfl, rfl, rfl⟩ := hr
            exact ⟨⟨_, rfl, SlOf.nil _ _ _⟩, K6.alloc _⟩
          · have hb6 : ((acc.length : Int) == 600) = false := by simp; omega
            have hr := HR'.out
            rw [if_neg h600] at hr
            have HR2 := Lib.hid hr; clear hr HR'
            have hlt4 := H4.lt
            have hm4 := HM4.lt
            obtain ⟨rows, hl, hown, hel⟩ := Ho4
            have HB3 := Lib.hid Ho3.base
            have HL3 := Lib.hid Hr3.lt
            have HEL := Lib.hid hel; clear hel Hr2 HM2 Ho2 K3 g0 g1 gf Hr3 HM3 KS Ho3 K4 hb
            go_wp2_with (at_builtin; go_loud (refine wpList_append_lies _ rfl _ _ 74 rfl (w.heap.size + 2) 132 i0 (.agg #[.int .i64 0, .string { data := #[] }, .slice none 0 0, .int .i64 0]) 4 56 Tryz.underlying74 hi0 hz0 hz1 hz2 rfl (by decide) _ acc.length _ rfl ((hown.alloc _).alloc _) ⟨w4.heap.size + 1, 0, none⟩ 1 1 [.int .i64 k, .string t, .slice A2 r.length C2, .int .i64 f] rfl rfl (World.news_of_block (Blk.new' _ _ _ (by simp))) (by simp [Value.oneCell']) (by decide) (by unfold maxLen; omega) (by omega) (by simp; omega) _ rfl ?_); intro g cap w5 O5 G5 W5 L5)
            have hr5 := HV.out (ownB (.slice A acc.length C) ++ w.heap.size :: S0) (fun x hx => by
              rcases List.mem_append.1 hx with h | h
              · exact (HB3.out x h).2
              · rcases List.mem_cons.1 h with rfl | h
                · exact HL3.out
                · exact Nat.lt_trans (hS0 x h) HL3.out)
            have hnew : TokRow (ownB (.slice A acc.length C) ++ w.heap.size :: S0) w4 ⟨k, t, r, f⟩ #[.int .i64 k, .string t, .slice A2 r.length C2, .int .i64 f] := ⟨_, rfl, hr5⟩
            have K7 : Keep [] w4 ((w4.alloc (.cells #[.int .i64 k, .string t, .slice A2 r.length C2, .int .i64 f] 132)).alloc (.cells #[.int .i64 k, .string t, .slice A2 r.length C2, .int .i64 f] 132)) := ((Keep.refl _ _).alloc _).alloc _
            have hbg : ∀ b, Value.ownBlock (.slice A acc.length C) = some b → w.heap.size + 2 ≤ b := fun b hb => (hown.lt b hb).1
            have hap := OwnL.append rows hl (fun i hi hi' => ⟨(HEL.out i hi hi').1, tokRow_stab _ _ _ _ _ _ _ (HEL.out i hi hi').2 K7 (by simp) (fun b hb => .inl hb)⟩) tokRow_stab (tokRow_stab _ _ _ _ _ _ _ hnew K7 (by simp) (fun b hb => .inl hb)) rfl O5 G5 W5
            have H5 := Blk.grown ((H4.alloc _).alloc _) G5 (fun e => by have := hbg _ e; omega)
            have M5 : MapB w5 (w.heap.size + 1) (wayE 10) 14 := (G5.block _ ((HM4.alloc _).alloc _).lt (fun e => by have := hbg _ e.symm; omega)).trans ((HM4.alloc _).alloc _)
            have K8 := (K6.trans K7).grown G5 (fun b hb => .inr (by have := hbg _ hb; omega))
            refine ⟨⟨n - 1, j, acc ++ [⟨k, t, r, f⟩], by omega, by omega, by simp; omega, H5, ?_, M5, K8, HR2.out⟩, ?_⟩
            · exact hap
            · rw [HMS.out, H5.cell 1]
              simp [intOf]
              omega
end Go.Proofs.YtbpidoiellcccaaGreatDoor
namespace Go.Proofs.YtbpidoiellcccaaGreatDoor
open Go Go.RowKit

/-- May a symbol's set be? -/
def setR (s : SymS) : Bool := s.n == 0 && !(s.r.any fun r => s.k == 0 && decide (255 < r.hi)) && rmay s.r
def symBad (many : Nat) (s : SymS) : Bool := if s.k = 0 ∨ s.k = 1 then !setR s else if s.k = 2 then decide (s.n < 0) || decide ((many : Int) ≤ s.n) || decide (0 < s.r.length) else true
def altOdd (many : Nat) (l : List SymS) : Bool := decide (40 < l.length) || l.any (symBad many)
def prodBad (many : Nat) (p : ProdS) : Bool := decide (p.a.length = 0) || decide (8 < p.a.length) || decide (p.marks < 0) || decide (63 < p.marks) || !rmay p.nt || p.a.any (altOdd many)
/-- May nonterminals be? -/
def gmay (g : List ProdS) : Bool := !(g.any (prodBad g.length)) && decide (0 < g.length) && decide (g.length ≤ 60)

set_option maxHeartbeats 1000000 in
theorem set1_any (sb : Nat) (k n : Int) (v : Value) (r : Rng) (w : World) (h0 : w.cell? ⟨sb, 0, none⟩ = some (.int .i64 k)) :
    Calls Tryz.prog 56 #[.agg #[.int .i64 r.lo, .int .i64 r.hi], .pointer (some ⟨sb, 0, none⟩)] w fun e w' => e = .returned (.bool (k == 0 && decide (255 < r.hi))) ∧ Keep [] w w' := by
  have hl : sb < w.heap.size := World.block_lt_of_cell? w _ h0
  cases hk : (k == 0)
  · go_enter Tryz.func56, Tryz.ntmps56
    go_wp2
    go_ret
    exact ⟨rfl, (Keep.refl _ _).alloc _⟩
  · go_enter Tryz.func56, Tryz.ntmps56
    go_wp2
    go_ret
    exact ⟨rfl, (Keep.refl _ _).alloc _⟩
theorem set1_pred (S : List Nat) (sb : Nat) (k : Int) (w : World) (h0 : w.cell? ⟨sb, 0, none⟩ = some (.int .i64 k)) : Pred RngRow S w 56 #[.pointer (some ⟨sb, 0, none⟩)] (fun row => .agg row) (fun r => k == 0 && decide (255 < r.hi)) := by
  refine ⟨fun _ _ => by kernel_rfl, fun x row w' K hR => ?_⟩
  rw [show row = #[.int .i64 x.lo, .int .i64 x.hi] from hR]
  exact set1_any sb k 0 .nilFunc x w' (K.cell h0 (by simp))

set_option maxHeartbeats 2000000 in
theorem set_any (S : List Nat) (s : SymS) (row : Array Value) (w : World) (H : SymRow S w s row) :
    Calls Tryz.prog 33 #[.agg row] w fun e w' => e = .returned (.bool (setR s)) ∧ Keep [] w w' := by
  obtain ⟨A, C, rfl, hR⟩ := H
  have K0 := (Keep.refl [] w).alloc (.cells #[.int .i64 s.k, .slice A s.r.length C, .int .i64 s.n] 43)
  have BS := Blk.new w #[.int .i64 s.k, .slice A s.r.length C, .int .i64 s.n] 43
  have hR0 : Rngs S _ (.slice A s.r.length C) s.r := Sl.move hR (by omega) K0 (by simp) (fun x hx => .inl hx)
  have hmf : ∀ (fn : Fn) (first cap : Array Value) (w : World), (Instr.makeFunc fn first cap).run Tryz.prog w = .ok (.func fn first cap) w := fun _ _ _ _ => rfl
  generalize hany : (s.r.any fun r => s.k == 0 && decide (255 < r.hi)) = an
  have HANY := Lib.hid hany; clear hany
  go_enter Tryz.func33, Tryz.ntmps33
  go_wp2_with fail
  refine (rngContains_any S _ s.r _ _ _ _ (Rngs.of hR0) (set1_pred S w.heap.size s.k _ (BS.cell 0))).mono ?_
  rintro e w1 ⟨rfl, K1⟩
  rw [HANY.out]
  have B1 := BS.keep K1 (by simp)
  have c1 := B1.cell
  have hR1 : Rngs S w1 (.slice A s.r.length C) s.r := Sl.move hR0 (by omega) K1 (by simp) (fun x hx => .inl hx)
  have KF := K0.trans K1
  have hset : setR s = (s.n == 0 && !an && rmay s.r) := by rw [setR, HANY.out]
  have HSET := Lib.hid hset; clear hset
  clear BS hR0 hR K0
  cases hn : (s.n == 0)
  · go_wp2
    go_ret
    exact ⟨by rw [HSET.out, hn]; rfl, KF⟩
  · cases an
    · go_wp2_with fail
      refine (rmay_any S _ s.r w1 hR1).mono ?_
      rintro e w2 ⟨rfl, K2⟩
      go_wp2
      go_ret
      exact ⟨by rw [HSET.out, hn]; simp, KF.trans K2⟩
    · go_wp2
      go_ret
      exact ⟨by rw [HSET.out, hn]; rfl, KF⟩

set_option maxHeartbeats 2000000 in
theorem may1_any (S : List Nat) (mb many : Nat) (s : SymS) (row : Array Value) (w : World) (H : SymRow S w s row) (hm : w.cell? ⟨mb, 0, none⟩ = some (.int .i64 many)) :
    Calls Tryz.prog 32 #[.agg row, .pointer (some ⟨mb, 0, none⟩)] w fun e w' => e = .returned (.bool (symBad many s)) ∧ Keep [] w w' := by
  obtain ⟨A, C, rfl, hR⟩ := H
  have K0 := (Keep.refl [] w).alloc (.cells #[.int .i64 s.k, .slice A s.r.length C, .int .i64 s.n] 43)
  have hR0 : SymRow S _ s #[.int .i64 s.k, .slice A s.r.length C, .int .i64 s.n] := ⟨A, C, rfl, Sl.move hR (by omega) K0 (by simp) (fun x hx => .inl hx)⟩
  have hm0 := K0.cell hm (by simp)
  have hlm : mb < w.heap.size := World.block_lt_of_cell? w _ hm
  generalize hb : symBad many s = bad
  unfold symBad at hb
  by_cases h01 : s.k = 0 ∨ s.k = 1
  · rw [if_pos h01] at hb
    have HB := Lib.hid hb; clear hb
    have hk : (s.k == 0) = true ∨ ((s.k == 0) = false ∧ (s.k == 1) = true) := by
      rcases h01 with h | h
      · exact .inl (by simp [h])
      · exact .inr ⟨by simp [h], by simp [h]⟩
    clear h01
    rcases hk with hk | ⟨hk, hk1⟩
    all_goals
      go_enter Tryz.func32, Tryz.ntmps32
      go_wp2_with fail
      refine (set_any S s _ _ hR0).mono ?_
      rintro e w1 ⟨rfl, K1⟩
      go_wp2
      go_ret
      exact ⟨by rw [← HB.out]; rfl, K0.trans K1⟩
  · rw [if_neg h01] at hb
    have hk0 : (s.k == 0) = false := by simp; omega
    have hk1 : (s.k == 1) = false := by simp; omega
    by_cases h2 : s.k = 2
    · rw [if_pos h2] at hb
      have hk2 : (s.k == 2) = true := by simp [h2]
      have HB := Lib.hid hb; clear hb h01 h2 hR0 hR
      cases g1 : decide (s.n < 0)
      · cases g2 : decide ((many : Int) ≤ s.n)
        · have HB2 : Hid (decide (0 < s.r.length) = bad) := Lib.hid (by rw [← HB.out, g1, g2]; simp)
          clear HB
          go_enter Tryz.func32, Tryz.ntmps32
          go_wp2
          go_ret
          exact ⟨by rw [← HB2.out]; simp, (Keep.refl _ _).alloc _⟩
        · have HB2 : Hid (bad = true) := Lib.hid (by rw [← HB.out, g1, g2]; rfl)
          clear HB
          go_enter Tryz.func32, Tryz.ntmps32
          go_wp2
          go_ret
          exact ⟨by rw [HB2.out]; rfl, (Keep.refl _ _).alloc _⟩
      · have HB2 : Hid (bad = true) := Lib.hid (by rw [← HB.out, g1]; rfl)
        clear HB
        go_enter Tryz.func32, Tryz.ntmps32
        go_wp2
        go_ret
        exact ⟨by rw [HB2.out]; rfl, (Keep.refl _ _).alloc _⟩
    · rw [if_neg h2] at hb
      have hk2 : (s.k == 2) = false := by simp; omega
      have HB := Lib.hid hb; clear hb h01 h2 hR0 hR
      go_enter Tryz.func32, Tryz.ntmps32
      go_wp2
      go_ret
      exact ⟨by rw [← HB.out]; rfl, (Keep.refl _ _).alloc _⟩
theorem may1_pred (S : List Nat) (mb many : Nat) (w : World) (hm : w.cell? ⟨mb, 0, none⟩ = some (.int .i64 many)) : Pred SymRow S w 32 #[.pointer (some ⟨mb, 0, none⟩)] (fun row => .agg row) (symBad many) :=
  ⟨fun _ _ => by kernel_rfl, fun x row w' K hR => may1_any S mb many x row w' hR (K.cell hm (by simp))⟩

set_option maxHeartbeats 2000000 in
theorem may2_any (S : List Nat) (fb mb many : Nat) (l : List SymS) (v : Value) (w : World) (H : Syms S w v l) (hm : w.cell? ⟨mb, 0, none⟩ = some (.int .i64 many)) (hf : w.cell? ⟨fb, 0, none⟩ = some (.func (.func 32) #[] #[.pointer (some ⟨mb, 0, none⟩)])) :
    Calls Tryz.prog 34 #[v, .pointer (some ⟨fb, 0, none⟩)] w fun e w' => e = .returned (.bool (altOdd many l)) ∧ Keep [] w w' := by
  have HH := H
  obtain ⟨A, C, rfl, _⟩ := SlOf.at HH
  rename_i hrest
  clear hrest
  generalize hb : altOdd many l = bad
  have HB := Lib.hid hb; clear hb
  cases g1 : decide ((40 : Int) < (l.length : Int))
  · go_enter Tryz.func34, Tryz.ntmps34
    go_wp2_with fail
    refine (symContains_any S _ l _ _ _ w H (may1_pred S mb many w hm)).mono ?_
    rintro e w1 ⟨rfl, K1⟩
    go_wp2
    go_ret
    have g1' : decide (40 < l.length) = false := by simp at g1 ⊢; omega
    exact ⟨by rw [← HB.out, altOdd, g1']; rfl, K1⟩
  · go_enter Tryz.func34, Tryz.ntmps34
    go_wp2
    go_ret
    have g1' : decide (40 < l.length) = true := by simp at g1 ⊢; omega
    exact ⟨by rw [← HB.out, altOdd, g1']; rfl, Keep.refl _ _⟩
theorem may2_pred (S : List Nat) (fb mb many : Nat) (w : World) (hm : w.cell? ⟨mb, 0, none⟩ = some (.int .i64 many)) (hf : w.cell? ⟨fb, 0, none⟩ = some (.func (.func 32) #[] #[.pointer (some ⟨mb, 0, none⟩)])) :
    Pred AltRow S w 34 #[.pointer (some ⟨fb, 0, none⟩)] (fun row => row.getD 0 undef) (altOdd many) :=
  ⟨fun _ _ => by kernel_rfl, fun x row w' K hR => by
    obtain ⟨A, C, rfl, hS⟩ := hR
    exact may2_any S fb mb many x _ w' hS (K.cell hm (by simp)) (K.cell hf (by simp))⟩
end Go.Proofs.YtbpidoiellcccaaGreatDoor
namespace Go.Proofs.YtbpidoiellcccaaGreatDoor
open Go Go.RowKit

set_option maxRecDepth 20000 in
set_option maxHeartbeats 4000000 in
theorem may_any (S : List Nat) (v kv : Value) (g : List ProdS) (w : World) (H : Prods S w v g) :
    Calls Tryz.prog 18 #[.agg #[v, kv]] w fun e w' => e = .returned (.bool (gmay g)) ∧ Keep [] w w' := by
  obtain ⟨A, C, rfl, hm, _⟩ := SlOf.at H
  have hmf : ∀ (fn : Fn) (first cap : Array Value) (w : World), (Instr.makeFunc fn first cap).run Tryz.prog w = .ok (.func fn first cap) w := fun _ _ _ _ => rfl
  obtain ⟨W0, hW0⟩ : ∃ W, W = (((w.alloc (.cells #[.slice A g.length C, kv] 25)).alloc (.cells #[.int .i64 g.length] 3)).alloc (.cells #[.func (.func 32) #[] #[.pointer (some ⟨w.heap.size + 1, 0, none⟩)]] 66)) := ⟨_, rfl⟩
  have K0 : Keep [] w W0 := by rw [hW0]; exact (((Keep.refl _ _).alloc _).alloc _).alloc _
  have c0 : W0.cell? ⟨w.heap.size + 1, 0, none⟩ = some (.int .i64 g.length) := by rw [hW0]; exact (((Blk.new' (w.alloc _) #[.int .i64 g.length] 3 (b := w.heap.size + 1) (by simp)).alloc _).cell 0)
  have c1 : W0.cell? ⟨w.heap.size + 2, 0, none⟩ = some (.func (.func 32) #[] #[.pointer (some ⟨w.heap.size + 1, 0, none⟩)]) := by rw [hW0]; exact ((Blk.new' ((w.alloc _).alloc _) #[.func (.func 32) #[] #[.pointer (some ⟨w.heap.size + 1, 0, none⟩)]] 66 (b := w.heap.size + 2) (by simp)).cell 0)
  have HW := Lib.hid hW0; clear hW0
  have hst : ∀ W, W = (((w.alloc (.cells #[.slice A g.length C, kv] 25)).alloc (.cells #[.int .i64 g.length] 3)).alloc (.cells #[.func (.func 32) #[] #[.pointer (some ⟨w.heap.size + 1, 0, none⟩)]] 66)) → Keep [] W0 W := fun W e => by rw [e, ← HW.out]; exact Keep.refl _ _
  have HST := Lib.hid hst; clear hst
  have hsf : ∀ (a : Addr) (fn : Fn) (x y : Array Value) (m : Mode) (w : World), (store a (.func fn x y) m).run Tryz.prog w = _ := fun a fn x y m w => run_store Tryz.prog w a (.func fn x y) m rfl
  go_enter Tryz.func18, Tryz.ntmps18
  go_wp2
  go_loopw [16] (fun i wr => ∃ k : Nat, k ≤ g.length ∧ i = .int .i64 k ∧ Hid (∀ j (hj : j < k) (hl : j < g.length), prodBad g.length g[j] = false) ∧ Keep [] W0 wr) (fun i _ => g.length - (intOf i).toNat)
  case atStart => exact ⟨0, by omega, rfl, Lib.hid (fun j hj => by omega), HST.out _ rfl⟩
  case round =>
    clear HST HW hmf hsf
    obtain ⟨k, hk, rfl, hn, Kr⟩ := hrel
    have d0 := Kr.cell c0 (by simp)
    have d1 := Kr.cell c1 (by simp)
    by_cases hlt : k < g.length
    · have hlt' : (k : Int) < (g.length : Int) := by omega
      have HW : Prods S wr (.slice A g.length C) g := SlOf.move (SlOf.move H prodRow_stab (by omega) K0 (by simp) (fun x hx => .inl hx)) prodRow_stab (by omega) Kr (by simp) (fun x hx => .inl hx)
      obtain ⟨A2, C2, hv, _, hr2⟩ := SlOf.at HW
      simp only [Value.slice.injEq, true_and] at hv
      obtain ⟨rfl, rfl⟩ := hv
      obtain ⟨b, o, rfl, hb, hc⟩ := hr2 (by omega)
      obtain ⟨row, hz, hcell, hR⟩ := hc k hlt
      obtain ⟨A3, C3, N3, F3, rfl, hA, hN⟩ := hR
      have e0 := hcell 0 (by omega)
      have e1 := hcell 1 (by omega)
      have e2 := hcell 2 (by omega)
      simp at e0 e1 e2
      clear hcell hc hr2 HW hz
      have hbk : prodBad g.length g[k] = (decide (g[k].a.length = 0) || decide (8 < g[k].a.length) || decide (g[k].marks < 0) || decide (63 < g[k].marks) || !rmay g[k].nt || g[k].a.any (altOdd g.length)) := rfl
      have hmem := List.getElem_mem hlt
      generalize hp : g[k] = p at *
      have HP := Lib.hid hp; clear hp
      have HMEM := Lib.hid hmem; clear hmem
      have HBK := Lib.hid hbk; clear hbk
      have HLT := Lib.hid hlt
      have K1 := (Keep.refl [] wr).alloc (.cells #[.slice A3 p.a.length C3, .int .i64 p.marks, .slice N3 p.nt.length F3] 41)
      have hA1 : Alts S _ (.slice A3 p.a.length C3) p.a := SlOf.move hA altRow_stab (by omega) K1 (by simp) (fun x hx => .inl hx)
      have hN1 : Rngs S _ (.slice N3 p.nt.length F3) p.nt := Sl.move hN (by omega) K1 (by simp) (fun x hx => .inl hx)
      have KW := (K0.trans Kr).trans K1
      have B1 := Blk.new wr #[.slice A3 p.a.length C3, .int .i64 p.marks, .slice N3 p.nt.length F3] 41
      clear hA hN
      cases q1 : ((p.a.length : Int) == 0)
      · have r1 : decide (p.a.length = 0) = false := by simp at q1 ⊢; omega
        cases q2 : decide ((8 : Int) < (p.a.length : Int))
        · have r2 : decide (8 < p.a.length) = false := by simp at q2 ⊢; omega
          cases q3 : decide (p.marks < 0)
          · cases q4 : decide (63 < p.marks)
            · go_wp2_with fail
              refine (rmay_any S _ p.nt _ hN1).mono ?_
              rintro e w2 ⟨rfl, K2⟩
              have B2 := B1.keep K2 (by simp)
              have c2 := B2.cell
              have hA2 : Alts S w2 (.slice A3 p.a.length C3) p.a := SlOf.move hA1 altRow_stab (by omega) K2 (by simp) (fun x hx => .inl hx)
              clear hA1 hN1 e0 e1 e2
              cases q5 : rmay p.nt
              · skip
                have hb : prodBad g.length p = true := by rw [HBK.out]; rw [r1, r2, q3, q4, q5]; rfl
                have hF : gmay g = false := by
                  have h : g.any (prodBad g.length) = true := List.any_eq_true.2 ⟨p, HMEM.out, hb⟩
                  rw [gmay, h]; rfl
                clear hb
                go_wp2
                go_ret
                exact ⟨by rw [hF]; rfl, KW.trans K2⟩
              · go_wp2_with fail
                refine (altContains_any S _ p.a _ _ _ w2 hA2 (may2_pred S (w.heap.size + 2) (w.heap.size + 1) g.length w2 ((Kr.trans (K1.trans K2)).cell c0 (by simp)) ((Kr.trans (K1.trans K2)).cell c1 (by simp)))).mono ?_
                rintro e w3 ⟨rfl, K3⟩
                clear c2
                cases q6 : p.a.any (altOdd g.length)
                · have hb : prodBad g.length p = false := by rw [HBK.out]; rw [r1, r2, q3, q4, q5, q6]; rfl
                  have hn2 : Hid (∀ j (hj : j < k + 1) (hl : j < g.length), prodBad g.length g[j] = false) := Lib.hid (fun j hj hl => by
                    by_cases e : j = k
                    · subst e; rw [HP.out]; exact hb
                    · exact hn.out j (by omega) hl)
                  clear hb hn
                  go_wp2
                  have hlt := HLT.out
                  go_roundw
                  case rel => exact ⟨k + 1, by omega, by go_num, hn2, Kr.trans (K1.trans (K2.trans K3))⟩
                  case measure => simp [intOf]; omega
                · skip
                  have hb : prodBad g.length p = true := by rw [HBK.out]; rw [r1, r2, q3, q4, q5, q6]; rfl
                  have hF : gmay g = false := by
                    have h : g.any (prodBad g.length) = true := List.any_eq_true.2 ⟨p, HMEM.out, hb⟩
                    rw [gmay, h]; rfl
                  clear hb
                  go_wp2
                  go_ret
                  exact ⟨by rw [hF]; rfl, (KW.trans K2).trans K3⟩
            · skip
              have hb : prodBad g.length p = true := by rw [HBK.out]; rw [r1, r2, q3, q4]; rfl
              have hF : gmay g = false := by
                have h : g.any (prodBad g.length) = true := List.any_eq_true.2 ⟨p, HMEM.out, hb⟩
                rw [gmay, h]; rfl
              clear hb
              go_wp2
              go_ret
              exact ⟨by rw [hF]; rfl, KW⟩
          · skip
            have hb : prodBad g.length p = true := by rw [HBK.out]; rw [r1, r2, q3]; rfl
            have hF : gmay g = false := by
              have h : g.any (prodBad g.length) = true := List.any_eq_true.2 ⟨p, HMEM.out, hb⟩
              rw [gmay, h]; rfl
            clear hb
            go_wp2
            go_ret
            exact ⟨by rw [hF]; rfl, KW⟩
        · have r2 : decide (8 < p.a.length) = true := by simp at q2 ⊢; omega
          have hb : prodBad g.length p = true := by rw [HBK.out]; rw [r1, r2]; rfl
          have hF : gmay g = false := by
            have h : g.any (prodBad g.length) = true := List.any_eq_true.2 ⟨p, HMEM.out, hb⟩
            rw [gmay, h]; rfl
          clear hb
          go_wp2
          go_ret
          exact ⟨by rw [hF]; rfl, KW⟩
      · have r1 : decide (p.a.length = 0) = true := by simp at q1 ⊢; omega
        have hb : prodBad g.length p = true := by rw [HBK.out]; rw [r1]; rfl
        have hF : gmay g = false := by
          have h : g.any (prodBad g.length) = true := List.any_eq_true.2 ⟨p, HMEM.out, hb⟩
          rw [gmay, h]; rfl
        clear hb
        go_wp2
        go_ret
        exact ⟨by rw [hF]; rfl, KW⟩
    · have hany : g.any (prodBad g.length) = false := by
        rw [List.any_eq_false]
        intro x hx
        obtain ⟨j, hj, rfl⟩ := List.getElem_of_mem hx
        simp [hn.out j (by omega) hj]
      have hg : gmay g = (decide (0 < g.length) && decide (g.length ≤ 60)) := by rw [gmay, hany]; rfl
      have HG := Lib.hid hg; clear hg hany
      by_cases q1 : 0 < g.length
      · have q2 : (0 : Int) < (g.length : Int) := by omega
        go_wp2
        go_ret
        exact ⟨by rw [HG.out]; simp [q1]; omega, K0.trans Kr⟩
      · have q2 : ¬(0 : Int) < (g.length : Int) := by omega
        go_wp2
        go_ret
        exact ⟨by rw [HG.out]; simp [q1], K0.trans Kr⟩
end Go.Proofs.YtbpidoiellcccaaGreatDoor
namespace Go.Proofs.YtbpidoiellcccaaGreatDoor
open Go Go.RowKit

theorem flat_at (k : Nat) : ∀ (l : List (Array Value)), (∀ i (h : i < l.length), l[i].size = k) → ∀ i (h : i < l.length) j, j < k → (l.flatMap Array.toList)[i * k + j]? = l[i][j]? := by
  intro l
  induction l with
  | nil => intro _ i h; simp at h
  | cons a l ih =>
    intro hl i hi j hj
    have ha : a.size = k := hl 0 (by simp)
    cases i with
    | zero =>
      simp only [List.flatMap_cons, Nat.zero_mul, Nat.zero_add, List.getElem_cons_zero]
      rw [List.getElem?_append_left (by simp [ha]; exact hj)]
      simp
    | succ i =>
      simp only [List.flatMap_cons, List.getElem_cons_succ]
      rw [List.getElem?_append_right (by simp [ha, Nat.succ_mul]; omega)]
      rw [show (i + 1) * k + j - a.toList.length = i * k + j by simp [ha, Nat.succ_mul]; omega]
      exact ih (fun i h => hl (i + 1) (by simpa using h)) i (by simpa using hi) j hj
theorem flat_len (k : Nat) : ∀ (l : List (Array Value)), (∀ i (h : i < l.length), l[i].size = k) → (l.flatMap Array.toList).length = l.length * k
  | [], _ => by simp
  | a :: l, h => by
    have ha : a.size = k := h 0 (by simp)
    rw [List.flatMap_cons, List.length_append, flat_len k l (fun i hi => h (i + 1) (by simpa using hi))]
    simp [ha, Nat.succ_mul]; omega
theorem add_none (b o j : Nat) : (⟨b, o, none⟩ : Addr).add j = ⟨b, o + j, none⟩ := by unfold Addr.add; split <;> simp_all
/-- The cells of a slice, as what is appended. -/
theorem Sl.news {S : List Nat} {w : World} {k : Nat} {b o c : Nat} {xs : List (Array Value)} (hk : 0 < k) (h : Sl S w k (.slice (some ⟨b, o, none⟩) xs.length c) xs) : ∀ j u, (xs.flatMap Array.toList)[j]? = some u → w.cell? ((⟨b, o, none⟩ : Addr).add j) = some u := by
  obtain ⟨a, c', hv, hm, hr⟩ := h
  simp only [Value.slice.injEq, true_and] at hv
  obtain ⟨rfl, _⟩ := hv
  intro j u hj
  have hlt : j < (xs.flatMap Array.toList).length := (List.getElem?_eq_some_iff.1 hj).1
  by_cases h0 : 0 < xs.length
  · obtain ⟨b', o', he, hb, hc⟩ := hr h0
    simp only [Option.some.injEq, Addr.mk.injEq, and_true] at he
    obtain ⟨rfl, rfl⟩ := he
    rw [flat_len k xs (fun i hi => (hc i hi).1)] at hlt
    have hi : j / k < xs.length := Nat.div_lt_of_lt_mul (by rw [Nat.mul_comm]; exact hlt)
    have hjk : j % k < k := Nat.mod_lt _ hk
    have e : j = j / k * k + j % k := by rw [Nat.mul_comm]; exact (Nat.div_add_mod j k).symm
    rw [add_none, show o + j = o + j / k * k + j % k by omega, (hc _ hi).2 _ hjk, ← hj]
    conv => rhs; rw [e]
    exact (flat_at k xs (fun i hi => (hc i hi).1) _ hi _ hjk).symm
  · have : xs = [] := List.eq_nil_of_length_eq_zero (by omega)
    subst this
    simp at hj
theorem Rngs.back {S : List Nat} {w : World} {v : Value} {l : List Rng} (h : SlOf RngRow S w 2 v l) : Rngs S w v l := by
  obtain ⟨rows, h1, h2, h3⟩ := h
  have e : rows = l.map Rng.row := by
    refine List.ext_getElem (by simp [h2]) (fun i hi hi' => ?_)
    have := h3 i (by omega) hi
    rw [List.getElem_map]
    exact this
  rw [e] at h1
  exact h1
theorem info_rng : (Tryz.prog.info? 97).map (fun i => (i.zero, i.size, i.bytes)) = some (some (.agg #[.int .i64 0, .int .i64 0]), 2, 16) := by kernel_rfl

set_option maxRecDepth 20000 in
set_option maxHeartbeats 2000000 in
theorem rngClone_any (S : List Nat) (v : Value) (l : List Rng) (w : World) (H : Rngs S w v l) (hN : l.length ≤ 1000000) :
    Calls Tryz.prog 46 #[v] w fun e w' => (∃ A C, e = .returned (.slice A l.length C) ∧ ∀ S', (∀ b ∈ S', b < w.heap.size) → Rngs S' w' (.slice A l.length C) l) ∧ Keep [] w w' := by
  have HH := H
  obtain ⟨A, C, rfl, hm, hr⟩ := HH
  have qT : ∀ (w : World) (a : Option Addr) (n c n' c' : Nat), (binOp .eql 39 (.slice a n c) (.slice none n' c')).run Tryz.prog w = .ok (.bool a.isNone) w := fun w a n c n' c' => Lib.run_eql_slice_nil w _ _ a n c n' c' Tryz.underlying39
  simp only [List.length_map] at H hm hr ⊢
  cases l with
  | nil =>
    cases A with
    | none =>
      go_enter Tryz.func46, Tryz.ntmps46
      go_wp2
      go_ret
      exact ⟨⟨none, 0, rfl, fun S' _ => Sl.nil _ _ _⟩, Keep.refl _ _⟩
    | some ad =>
      go_enter Tryz.func46, Tryz.ntmps46
      go_wp2
      go_ret
      exact ⟨⟨some ⟨w.heap.size, 0, none⟩, 0, rfl, fun S' _ => ⟨_, 0, rfl, by simp, fun h => absurd h (by simp)⟩⟩, (Keep.refl _ _).alloc _⟩
  | cons r l =>
    obtain ⟨b, o, rfl, hb, hc⟩ := hr (by simp)
    have hnews := Sl.news (by omega) (by have h := H; unfold Rngs at h; simpa using h : Sl S w 2 (.slice (some ⟨b, o, none⟩) ((r :: l).map Rng.row).length C) ((r :: l).map Rng.row))
    obtain ⟨i0, hi0, hz0, hz1, hz2⟩ := info_parts info_rng
    have HN := Lib.hid hnews; clear hnews hc hr
    go_enter Tryz.func46, Tryz.ntmps46
    have hown : (w.alloc (.cells #[] 97)).ownsRow w.heap.size 97 2 (.slice (some ⟨w.heap.size, 0, none⟩) 0 0) 0 [] := ⟨rfl, .inr ⟨w.heap.size, 0, #[], rfl, Nat.le_refl _, Blk.new w #[] 97, by omega, by decide, rfl, rfl⟩⟩
    have hnl : (((r :: l).map Rng.row).flatMap Array.toList).length = (l.length + 1) * 2 := by rw [flat_len 2 _ (fun i hi => by rw [List.getElem_map]; rfl)]; simp
    have hone : ∀ u ∈ ((r :: l).map Rng.row).flatMap Array.toList, u.oneCell' = true := fun u hu => by
      obtain ⟨x, hx, hu⟩ := List.mem_flatMap.1 hu
      obtain ⟨y, _, rfl⟩ := List.mem_map.1 hx
      simp [Rng.row] at hu
      rcases hu with rfl | rfl <;> rfl
    have K0 := (Keep.refl [] w).alloc (.cells #[] 97)
    have HN2 : Hid (∀ j u, (((r :: l).map Rng.row).flatMap Array.toList)[j]? = some u → (w.alloc (.cells #[] 97)).cell? ((⟨b, o, none⟩ : Addr).add j) = some u) := Lib.hid (fun j u h => K0.cell (HN.out j u h) (by simp))
    have HONE := Lib.hid hone; clear hone
    have HNL := Lib.hid hnl; clear hnl
    rw [List.length_cons] at hN
    go_wp2_with (at_builtin; go_loud (refine wpList_append_lies _ rfl _ _ 39 rfl w.heap.size 97 i0 (.agg #[.int .i64 0, .int .i64 0]) 2 16 Tryz.underlying39 hi0 hz0 hz1 hz2 rfl (by decide) _ 0 _ rfl hown ⟨b, o, none⟩ (l.length + 1) C (((r :: l).map Rng.row).flatMap Array.toList) rfl HNL.out HN2.out HONE.out (by omega) (by unfold maxLen; omega) (by omega) (by simp) _ rfl ?_); intro g cap w5 O5 G5 W5 L5)
    have hOL : ∀ S', OwnL RngRow S' w5 w.heap.size 97 2 (.slice (some ⟨g, 0, none⟩) (0 + (l.length + 1)) cap) (r :: l) := fun S' => by
      refine ⟨(r :: l).map Rng.row, by simp, ?_, fun i hi hi' => ⟨by rw [List.getElem_map]; rfl, by rw [List.getElem_map]; rfl⟩⟩
      simpa using O5
    have hv : (Value.slice (some ⟨g, 0, none⟩) (0 + (l.length + 1)) cap) = .slice (some ⟨g, 0, none⟩) (l.length + 1) cap := by rw [Nat.zero_add]
    rw [hv] at hOL
    have KF := K0.grown G5 (fun x hx => .inr (by have hx : some w.heap.size = some x := hx; simp at hx; omega))
    have HOL := Lib.hid hOL
    clear O5 G5 W5 L5 hOL hown
    go_wp2
    go_ret
    refine ⟨⟨some ⟨g, 0, none⟩, cap, rfl, fun S' hS' => ?_⟩, KF⟩
    exact Rngs.back ((HOL.out S').read rngRow_stab (fun x hx => .inl hx) (fun x hx hx' => by have h1 := ((HOL.out S').base x hx).1; have := hS' x hx'; omega))

set_option maxHeartbeats 1000000 in
theorem symbol_any (S : List Nat) (k : Int) (v : Value) (l : List Rng) (w : World) (H : Rngs S w v l) (hN : l.length ≤ 1000000) :
    Calls Tryz.prog 128 #[.int .i64 k, v] w fun e w' => (∃ row, e = .returned (.agg row) ∧ ∀ S', (∀ b ∈ S', b < w.heap.size) → SymRow S' w' ⟨k, l, 0⟩ row) ∧ Keep [] w w' := by
  have K0 := (Keep.refl [] w).alloc (.cells #[.int .i64 0, .slice none 0 0, .int .i64 0] 43)
  have H0 : Rngs S _ v l := Sl.move H (by omega) K0 (by simp) (fun x hx => .inl hx)
  go_enter Tryz.func128, Tryz.ntmps128
  go_wp2_with fail
  refine (rngClone_any S v l _ H0 hN).mono ?_
  rintro e w1 ⟨⟨A, C, rfl, hA⟩, K1⟩
  have B1 := (Blk.new w #[.int .i64 0, .slice none 0 0, .int .i64 0] 43).keep K1 (by simp)
  have l1 := B1.lt
  have c1 := B1.cell
  have f1 := B1.frozen
  have BF : Blk (((w1.setCell ⟨w.heap.size, 0, none⟩ (.int .i64 k)).setCell ⟨w.heap.size, 1, none⟩ (.slice A l.length C)).setCell ⟨w.heap.size, 2, none⟩ (.int .i64 0)) w.heap.size #[.int .i64 k, .slice A l.length C, .int .i64 0] 43 := by simpa using ((B1.set 0 (.int .i64 k)).set 1 (.slice A l.length C)).set 2 (.int .i64 0)
  have KS : Keep [w.heap.size] w1 (((w1.setCell ⟨w.heap.size, 0, none⟩ (.int .i64 k)).setCell ⟨w.heap.size, 1, none⟩ (.slice A l.length C)).setCell ⟨w.heap.size, 2, none⟩ (.int .i64 0)) := (((Keep.refl _ _).setCell (by simp) _).setCell (by simp) _).setCell (by simp) _
  have KF : Keep [] w (((w1.setCell ⟨w.heap.size, 0, none⟩ (.int .i64 k)).setCell ⟨w.heap.size, 1, none⟩ (.slice A l.length C)).setCell ⟨w.heap.size, 2, none⟩ (.int .i64 0)) := (((K0.trans K1).setCell (.inr (by simp)) _).setCell (.inr (by simp)) _).setCell (.inr (by simp)) _
  have fin : ∀ S', (∀ b ∈ S', b < w.heap.size) → SymRow S' _ ⟨k, l, 0⟩ #[.int .i64 k, .slice A l.length C, .int .i64 0] := fun S' hS' =>
    ⟨A, C, rfl, Sl.move (S' := S') (hA (w.heap.size :: S') (fun b hb => by rcases List.mem_cons.1 hb with rfl | h; simp; have := hS' b h; simp; omega)) (by omega) KS (by simp) (fun x hx => .inl (by simp [hx]))⟩
  have FIN := Lib.hid fin; clear fin hA
  have cF := BF.cell
  have CF := Lib.hid cF; clear cF BF
  go_wp2
  have cF := CF.out
  exact bodyPost_ret (v := .agg #[.int .i64 k, .slice A l.length C, .int .i64 0]) (by simp [results, Tryz.results128, go_sem, cF]) rfl ⟨⟨_, rfl, FIN.out⟩, KF⟩
end Go.Proofs.YtbpidoiellcccaaGreatDoor
namespace Go.Proofs.YtbpidoiellcccaaGreatDoor
open Go Go.RowKit

/-- What went wrong first: nothing, or an error and its place, in a block beside S. -/
def BadAt (S : List Nat) (w : World) (v : Value) : Option Err → Prop
  | none => v = .pointer none
  | some x => ∃ b, v = .pointer (some ⟨b, 0, none⟩) ∧ b ∉ S ∧ Blk w b #[.int .i64 x.1, .int .i64 x.2] 100
theorem BadAt.move {S T S' : List Nat} {w w' : World} {v : Value} {x : Option Err} (h : BadAt S w v x) (K : Keep T w w') (hT : ∀ b ∈ T, b ∈ S ∨ w.heap.size ≤ b) (hS : ∀ b ∈ S', b ∈ S ∨ w.heap.size ≤ b) : BadAt S' w' v x := by
  cases x with
  | none => exact h
  | some x =>
    obtain ⟨b, rfl, hb, hB⟩ := h
    have hl := hB.lt
    have hnot : ∀ (L : List Nat), (∀ b ∈ L, b ∈ S ∨ w.heap.size ≤ b) → b ∉ L := fun L hL hb' => by
      rcases hL b hb' with h | h
      · exact hb h
      · omega
    exact ⟨b, rfl, hnot S' hS, hB.keep K (hnot T hT)⟩
/-- The maker at block m: its map, the nonterminals' slice, what is wrong. -/
def MkB (S : List Nat) (w : World) (m mb : Nat) (pv : Value) (bad : Option Err) : Prop := ∃ bv, Blk w m #[.map (some mb), pv, bv] 93 ∧ BadAt S w bv bad
theorem MkB.move {S T S' : List Nat} {w w' : World} {m mb : Nat} {pv : Value} {bad : Option Err} (h : MkB S w m mb pv bad) (K : Keep T w w') (hT : ∀ x ∈ T, (x ∈ S ∧ x ≠ m) ∨ w.heap.size ≤ x) (hS : ∀ x ∈ S', x ∈ S ∨ w.heap.size ≤ x) : MkB S' w' m mb pv bad := by
  obtain ⟨bv, hB, hb⟩ := h
  refine ⟨bv, hB.keep K (fun hx => ?_), hb.move K (fun x hx => ?_) hS⟩
  · rcases hT m hx with ⟨_, h⟩ | h
    · exact h rfl
    · have := hB.lt; omega
  · rcases hT x hx with ⟨h, _⟩ | h
    · exact .inl h
    · exact .inr h
def failR (is : Bool) (x : Err) (bad : Option Err) : Option Err := if is = true ∧ bad = none then some x else bad

set_option maxHeartbeats 2000000 in
theorem ffail_any (S : List Nat) (m mb : Nat) (pv : Value) (bad : Option Err) (is : Bool) (e0 a0 : Int) (w : World) (H : MkB S w m mb pv bad) (hS : m ∈ S) (hSl : ∀ x ∈ S, x < w.heap.size) :
    Calls Tryz.prog 106 #[.pointer (some ⟨m, 0, none⟩), .bool is, .int .i64 e0, .int .i64 a0] w fun e w' => e = .returned (.bool is) ∧ MkB S w' m mb pv (failR is (e0, a0) bad) ∧ Keep [m] w w' := by
  have HH := H
  obtain ⟨bv, hB, hb⟩ := HH
  have hl := hB.lt
  have c2 := hB.cell 2
  have f2 := hB.frozen 2
  have f2' : w.frozen? ⟨m, 2, none⟩ = false := f2
  cases is with
  | false =>
    go_enter Tryz.func106, Tryz.ntmps106
    go_wp2
    go_ret
    exact ⟨rfl, by simpa [failR] using H, Keep.refl _ _⟩
  | true =>
    cases bad with
    | some x =>
      obtain ⟨b, rfl, hbS, hBB⟩ := hb
      have hq : ∀ (b : Nat) (w : World), (binOp .eql 91 (.pointer (some ⟨b, 0, none⟩)) (.pointer none)).run Tryz.prog w = .ok (.bool false) w := fun _ _ => by kernel_rfl
      go_enter Tryz.func106, Tryz.ntmps106
      go_wp2
      go_ret
      exact ⟨rfl, by simpa [failR] using H, Keep.refl _ _⟩
    | none =>
      have hb' : bv = .pointer none := hb
      subst hb'
      have hq : ∀ (w : World), (binOp .eql 91 (.pointer none) (.pointer none)).run Tryz.prog w = .ok (.bool true) w := fun _ => by kernel_rfl
      go_enter Tryz.func106, Tryz.ntmps106
      go_wp2
      go_ret
      have hsz : (w.setCell ⟨m, 2, none⟩ (.pointer (some ⟨w.heap.size, 0, none⟩))).heap.size = w.heap.size := by simp [World.setCell]
      refine ⟨rfl, ⟨.pointer (some ⟨w.heap.size, 0, none⟩), by simpa using (hB.set 2 (.pointer (some ⟨w.heap.size, 0, none⟩))).alloc (.cells #[.int .i64 e0, .int .i64 a0] 100), ?_⟩, ((Keep.refl _ _).setCell (by simp) _).alloc _⟩
      simp only [failR, and_self, if_true]
      exact ⟨w.heap.size, rfl, fun h => by have := hSl _ h; omega, Blk.new' _ _ _ hsz⟩
end Go.Proofs.YtbpidoiellcccaaGreatDoor
