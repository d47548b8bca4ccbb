/- A text's tokens. -/
import Derived.Test.YtmfjddhckblbhaaGreatDoorM3
import Derived.Test.YtmfjddhckblbhaaGreatDoorM5
import Derived.Test.YtmfjddhckblbhaaGreatDoorM1
import Derived.Test.YtmfjddhckblbhaaGreatDoorM2
import Derived.Deep.AppendLies
set_option linter.unusedVariables false
set_option linter.unusedSimpArgs false
namespace Go.Proofs.YtmfjddhckblbhaaGreatDoor
open Go Go.RowKit

/-- A token: its kind, text, set and place. -/
structure TokS where
  k : Int
  t : ByteArray
  r : List Rng
  a : Int
def TokRow (S : List Nat) (w : World) (x : TokS) (row : Array Value) : Prop := ∃ v, row = #[.int .i64 x.k, .string x.t, v, .int .i64 x.a] ∧ Rngs S w v x.r
theorem tokRow_stab : Stab TokRow := by
  rintro S T S' w w' x row ⟨v, h1, h2⟩ K hT hS
  exact ⟨v, h1, Sl.move h2 (by omega) K hT hS⟩
/-- A slice of tokens. -/
def Toks (S : List Nat) (w : World) (v : Value) (ts : List TokS) : Prop := SlOf TokRow S w 4 v ts

/-- The first place from i on that is no blank. -/
def skipB (s : ByteArray) (i : Nat) : Nat := s.size - (Lib.trimLeftS (s.data.toList.drop i) [32, 9, 10, 13]).length
abbrev WayR := Option (Int × ByteArray × List Rng × Nat)
/-- The token that begins at i, and where it ends; how sets are read is left open. -/
def wayR (cR bR : ByteArray → Nat → WayR) (s : ByteArray) (i : Nat) : WayR := match s.data[i]? with
  | none => none
  | some c =>
    if c.toNat = 64 then (if isMark (s.extract (i + 1) (i + 1 + wordN (s.data.toList.drop (i + 1)) false)) then some (5, s.extract (i + 1) (i + 1 + wordN (s.data.toList.drop (i + 1)) false), [], i + 1 + wordN (s.data.toList.drop (i + 1)) false) else none)
    else if c.toNat = 34 then litTok (litR s (s.size + 1) (i + 1) [])
    else if c.toNat = 91 then cR s i
    else if c.toNat = 60 then bR s i
    else if c.toNat = 61 ∨ c.toNat = 124 ∨ c.toNat = 59 ∨ c.toNat = 40 ∨ c.toNat = 41 ∨ c.toNat = 42 ∨ c.toNat = 43 ∨ c.toNat = 63 ∨ c.toNat = 47 ∨ c.toNat = 37 then some (4, s.extract i (i + 1), [], i + 1)
    else if 0 < wordN (s.data.toList.drop i) false ∧ wordN (s.data.toList.drop i) false ≤ 12 then some (0, s.extract i (i + wordN (s.data.toList.drop i) false), [], i + wordN (s.data.toList.drop i) false) else none
/-- All tokens from i on, behind some; where it ended, and the error's number. -/
def lexR (cR bR : ByteArray → Nat → WayR) (s : ByteArray) : Nat → Nat → List TokS → List TokS × Nat × Nat
  | 0, _, _ => ([], 0, 0)
  | n + 1, i, acc =>
    if skipB s i = s.size then (acc, s.size, 0)
    else match wayR cR bR s (skipB s i) with
      | none => ([], skipB s i, 2)
      | some (k, t, r, j) => if acc.length = 600 then ([], skipB s i, 7) else lexR cR bR s n j (acc ++ [⟨k, t, r, skipB s i⟩])
/-- The function by which a byte's token is read. -/
def wayN (c : Nat) : Nat := (wayF c).getD 25

/-- How a set is read is as cR, bR say, wherever one begins in s. -/
def SetsAt (f : Nat) (c0 : Nat) (cR : ByteArray → Nat → WayR) (s : ByteArray) : Prop :=
  ∀ (b i : Nat) (w : World) (hi : i < s.size), Scan w b s i → (s[i]'hi).toNat = c0 → Calls Tryz.prog f #[.pointer (some ⟨b, 0, none⟩)] w (WayPost b s w (cR s i))

theorem way_any (cR bR : ByteArray → Nat → WayR) (s : ByteArray) (hm : s.size ≤ 4096) (hC : SetsAt 38 91 cR s) (hB : SetsAt 39 60 bR s)
    (b i : Nat) (w : World) (hi : i < s.size) (H : Scan w b s i) (n : Nat) (hn : n = wayN (s[i]'hi).toNat) :
    Calls Tryz.prog n #[.pointer (some ⟨b, 0, none⟩)] w (WayPost b s w (wayR cR bR s i)) := by
  subst hn
  have hd := digitByte s i hi
  unfold wayN wayF wayR
  rw [hd]
  simp only
  by_cases h1 : (s[i]'hi).toNat = 64
  · simp only [h1, if_true, Option.getD_some]
    refine (mark_any b s i _ w H hm hi rfl).mono ?_
    rintro e w' ⟨rfl, h2, h3⟩
    refine ⟨h3, ?_⟩
    by_cases hk : isMark (s.extract (i + 1) (i + 1 + wordN (s.data.toList.drop (i + 1)) false)) = true
    · rw [if_pos hk, hk]; exact ⟨_, rfl, fun _ _ => Sl.nil _ _ _, h2⟩
    · rw [if_neg hk, (by simpa using hk : isMark (s.extract (i + 1) (i + 1 + wordN (s.data.toList.drop (i + 1)) false)) = false)]; exact ⟨_, _, none, 0, 0, _, rfl, h2⟩
  by_cases h2 : (s[i]'hi).toNat = 34
  · simp only [h1, h2, if_true, if_false, Option.getD_some]
    exact lit_any b s i w H hm hi _ rfl
  by_cases h3 : (s[i]'hi).toNat = 91
  · simp only [h1, h2, h3, if_true, if_false, Option.getD_some]
    exact hC b i w hi H h3
  by_cases h4 : (s[i]'hi).toNat = 60
  · simp only [h1, h2, h3, h4, if_true, if_false, Option.getD_some]
    exact hB b i w hi H h4
  simp only [h1, h2, h3, h4, if_false]
  by_cases h5 : ((s[i]'hi).toNat = 61 ∨ (s[i]'hi).toNat = 124 ∨ (s[i]'hi).toNat = 59 ∨ (s[i]'hi).toNat = 40 ∨ (s[i]'hi).toNat = 41 ∨ (s[i]'hi).toNat = 42 ∨ (s[i]'hi).toNat = 43 ∨ (s[i]'hi).toNat = 63 ∨ (s[i]'hi).toNat = 47 ∨ (s[i]'hi).toNat = 37)
  · rw [if_pos h5, if_pos h5]
    refine (sign_any b s i w H hm hi).mono ?_
    rintro e w' ⟨rfl, h2, h3⟩
    exact ⟨h3, _, rfl, fun _ _ => Sl.nil _ _ _, h2⟩
  · rw [if_neg h5, if_neg h5]
    refine (name_any b s i _ w H hm (by omega) rfl).mono ?_
    rintro e w' ⟨rfl, h2, h3⟩
    refine ⟨h3, ?_⟩
    by_cases hk : 0 < wordN (s.data.toList.drop i) false ∧ wordN (s.data.toList.drop i) false ≤ 12
    · rw [if_pos hk, show (decide (0 < wordN (s.data.toList.drop i) false) && decide (wordN (s.data.toList.drop i) false ≤ 12)) = true by simpa using hk]; exact ⟨_, rfl, fun _ _ => Sl.nil _ _ _, h2⟩
    · rw [if_neg hk, show (decide (0 < wordN (s.data.toList.drop i) false) && decide (wordN (s.data.toList.drop i) false ≤ 12)) = false by simpa using hk]; exact ⟨_, _, none, 0, 0, _, rfl, h2⟩
end Go.Proofs.YtmfjddhckblbhaaGreatDoor
namespace Go.Proofs.YtmfjddhckblbhaaGreatDoor
open Go Go.RowKit Go.Shelf

theorem trim_any (s : ByteArray) (w : World) : Calls Tryz.prog 24 #[.string s, .string { data := #[32, 9, 10, 13] }] w fun e w' =>
    e = .returned (.string ⟨(Lib.trimLeftS s.data.toList [32, 9, 10, 13]).toArray⟩) ∧ Keep [] w w' := by
  refine (Any.strings_TrimLeft_laid Tryz.lays161 (by kernel_rfl) s ⟨#[32, 9, 10, 13]⟩ w (by decide) (ascii_of_all (by decide))).mono ?_
  rintro e w' ⟨rfl, h⟩
  exact ⟨rfl, Keep.of_below h⟩

/-- What a set's reader hands back lies within the text, behind where it began. -/
def Ahead (cR : ByteArray → Nat → WayR) (s : ByteArray) : Prop := ∀ i k t r j, cR s i = some (k, t, r, j) → i < j ∧ j ≤ s.size
theorem isB_lt {s : ByteArray} {i : Nat} {c : Int} (h : isB s i c = true) : i < s.size := by
  unfold isB at h
  by_cases h1 : i < s.size
  · exact h1
  · simp [h1] at h
theorem litR_ahead (s : ByteArray) : ∀ n i acc l j, litR s n i acc = some (l, j) → i < j ∧ j ≤ s.size
  | 0, _, _, _, _, h => by simp [litR] at h
  | n + 1, i, acc, l, j, h => by
    by_cases hi : i < s.size
    · rw [litR, digitByte s i hi] at h
      simp only at h
      split at h
      · simp only [Option.some.injEq, Prod.mk.injEq] at h; omega
      · split at h
        · split at h
          · rename_i hx
            have h1 := isB_lt hx
            have hsz := numR_size s 2 (i + 2) 0 (by omega)
            unfold hexR at h
            split at h
            · rename_i v hv
              split at hv
              · rename_i h2
                have := litR_ahead s n _ _ _ _ h
                omega
              · cases hv
            · cases h
          · cases h
        · split at h
          · cases h
          · have := litR_ahead s n _ _ _ _ h
            omega
    · rw [litR_end hi] at h; cases h
theorem wayR_ahead {cR bR : ByteArray → Nat → WayR} {s : ByteArray} (hc : Ahead cR s) (hb : Ahead bR s) {i : Nat} {k : Int} {t : ByteArray} {r : List Rng} {j : Nat} (h : wayR cR bR s i = some (k, t, r, j)) : i < j ∧ j ≤ s.size := by
  have hi : i < s.size := by
    by_cases h1 : i < s.size
    · exact h1
    · unfold wayR at h
      rw [Array.getElem?_eq_none (show s.data.size ≤ i from Nat.le_of_not_lt h1)] at h; cases h
  have hw : ∀ a b, a ≤ s.size → a + wordN (s.data.toList.drop a) b ≤ s.size := fun a b ha => by
    have := wordN_le (s.data.toList.drop a) b
    simp at this
    have e : s.data.size = s.size := rfl
    omega
  unfold wayR at h
  rw [digitByte s i hi] at h
  simp only at h
  split at h
  · split at h
    · simp only [Option.some.injEq, Prod.mk.injEq] at h
      have := hw (i + 1) false (by omega)
      omega
    · cases h
  · split at h
    · unfold litTok at h
      split at h
      · rename_i l j' hl
        split at h
        · simp only [Option.some.injEq, Prod.mk.injEq] at h
          have := litR_ahead s _ _ _ _ _ hl
          omega
        · cases h
      · cases h
    · split at h
      · exact hc _ _ _ _ _ h
      · split at h
        · exact hb _ _ _ _ _ h
        · split at h
          · simp only [Option.some.injEq, Prod.mk.injEq] at h; omega
          · split at h
            · simp only [Option.some.injEq, Prod.mk.injEq] at h
              have := hw i false (by omega)
              omega
            · cases h

theorem skipB_le (s : ByteArray) (i : Nat) (hi : i ≤ s.size) : i ≤ skipB s i ∧ skipB s i ≤ s.size := by
  unfold skipB Lib.trimLeftS
  have h := (List.dropWhile_suffix (fun x => List.contains [32, 9, 10, 13] x) (l := s.data.toList.drop i)).length_le
  have e : (s.data.toList.drop i).length = s.size - i := by simp
  omega
theorem info_tok : (Tryz.prog.info? 24).map (fun i => (i.zero, i.size, i.bytes)) = some (some (.agg #[.int .i64 0, .string { data := #[] }, .slice none 0 0, .int .i64 0]), 4, 56) := by kernel_rfl

theorem lexR_end {cR bR : ByteArray → Nat → WayR} {s : ByteArray} {n i : Nat} {acc : List TokS} (hn : 0 < n) (h : skipB s i = s.size) : lexR cR bR s n i acc = (acc, s.size, 0) := by
  obtain ⟨m, rfl⟩ : ∃ m, n = m + 1 := ⟨n - 1, by omega⟩
  rw [lexR, if_pos h]
theorem lexR_bad {cR bR : ByteArray → Nat → WayR} {s : ByteArray} {n i : Nat} {acc : List TokS} (hn : 0 < n) (h : skipB s i ≠ s.size) (hw : wayR cR bR s (skipB s i) = none) : lexR cR bR s n i acc = ([], skipB s i, 2) := by
  obtain ⟨m, rfl⟩ : ∃ m, n = m + 1 := ⟨n - 1, by omega⟩
  rw [lexR, if_neg h, hw]
theorem lexR_go {cR bR : ByteArray → Nat → WayR} {s : ByteArray} {n i : Nat} {acc : List TokS} {k : Int} {t : ByteArray} {r : List Rng} {j : Nat} (hn : 0 < n) (h : skipB s i ≠ s.size) (hw : wayR cR bR s (skipB s i) = some (k, t, r, j)) :
    lexR cR bR s n i acc = if acc.length = 600 then ([], skipB s i, 7) else lexR cR bR s (n - 1) j (acc ++ [⟨k, t, r, skipB s i⟩]) := by
  obtain ⟨m, rfl⟩ : ∃ m, n = m + 1 := ⟨n - 1, by omega⟩
  rw [lexR, if_neg h, hw]; rfl

/-- What the walk of All knows at the head of a round. -/
def AllAt (S0 : List Nat) (cR bR : ByteArray → Nat → WayR) (s : ByteArray) (w : World) (goal : List TokS × Nat × Nat) (v : Value) (wr : World) : Prop :=
  ∃ (n i : Nat) (acc : List TokS), i ≤ s.size ∧ s.size < n + i ∧ acc.length ≤ 600 ∧ Scan wr w.heap.size s i ∧ OwnL TokRow (w.heap.size :: S0) wr (w.heap.size + 2) 24 4 v acc ∧ MapB wr (w.heap.size + 1) (wayE 10) 14 ∧ Keep [] w wr ∧ lexR cR bR s n i acc = goal

theorem callWay {c nn : Nat} (h : wayF c = some nn) (args : Array Value) (w : World) : (callFunc nn args).run Tryz.prog w = .ok (.enter nn args) w := by
  have e : nn = 36 ∨ nn = 37 ∨ nn = 38 ∨ nn = 39 ∨ nn = 40 := by
    unfold wayF at h
    split at h
    · simp only [Option.some.injEq] at h; omega
    · split at h
      · simp only [Option.some.injEq] at h; omega
      · split at h
        · simp only [Option.some.injEq] at h; omega
        · split at h
          · simp only [Option.some.injEq] at h; omega
          · split at h
            · simp only [Option.some.injEq] at h; omega
            · cases h
  have h1 : ∀ args w, (callFunc 36 args).run Tryz.prog w = .ok (.enter 36 args) w := fun _ _ => by kernel_rfl
  have h2 : ∀ args w, (callFunc 37 args).run Tryz.prog w = .ok (.enter 37 args) w := fun _ _ => by kernel_rfl
  have h3 : ∀ args w, (callFunc 38 args).run Tryz.prog w = .ok (.enter 38 args) w := fun _ _ => by kernel_rfl
  have h4 : ∀ args w, (callFunc 39 args).run Tryz.prog w = .ok (.enter 39 args) w := fun _ _ => by kernel_rfl
  have h5 : ∀ args w, (callFunc 40 args).run Tryz.prog w = .ok (.enter 40 args) w := fun _ _ => by kernel_rfl
  rcases e with rfl | rfl | rfl | rfl | rfl
  · exact h1 _ _
  · exact h2 _ _
  · exact h3 _ _
  · exact h4 _ _
  · exact h5 _ _

set_option maxRecDepth 100000 in
set_option maxHeartbeats 4000000 in
theorem all_any (S0 : List Nat) (cR bR : ByteArray → Nat → WayR) (s : ByteArray) (hm : s.size ≤ 3000) (hC : SetsAt 38 91 cR s) (hB : SetsAt 39 60 bR s) (hcA : Ahead cR s) (hbA : Ahead bR s) (w : World) (hS0 : ∀ x ∈ S0, x < w.heap.size)
    (ts : List TokS) (a e0 : Nat) (hr : lexR cR bR s (s.size + 1) 0 [] = (ts, a, e0)) :
    Calls Tryz.prog 10 #[.string s] w fun e w' => (∃ v, e = .returned (.tuple #[v, .int .i64 a, .int .i64 e0]) ∧ Toks S0 w' v ts) ∧ Keep [] w w' := by
  have HR := Lib.hid hr; clear hr
  have hgt : ¬ (3000 : Int) < (s.size : Int) := by omega
  go_enter Tryz.func10, Tryz.ntmps10
  go_wp2_with fail
  refine (ways_any _).mono ?_
  rintro e w1 ⟨rfl, M1, K1⟩
  have B0 := (Blk.new w #[.string s, .int .i64 0] 47).keep K1 (by simp)
  have K2 := ((Keep.refl [] w).alloc _).trans K1
  have hsz : (w.alloc (.cells #[.string s, .int .i64 0] 47)).heap.size = w.heap.size + 1 := by simp
  rw [hsz] at M1 ⊢
  clear K1 hsz
  have hst : AllAt S0 cR bR s w (ts, a, e0) (.slice none 0 0) w1 := ⟨s.size + 1, 0, [], by omega, by omega, by simp, B0, OwnL.nil _ _ _ _ _, M1, K2, HR.out⟩
  have HST := Lib.hid hst; clear hst B0 M1 K2 HR
  go_wp2
  go_loopw [7] (fun v wr => AllAt S0 cR bR s w (ts, a, e0) v wr) (fun _ wr => s.size - (intOf ((wr.cell? ⟨w.heap.size, 1, none⟩).getD undef)).toNat)
  case atStart => exact HST.out
  case round =>
    clear HST
    obtain ⟨n, i, acc, hi, hn, hacc, Hr, Hown, HM, Kr, hr⟩ := hrel
    obtain ⟨A, C, rfl⟩ := Hown.slice
    have HR := Lib.hid hr; clear hr
    have h0 : wr.cell? ⟨w.heap.size, 0, none⟩ = some (.string s) := Hr.cell 0
    have h1 : wr.cell? ⟨w.heap.size, 1, none⟩ = some (.int .i64 i) := Hr.cell 1
    have HMS := Lib.hid h1
    have hbnd : (i : Int) ≤ s.size := by omega
    go_wp2_with fail
    refine (trim_any _ _).mono ?_
    rintro e w2 ⟨rfl, K2⟩
    rw [toList_extract_end s i]
    have hsk := skipB_le s i hi
    have hsub : (s.size : Int) - ((⟨(Lib.trimLeftS (s.data.toList.drop i) [32, 9, 10, 13]).toArray⟩ : ByteArray).size : Int) = (skipB s i : Int) := by
      have h1 : ((⟨(Lib.trimLeftS (s.data.toList.drop i) [32, 9, 10, 13]).toArray⟩ : ByteArray).size) = (Lib.trimLeftS (s.data.toList.drop i) [32, 9, 10, 13]).length := by
        simp [ByteArray.size]
      rw [h1]
      have h2 := (List.dropWhile_suffix (fun x => List.contains [32, 9, 10, 13] x) (l := s.data.toList.drop i)).length_le
      unfold skipB Lib.trimLeftS
      have h3 : (s.data.toList.drop i).length = s.size - i := by simp
      omega
    generalize (⟨(Lib.trimLeftS (s.data.toList.drop i) [32, 9, 10, 13]).toArray⟩ : ByteArray) = tr at hsub ⊢
    generalize hf : skipB s i = f at hsub hsk
    have HF := Lib.hid hf; clear hf
    have Hr2 := Hr.keep K2 (by simp)
    have HM2 := HM.keep K2 (by simp)
    have Ho2 := Hown.move tokRow_stab K2 (S' := w.heap.size :: S0) (by simp) (fun b hb => .inl hb)
    have K3 := Kr.trans K2
    clear Hr HM Hown Kr K2 h0 h1 hbnd
    have g0 : w2.cell? ⟨w.heap.size, 0, none⟩ = some (.string s) := Hr2.cell 0
    have g1 : w2.cell? ⟨w.heap.size, 1, none⟩ = some (.int .i64 i) := Hr2.cell 1
    have gf : w2.frozen? ⟨w.heap.size, 1, none⟩ = false := Hr2.frozen 1
    have Hr3 : Scan (w2.setCell ⟨w.heap.size, 1, none⟩ (.int .i64 f)) w.heap.size s f := Scan.move Hr2 f rfl
    have HM3 := HM2.setCell ⟨w.heap.size, 1, none⟩ (by simp) (.int .i64 f)
    have KS : Keep [w.heap.size] w2 (w2.setCell ⟨w.heap.size, 1, none⟩ (.int .i64 f)) := (Keep.refl _ _).setCell (by simp) _
    have Ho3 := Ho2.move tokRow_stab KS (S' := w.heap.size :: S0) (fun b hb => .inl ⟨by simp at hb; simp [hb], fun h => by have := (Ho2.base b h).1; simp at hb; omega⟩) (fun b hb => .inl hb)
    have K4 : Keep [] w (w2.setCell ⟨w.heap.size, 1, none⟩ (.int .i64 f)) := K3.setCell (by simp) _
    by_cases hend : f = s.size
    · subst hend
      have hb : ((s.size : Int) == (s.size : Int)) = true := by simp
      have hr := HR.out
      rw [lexR_end (by omega) HF.out] at hr
      have HR' := Lib.hid hr; clear hr HR
      go_wp2
      go_ret3
      have hr := HR'.out
      simp only [Prod.mk.injEq] at hr
      obtain ⟨rfl, rfl, rfl⟩ := hr
      exact ⟨⟨_, rfl, Ho3.read tokRow_stab (fun b hb => .inl (by simp [hb])) (fun b hb hb' => by have h1 := (Ho3.base b hb).1; have := hS0 b hb'; omega)⟩, K4⟩
    · have hfl : f < s.size := by omega
      have hb : ((f : Int) == (s.size : Int)) = false := by simp; omega
      have hlk := way_look _ _ (s[f]'hfl).toNat _ HM3
      have hne : skipB s i ≠ s.size := by rw [HF.out]; exact hend
      clear hend
      have key : ∀ (w4 : World) (e : Ending), WayPost w.heap.size s (w2.setCell ⟨w.heap.size, 1, none⟩ (.int .i64 f)) (wayR cR bR s f) e w4 → True := fun _ _ _ => trivial
      clear key
      have hq1 : ∀ w, (binOp .eql 51 .nilFunc .nilFunc).run Tryz.prog w = .ok (.bool true) w := fun _ => by kernel_rfl
      have hq2 : ∀ n w, (binOp .eql 51 (.func (.func n) #[] #[]) .nilFunc).run Tryz.prog w = .ok (.bool false) w := fun _ _ => by kernel_rfl
      have hwn : ∀ nn, (wayF (s[f]'hfl).toNat).getD 25 = nn → nn = wayN (s[f]'hfl).toNat := fun nn h => by rw [← h]; rfl
      have HWN := Lib.hid hwn; clear hwn
      obtain ⟨i0, hi0, hz0, hz1, hz2⟩ := info_parts info_tok
      cases hwf : wayF (s[f]'hfl).toNat
      case' none =>
        have hv : wayV (s[f]'hfl).toNat = .nilFunc := by unfold wayV; rw [hwf]
        have hn' := HWN.out 25 (by rw [hwf]; rfl)
        have hcf : True := trivial
      case' some nn =>
        have hv : wayV (s[f]'hfl).toNat = .func (.func nn) #[] #[] := by unfold wayV; rw [hwf]; rfl
        have hn' := HWN.out nn (by rw [hwf]; rfl)
        have hcf := fun args w => callWay hwf args w
      all_goals
        rw [hv] at hlk
        have HN' := Lib.hid hn'
        clear hn' hv hwf HWN
        go_wp2_with fail
        refine (way_any cR bR s (by omega) hC hB w.heap.size f _ hfl Hr3 _ HN'.out).mono ?_
        rintro e w4 ⟨K5, hres⟩
        have HM4 := HM3.keep K5 (by simp)
        have Ho4 := Ho3.move tokRow_stab K5 (S' := w.heap.size :: S0) (fun b hb => .inl ⟨by simp at hb; simp [hb], fun h => by have := (Ho3.base b h).1; simp at hb; omega⟩) (fun b hb => .inl hb)
        have K6 := K4.then K5 (by simp)
        clear hlk hq1 hq2 hcf
        cases hw : wayR cR bR s f with
        | none =>
          rw [hw] at hres
          obtain ⟨k, t, A2, n2, C2, j, rfl, H4⟩ := hres
          have hr := HR.out
          rw [lexR_bad (by omega) hne (by rw [HF.out]; exact hw), HF.out] at hr
          have HR' := Lib.hid hr; clear hr HR hw hne
          unfold tokV
          go_wp2
          go_ret3
          have hr := HR'.out
          simp only [Prod.mk.injEq] at hr
          obtain ⟨rfl, rfl, rfl⟩ := hr
          exact ⟨⟨_, rfl, SlOf.nil _ _ _⟩, K6.alloc _⟩
        | some p =>
          obtain ⟨k, t, r, j⟩ := p
          rw [hw] at hres
          obtain ⟨v, rfl, hv, H4⟩ := hres
          have hr := HR.out
          rw [lexR_go (by omega) hne (by rw [HF.out]; exact hw), HF.out] at hr
          have HR' := Lib.hid hr; clear hr HR
          have haj := wayR_ahead hcA hbA hw
          obtain ⟨A2, C2, hvv, hvx⟩ := hv [] (by simp)
          rw [List.length_map] at hvv
          clear hvx
          subst hvv
          have HV := Lib.hid hv; clear hv
          clear hw hne
          unfold tokV
          by_cases h600 : acc.length = 600
          · have hb6 : ((acc.length : Int) == 600) = true := by simp; omega
            have hr := HR'.out
            rw [if_pos h600] at hr
            have HR2 := Lib.hid hr; clear hr HR' h600
            go_wp2
            go_ret3
            have hr := HR2.out
            simp only [Prod.mk.injEq] at hr
            obtain ⟨rfl, rfl, rfl⟩ := hr
            exact ⟨⟨_, rfl, SlOf.nil _ _ _⟩, K6.alloc _⟩
          · have hb6 : ((acc.length : Int) == 600) = false := by simp; omega
            have hr := HR'.out
            rw [if_neg h600] at hr
            have HR2 := Lib.hid hr; clear hr HR'
            have hlt4 := H4.lt
            have hm4 := HM4.lt
            obtain ⟨rows, hl, hown, hel⟩ := Ho4
            have HB3 := Lib.hid Ho3.base
            have HL3 := Lib.hid Hr3.lt
            have HEL := Lib.hid hel; clear hel Hr2 HM2 Ho2 K3 g0 g1 gf Hr3 HM3 KS Ho3 K4 hb
            go_wp2_with (at_builtin; go_loud (refine wpList_append_lies _ rfl _ _ 26 rfl (w.heap.size + 2) 24 i0 (.agg #[.int .i64 0, .string { data := #[] }, .slice none 0 0, .int .i64 0]) 4 56 Tryz.underlying26 hi0 hz0 hz1 hz2 rfl (by decide) _ acc.length _ rfl ((hown.alloc _).alloc _) ⟨w4.heap.size + 1, 0, none⟩ 1 1 [.int .i64 k, .string t, .slice A2 r.length C2, .int .i64 f] rfl rfl (World.news_of_block (Blk.new' _ _ _ (by simp))) (by simp [Value.oneCell']) (by decide) (by unfold maxLen; omega) (by omega) (by simp; omega) _ rfl ?_); intro g cap w5 O5 G5 W5 L5)
            have hr5 := HV.out (ownB (.slice A acc.length C) ++ w.heap.size :: S0) (fun x hx => by
              rcases List.mem_append.1 hx with h | h
              · exact (HB3.out x h).2
              · rcases List.mem_cons.1 h with rfl | h
                · exact HL3.out
                · exact Nat.lt_trans (hS0 x h) HL3.out)
            have hnew : TokRow (ownB (.slice A acc.length C) ++ w.heap.size :: S0) w4 ⟨k, t, r, f⟩ #[.int .i64 k, .string t, .slice A2 r.length C2, .int .i64 f] := ⟨_, rfl, hr5⟩
            have K7 : Keep [] w4 ((w4.alloc (.cells #[.int .i64 k, .string t, .slice A2 r.length C2, .int .i64 f] 24)).alloc (.cells #[.int .i64 k, .string t, .slice A2 r.length C2, .int .i64 f] 24)) := ((Keep.refl _ _).alloc _).alloc _
            have hbg : ∀ b, Value.ownBlock (.slice A acc.length C) = some b → w.heap.size + 2 ≤ b := fun b hb => (hown.lt b hb).1
            have hap := OwnL.append rows hl (fun i hi hi' => ⟨(HEL.out i hi hi').1, tokRow_stab _ _ _ _ _ _ _ (HEL.out i hi hi').2 K7 (by simp) (fun b hb => .inl hb)⟩) tokRow_stab (tokRow_stab _ _ _ _ _ _ _ hnew K7 (by simp) (fun b hb => .inl hb)) rfl O5 G5 W5
            have H5 := Blk.grown ((H4.alloc _).alloc _) G5 (fun e => by have := hbg _ e; omega)
            have M5 : MapB w5 (w.heap.size + 1) (wayE 10) 14 := (G5.block _ ((HM4.alloc _).alloc _).lt (fun e => by have := hbg _ e.symm; omega)).trans ((HM4.alloc _).alloc _)
            have K8 := (K6.trans K7).grown G5 (fun b hb => .inr (by have := hbg _ hb; omega))
            refine ⟨⟨n - 1, j, acc ++ [⟨k, t, r, f⟩], by omega, by omega, by simp; omega, H5, ?_, M5, K8, HR2.out⟩, ?_⟩
            · exact hap
            · rw [HMS.out, H5.cell 1]
              simp [intOf]
              omega
end Go.Proofs.YtmfjddhckblbhaaGreatDoor
