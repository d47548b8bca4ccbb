/- Small laws on worlds: which blocks may have turned ('Keep'), and a block known whole ('Blk'). -/
import Derived.Test.YtmfjddhckblbhaaGreatDoorProg
import Derived.WalkKit
import Derived.Deep.QuietTactic
import Derived.BigQuiet
import Derived.Outline
import Derived.Lib.Hide
import Derived.Laws.RangeString
import Derived.Laws.RangeAny
import Derived.MapKept
set_option linter.unusedVariables false
set_option linter.unusedSimpArgs false
namespace Go.Proofs.YtmfjddhckblbhaaGreatDoor
open Go Go.RowKit

/-- From w to w' only the blocks of S (and new ones) may have turned. -/
structure Keep (S : List Nat) (w w' : World) : Prop where
  os : w'.os = w.os
  tape : w'.tape = w.tape
  output : w'.output = w.output
  size : w.heap.size ≤ w'.heap.size
  block : ∀ k, k < w.heap.size → k ∉ S → w'.heap[k]? = w.heap[k]?
namespace Keep
theorem refl (S : List Nat) (w : World) : Keep S w w := ⟨rfl, rfl, rfl, Nat.le_refl _, fun _ _ _ => rfl⟩
theorem trans {S : List Nat} {a b c : World} (h : Keep S a b) (k : Keep S b c) : Keep S a c :=
  ⟨k.os.trans h.os, k.tape.trans h.tape, k.output.trans h.output, Nat.le_trans h.size k.size,
    fun i hi hs => (k.block i (Nat.lt_of_lt_of_le hi h.size) hs).trans (h.block i hi hs)⟩
theorem drew {S : List Nat} {a w : World} (h : Keep S a w) : Keep S a w.drew := ⟨h.os, h.tape, h.output, h.size, h.block⟩
theorem drewN {S : List Nat} {a w : World} (h : Keep S a w) (n : Nat) : Keep S a (w.drewN n) := ⟨h.os, h.tape, h.output, h.size, h.block⟩
theorem alloc {S : List Nat} {a w : World} (h : Keep S a w) (o : Obj) : Keep S a (w.alloc o) :=
  h.trans ⟨rfl, rfl, rfl, by simp, fun k hk _ => Below.heap_alloc _ _ _ hk⟩
theorem setCell {S : List Nat} {a w : World} (h : Keep S a w) {p : Addr} (hp : p.block ∈ S ∨ a.heap.size ≤ p.block) (u : Value) : Keep S a (w.setCell p u) :=
  ⟨h.os, h.tape, h.output, by simp [World.setCell]; exact h.size, fun k hk hs => by
    rw [Below.heap_setCell]
    · exact h.block k hk hs
    · rintro rfl
      rcases hp with hp | hp
      · exact hs hp
      · omega⟩
end Keep
theorem Keep.of_below {w w' : World} (h : Below w.heap.size w w') : Keep [] w w' := ⟨h.os, h.tape, h.output, h.size, fun k hk _ => h.block k hk⟩
theorem Keep.below {w w' : World} (h : Keep [] w w') : Below w.heap.size w w' := ⟨h.os, h.tape, h.output, h.size, fun k hk => h.block k hk (by simp)⟩
/-- A block of cells, whole. -/
def Blk (w : World) (b : Nat) (cs : Array Value) (T : TypeId) : Prop := w.heap[b]? = some (.cells cs T (0, 0))
namespace Blk
theorem lt {w : World} {b : Nat} {cs : Array Value} {T : TypeId} (h : Blk w b cs T) : b < w.heap.size := (Array.getElem?_eq_some_iff.1 h).1
theorem cell {w : World} {b : Nat} {cs : Array Value} {T : TypeId} (h : Blk w b cs T) (j : Nat) : w.cell? ⟨b, j, none⟩ = cs[j]? := by
  unfold Blk at h
  simp [World.cell?, h]
theorem frozen {w : World} {b : Nat} {cs : Array Value} {T : TypeId} (h : Blk w b cs T) (j : Nat) : w.frozen? ⟨b, j, none⟩ = false := by
  unfold Blk at h
  simp [World.frozen?, h]
theorem keep {w w' : World} {S : List Nat} {b : Nat} {cs : Array Value} {T : TypeId} (h : Blk w b cs T) (k : Keep S w w') (hb : b ∉ S) : Blk w' b cs T :=
  (k.block b h.lt hb).trans h
theorem drew {w : World} {b : Nat} {cs : Array Value} {T : TypeId} (h : Blk w b cs T) : Blk w.drew b cs T := h
theorem drewN {w : World} {b : Nat} {cs : Array Value} {T : TypeId} (h : Blk w b cs T) (n : Nat) : Blk (w.drewN n) b cs T := h
theorem alloc {w : World} {b : Nat} {cs : Array Value} {T : TypeId} (h : Blk w b cs T) (o : Obj) : Blk (w.alloc o) b cs T :=
  (Below.heap_alloc w o b h.lt).trans h
theorem new (w : World) (cs : Array Value) (T : TypeId) : Blk (w.alloc (.cells cs T)) w.heap.size cs T := by
  show (w.heap.push _)[w.heap.size]? = _
  simp
theorem new' (w : World) (cs : Array Value) (T : TypeId) {b : Nat} (h : w.heap.size = b) : Blk (w.alloc (.cells cs T)) b cs T := by
  subst h
  exact new w cs T
theorem set {w : World} {b : Nat} {cs : Array Value} {T : TypeId} (h : Blk w b cs T) (j : Nat) (u : Value) : Blk (w.setCell ⟨b, j, none⟩ u) b (cs.setIfInBounds j u) T := by
  unfold Blk at *
  simp [World.setCell, Array.getElem?_modify, h]
theorem setOther {w : World} {b : Nat} {cs : Array Value} {T : TypeId} (h : Blk w b cs T) (p : Addr) (hp : b ≠ p.block) (u : Value) : Blk (w.setCell p u) b cs T :=
  (Below.heap_setCell w p u b hp).trans h
end Blk

theorem Keep.grown {S : List Nat} {a w w' : World} {row : Option Nat} (h : Keep S a w) (hg : w.grownBy w' row) (hr : ∀ k, row = some k → k ∈ S ∨ a.heap.size ≤ k) : Keep S a w' :=
  ⟨hg.os.trans h.os, hg.tape.trans h.tape, hg.output.trans h.output, Nat.le_trans h.size hg.size, fun k hk hs => (hg.block k (Nat.lt_of_lt_of_le hk h.size) (fun e => by
    rcases hr k e.symm with h1 | h1
    · exact hs h1
    · omega)).trans (h.block k hk hs)⟩
theorem Keep.mono {S S' : List Nat} {a w : World} (h : Keep S a w) (hS : ∀ k ∈ S, k ∈ S' ∨ a.heap.size ≤ k) : Keep S' a w :=
  ⟨h.os, h.tape, h.output, h.size, fun k hk hs => h.block k hk (fun hk' => by
    rcases hS k hk' with h1 | h1
    · exact hs h1
    · omega)⟩
/-- Behind a step that may turn blocks of S' the whole may have turned those of S, if S' holds but those and new ones. -/
theorem Keep.then {S S' : List Nat} {a b c : World} (h : Keep S a b) (k : Keep S' b c) (hS : ∀ k ∈ S', k ∈ S ∨ a.heap.size ≤ k) : Keep S a c :=
  ⟨k.os.trans h.os, k.tape.trans h.tape, k.output.trans h.output, Nat.le_trans h.size k.size, fun i hi hs => (k.block i (Nat.lt_of_lt_of_le hi h.size) (fun hi' => by
    rcases hS i hi' with h1 | h1
    · exact hs h1
    · omega)).trans (h.block i hi hs)⟩
theorem Blk.grown {w w' : World} {row : Option Nat} {b : Nat} {cs : Array Value} {T : TypeId} (h : Blk w b cs T) (hg : w.grownBy w' row) (hb : row ≠ some b) : Blk w' b cs T :=
  (hg.block b h.lt (fun e => hb e.symm)).trans h
theorem Keep.grownBy {S : List Nat} {w w' : World} (h : Keep S w w') (hS : ∀ k ∈ S, False) : w.grownBy w' none :=
  ⟨h.os, h.tape, h.output, h.size, fun k hk _ => h.block k hk (fun hs => hS k hs)⟩
theorem own_keep {w w' : World} {base : Nat} {e : TypeId} {size n : Nat} {v : Value} {xs : List Value} {S : List Nat} (h : w.ownsRow base e size v n xs) (k : Keep S w w') (hS : ∀ b ∈ S, b < base) : w'.ownsRow base e size v n xs := by
  refine ⟨h.1, ?_⟩
  rcases h.2 with hn | ⟨g, cap, cur, rfl, hb, hgg, rest⟩
  · exact .inl hn
  · refine .inr ⟨g, cap, cur, rfl, hb, ?_, rest⟩
    rw [k.block g (Array.getElem?_eq_some_iff.1 hgg).1 (fun hs => by have := hS g hs; omega)]
    exact hgg
theorem own_ne {w : World} {base : Nat} {e : TypeId} {size n : Nat} {v : Value} {xs : List Value} (h : w.ownsRow base e size v n xs) {b : Nat} (hb : b < base) : v.ownBlock ≠ some b := fun e => by
  have := (h.lt b e).1
  omega
/-- The four stores of a struct of four cells. -/
def set4 (w : World) (b : Nat) (x0 x1 x2 x3 : Value) : World := (((w.setCell ⟨b, 0, none⟩ x0).setCell ⟨b, 1, none⟩ x1).setCell ⟨b, 2, none⟩ x2).setCell ⟨b, 3, none⟩ x3
theorem Blk.set4 {w : World} {b : Nat} {y0 y1 y2 y3 : Value} {T : TypeId} (h : Blk w b #[y0, y1, y2, y3] T) (x0 x1 x2 x3 : Value) : Blk (set4 w b x0 x1 x2 x3) b #[x0, x1, x2, x3] T := by
  simpa [Proofs.YtmfjddhckblbhaaGreatDoor.set4] using (((h.set 0 x0).set 1 x1).set 2 x2).set 3 x3
theorem Blk.other4 {w : World} {b b' : Nat} {cs : Array Value} {T : TypeId} (h : Blk w b cs T) (hb : b ≠ b') (x0 x1 x2 x3 : Value) : Blk (Proofs.YtmfjddhckblbhaaGreatDoor.set4 w b' x0 x1 x2 x3) b cs T :=
  (((h.setOther _ hb _).setOther _ hb _).setOther _ hb _).setOther _ hb _
theorem Keep.set4 {S : List Nat} {a w : World} (h : Keep S a w) {b : Nat} (hp : b ∈ S ∨ a.heap.size ≤ b) (x0 x1 x2 x3 : Value) : Keep S a (Proofs.YtmfjddhckblbhaaGreatDoor.set4 w b x0 x1 x2 x3) :=
  (((h.setCell (p := ⟨b, 0, none⟩) hp _).setCell (p := ⟨b, 1, none⟩) hp _).setCell (p := ⟨b, 2, none⟩) hp _).setCell (p := ⟨b, 3, none⟩) hp _
/-- At a call within a region that only reads, behind an earlier such region. -/
theorem quiet2_same {P : Program} {f : FuncId} {args : Array Value} {w : World} {a n : Nat} {v : Value}
    (h : Calls P f args (w.drewN (a + n)) fun e w' => e = .returned v ∧ w' = w.drewN (a + n)) : Calls P f args (w.drewN (a + n)) fun e w'' => e = .returned v ∧ ∃ m, w'' = w.drewN (a + m) :=
  h.mono fun _ _ ⟨he, hm⟩ => ⟨he, n, hm⟩
end Go.Proofs.YtmfjddhckblbhaaGreatDoor
namespace Go.Proofs.YtmfjddhckblbhaaGreatDoor
open Go Go.RowKit

/-- May a byte, or a rune, stand in a name? -/
def letterB (r : Int) (behind : Bool) : Bool := decide (97 ≤ r) && decide (r ≤ 122) || behind && (decide (48 ≤ r) && decide (r ≤ 57) || r == 95)
/-- How many bytes of a list are a name. -/
def wordN : List UInt8 → Bool → Nat
  | [], _ => 0
  | c :: l, b => if letterB (c.toNat : Int) b then wordN l true + 1 else 0

set_option maxHeartbeats 1000000 in
theorem letter_any (r : Int) (bh : Bool) (w : World) :
    Calls Tryz.prog 72 #[.int .i32 r, .bool bh] w fun e w' => e = .returned (.bool (letterB r bh)) ∧ w = w' := by
  unfold letterB
  cases bh
  all_goals
    by_cases h1 : 97 ≤ r
    all_goals by_cases h2 : r ≤ 122
    all_goals by_cases h3 : 48 ≤ r
    all_goals by_cases h4 : r ≤ 57
    all_goals first | omega | skip
    all_goals
      by_cases h5 : r = 95
      all_goals first | omega | skip
      all_goals
        simp only [h1, h2, h3, h4, h5, decide_true, decide_false, Bool.true_and, Bool.false_and, Bool.and_true, Bool.and_false, Bool.or_true, Bool.or_false, Bool.false_or, Bool.true_or, beq_self_eq_true]
        go_enter Tryz.func72, Tryz.ntmps72
        go_wp2
        go_ret
        first | exact ⟨rfl, rfl⟩ | exact ⟨by simp [*], rfl⟩ | trace_state

/-- The reader of tokens: its text, and where it stands. -/
def Scan (w : World) (b : Nat) (s : ByteArray) (i : Nat) : Prop := Blk w b #[.string s, .int .i64 i] 47
theorem Scan.move {w : World} {b : Nat} {s : ByteArray} {i : Nat} (h : Scan w b s i) (j : Nat) {x : Int} (hx : x = j) : Scan (w.setCell ⟨b, 1, none⟩ (.int .i64 x)) b s j := by
  subst hx
  simpa [Scan] using Blk.set h 1 (.int .i64 j)
/-- Does a byte stand at a place? -/
def isB (s : ByteArray) (i : Nat) (c : Int) : Bool := if h : i < s.size then ((s[i]'h).toNat : Int) == c else false

set_option maxHeartbeats 400000 in
theorem is_any (b : Nat) (s : ByteArray) (i : Nat) (c : Int) (w : World) (H : Scan w b s i) (hm : s.size ≤ 4096) :
    Calls Tryz.prog 65 #[.pointer (some ⟨b, 0, none⟩), .int .u8 c] w fun e w' => e = .returned (.bool (isB s i c)) ∧ Scan w' b s (if isB s i c then i + 1 else i) ∧ Keep [b] w w' := by
  have h0 : w.cell? ⟨b, 0, none⟩ = some (.string s) := H.cell 0
  have h1 : w.cell? ⟨b, 1, none⟩ = some (.int .i64 i) := H.cell 1
  have f1 : w.frozen? ⟨b, 1, none⟩ = false := H.frozen 1
  unfold isB
  by_cases hlt : i < s.size
  · simp only [hlt, dite_true]
    cases h : (((s[i]'hlt).toNat : Int) == c)
    · go_enter Tryz.func65, Tryz.ntmps65
      go_wp2
      go_quiet (fail)
      go_wp2
      go_ret
      exact ⟨rfl, H.drewN _, (Keep.refl _ _).drewN _⟩
    · go_enter Tryz.func65, Tryz.ntmps65
      go_wp2
      go_quiet (fail)
      go_wp2
      go_ret
      exact ⟨rfl, by simpa [Scan] using (H.drewN _).set 1 _, ((Keep.refl _ _).drewN _).setCell (by simp) _⟩
  · have hd : decide (i < s.size) = false := by simpa using hlt
    simp only [hlt, dite_false]
    go_enter Tryz.func65, Tryz.ntmps65
    go_wp2
    go_quiet (fail)
    go_wp2
    go_ret
    exact ⟨rfl, H.drewN _, (Keep.refl _ _).drewN _⟩
end Go.Proofs.YtmfjddhckblbhaaGreatDoor
namespace Go.Proofs.YtmfjddhckblbhaaGreatDoor
open Go Go.RowKit

theorem letterB_high {r : Int} {b : Bool} (h : 128 ≤ r) : letterB r b = false := by
  unfold letterB
  simp only [show ¬ r ≤ 122 by omega, show ¬ r ≤ 57 by omega, decide_false, Bool.and_false, Bool.false_or]
  rw [show (r == 95) = false by simp; omega]
  simp

/-- Where the name ends, from k on. -/
theorem wordN_drop (l : List UInt8) (b : Bool) (h : wordN l b ≤ l.length) : True := trivial
theorem wordN_le : ∀ (l : List UInt8) (b : Bool), wordN l b ≤ l.length
  | [], _ => Nat.le_refl _
  | c :: l, b => by
    unfold wordN
    split
    · have := wordN_le l true
      simp only [List.length_cons]; omega
    · simp

theorem extract_extract' (s : ByteArray) (i n : Nat) (hi : i ≤ s.size) (hn : i + n ≤ s.size) : (s.extract i s.size).extract 0 n = s.extract i (i + n) := by
  apply ByteArray.ext
  simp only [ByteArray.data_extract, Array.extract_extract, Nat.add_zero]
  congr 1
  show min (i + n) s.data.size = i + n
  have : s.data.size = s.size := rfl
  omega
theorem wordN_at (l : List UInt8) (k : Nat) (b : Bool) (h : k < l.length) : wordN (l.drop k) b = if letterB ((l[k]'h).toNat : Int) b then wordN (l.drop (k + 1)) true + 1 else 0 := by
  rw [List.drop_eq_getElem_cons h]; rfl
theorem toList_extract_end (s : ByteArray) (i : Nat) : (s.extract i s.size).data.toList = s.data.toList.drop i := by
  simp only [ByteArray.data_extract, Array.toList_extract]
  apply List.take_of_length_le
  show _ ≤ s.size - i
  simp
theorem size_extract_end (s : ByteArray) (i : Nat) (_hi : i ≤ s.size) : (s.extract i s.size).size = s.size - i := by
  simp [ByteArray.size_extract]

theorem letter_dec (r : ByteArray) (k : Nat) (hp : k < r.size) (b : Bool) :
    letterB ((Utf8.decode r k).1 : Int) b = letterB ((r[k]'hp).toNat : Int) b ∧ (letterB ((Utf8.decode r k).1 : Int) b = true → (Utf8.decode r k).2 = 1) := by
  by_cases ha : (r[k]'hp).toNat < 128
  · rw [decode_ascii r k hp ha]
    exact ⟨rfl, fun _ => rfl⟩
  · have h := (decode_high r k hp (by omega)).1
    rw [letterB_high (by omega : (128 : Int) ≤ ((Utf8.decode r k).1 : Int)), letterB_high (by omega : (128 : Int) ≤ ((r[k]'hp).toNat : Int))]
    exact ⟨rfl, fun h => by cases h⟩
theorem wordN_byte (r : ByteArray) (k : Nat) (hp : k < r.size) (b : Bool) :
    wordN (r.data.toList.drop k) b = if letterB ((r[k]'hp).toNat : Int) b then wordN (r.data.toList.drop (k + 1)) true + 1 else 0 :=
  wordN_at r.data.toList k b hp
theorem word_break {r : ByteArray} {k : Nat} {L : Nat} (hp : k < r.size) (hc : L = k + wordN (r.data.toList.drop k) (decide (0 < (k : Int)))) (hb : letterB ((Utf8.decode r k).1 : Int) (decide (0 < k)) = false) : L = k := by
  rw [hc, wordN_byte r k hp, ← (letter_dec r k hp _).1]
  rw [show decide (0 < (k : Int)) = decide (0 < k) by simp, hb]; simp
theorem word_end {r : ByteArray} {k : Nat} {L : Nat} (hk : k ≤ r.size) (hp : ¬ k < r.size) (hc : L = k + wordN (r.data.toList.drop k) (decide (0 < (k : Int)))) : L = r.size := by
  obtain rfl : k = r.size := by omega
  rw [hc, List.drop_of_length_le (by simp)]; simp [wordN]
theorem word_next {r : ByteArray} {k : Nat} {L : Nat} (hp : k < r.size) (hc : L = k + wordN (r.data.toList.drop k) (decide (0 < (k : Int)))) (hb : letterB ((Utf8.decode r k).1 : Int) (decide (0 < k)) = true) :
    (Utf8.decode r k).2 = 1 ∧ L = (k + 1) + wordN (r.data.toList.drop (k + 1)) (decide (0 < ((k + 1 : Nat) : Int))) := by
  refine ⟨(letter_dec r k hp _).2 hb, ?_⟩
  rw [hc, wordN_byte r k hp, ← (letter_dec r k hp _).1]
  rw [show decide (0 < (k : Int)) = decide (0 < k) by simp, hb, if_pos rfl, show decide (0 < ((k + 1 : Nat) : Int)) = true by simp]
  omega

/-- What the walk knows at the head of a round: k bytes of the rest r are a name's. -/
def WordAt (r : ByteArray) (W : World) (n : Value) (wr : World) : Prop :=
  ∃ k : Nat, k ≤ r.size ∧ wr = W.iter r k ∧ n = .int .i64 r.size ∧ wordN r.data.toList false = k + wordN (r.data.toList.drop k) (decide (0 < (k : Int)))

set_option maxHeartbeats 1000000 in
theorem word_any (b : Nat) (s : ByteArray) (i : Nat) (w : World) (H : Scan w b s i) (hm : s.size ≤ 4096) (hi : i ≤ s.size) :
    Calls Tryz.prog 45 #[.pointer (some ⟨b, 0, none⟩)] w fun e w' =>
      e = .returned (.string (s.extract i (i + wordN (s.data.toList.drop i) false))) ∧ Scan w' b s (i + wordN (s.data.toList.drop i) false) ∧ Keep [b] w w' := by
  have h0 : w.cell? ⟨b, 0, none⟩ = some (.string s) := H.cell 0
  have h1 : w.cell? ⟨b, 1, none⟩ = some (.int .i64 i) := H.cell 1
  have f1 : w.frozen? ⟨b, 1, none⟩ = false := H.frozen 1
  have hz := size_extract_end s i hi
  have hl := toList_extract_end s i
  have hw := wordN_le (s.data.toList.drop i) false
  have hL : (s.data.toList.drop i).length = s.size - i := by simp
  have hfin := extract_extract' s i (wordN (s.data.toList.drop i) false) hi (by omega)
  have HF := Lib.hid hfin; clear hfin
  have HL := Lib.hid hl; clear hl
  have HZ := Lib.hid hz; clear hz
  have HLL := Lib.hid hL; clear hL
  have hbl : b < w.heap.size := H.lt
  go_enter Tryz.func45, Tryz.ntmps45
  go_wp2
  go_quiet (fail)
  go_wp2
  have c1 : ∀ k, ((w.drewN nq).iter (s.extract i s.size) k).cell? ⟨b, 1, none⟩ = some (.int .i64 i) := fun k => (((H.drewN nq).alloc (.stringIter (s.extract i s.size) k)).cell 1)
  have g1 : ∀ k, ((w.drewN nq).iter (s.extract i s.size) k).frozen? ⟨b, 1, none⟩ = false := fun k => (((H.drewN nq).alloc (.stringIter (s.extract i s.size) k)).frozen 1)
  have fin : ∀ k, Scan (((w.drewN nq).iter (s.extract i s.size) k).setCell ⟨b, 1, none⟩ (.int .i64 (↑i + ↑(wordN (s.data.toList.drop i) false)))) b s (i + wordN (s.data.toList.drop i) false) ∧
      Keep [b] w (((w.drewN nq).iter (s.extract i s.size) k).setCell ⟨b, 1, none⟩ (.int .i64 (↑i + ↑(wordN (s.data.toList.drop i) false)))) := fun k =>
    ⟨by simpa [Scan, World.iter] using ((H.drewN nq).alloc (.stringIter (s.extract i s.size) k)).set 1 (.int .i64 (↑i + ↑(wordN (s.data.toList.drop i) false))), (((Keep.refl _ _).drewN _).alloc _).setCell (by simp) _⟩
  have FIN := Lib.hid fin; clear fin
  go_loopw [4, 5, 6] (fun n _ _ wr => WordAt (s.extract i s.size) (w.drewN nq) n wr) (fun _ _ _ wr => (s.extract i s.size).size - wr.iterPos w.heap.size)
  case atStart => exact ⟨0, Nat.zero_le _, rfl, by rw [HZ.out], by simp⟩
  case round =>
    obtain ⟨k, hk, rfl, rfl, hc⟩ := hrel
    have HC := Lib.hid hc; clear hc
    by_cases hp : k < (s.extract i s.size).size
    · have hnx : ∀ ty, (Instr.next (.pointer (some ⟨w.heap.size, 0, none⟩)) true ty).run Tryz.prog ((w.drewN nq).iter (s.extract i s.size) k) = _ := fun ty => run_next_any (w.drewN nq) (s.extract i s.size) k ty hp
      cases hb : letterB ((Utf8.decode (s.extract i s.size) k).1 : Int) (decide (0 < k))
      · have e := word_break hp HC.out hb
        rw [HL.out] at e
        have E := Lib.hid e; clear e
        have hkb : k ≤ 4096 := by have := HZ.out; omega
        go_wp2_with (go_at_call 72; refine (letter_any _ _ _).mono ?_; rintro e w' ⟨rfl, rfl⟩)
        go_ret
        rw [← E.out, HF.out]
        exact ⟨rfl, FIN.out _⟩
      · have e := word_next hp HC.out hb
        have E := Lib.hid e; clear e
        go_wp2_with (go_at_call 72; refine (letter_any _ _ _).mono ?_; rintro e w' ⟨rfl, rfl⟩)
        rw [E.out.1]
        refine ⟨⟨k + 1, by omega, rfl, ?_, E.out.2⟩, ?_⟩
        · rw [HZ.out]
        · have h1 := World.iterPos_iter (w.drewN nq) (s.extract i s.size) (k + 1)
          have h2 := World.iterPos_iter (w.drewN nq) (s.extract i s.size) k
          change World.iterPos _ w.heap.size = _ at h1 h2
          rw [h1, h2]
          omega
    · have hnx : ∀ ty, (Instr.next (.pointer (some ⟨w.heap.size, 0, none⟩)) true ty).run Tryz.prog ((w.drewN nq).iter (s.extract i s.size) k) = _ := fun ty => run_next_end (w.drewN nq) (s.extract i s.size) k ty hp
      have e := word_end hk hp HC.out
      rw [HL.out] at e
      have E := Lib.hid e; clear e
      have hkb : s.size - i ≤ 4096 := by omega
      go_wp2
      go_ret
      have e1 := E.out
      rw [HZ.out] at e1
      rw [← e1, HF.out]
      exact ⟨rfl, FIN.out _⟩
end Go.Proofs.YtmfjddhckblbhaaGreatDoor
namespace Go.Proofs.YtmfjddhckblbhaaGreatDoor
open Go Go.RowKit

/-- The slice v has these elements, each of k cells; no block of S bears them. -/
def Sl (S : List Nat) (w : World) (k : Nat) (v : Value) (xs : List (Array Value)) : Prop :=
  ∃ a c, v = .slice a xs.length c ∧ (xs.length ≤ 9223372036854775807 ∧ xs.length ≤ c) ∧ (0 < xs.length → ∃ b o, a = some ⟨b, o, none⟩ ∧ b ∉ S ∧
    ∀ i (h : i < xs.length), xs[i].size = k ∧ ∀ j, j < k → w.cell? ⟨b, o + i * k + j, none⟩ = xs[i][j]? )
namespace Sl
theorem nil (S : List Nat) (w : World) (k : Nat) : Sl S w k (.slice none 0 0) [] := ⟨none, 0, rfl, by simp, fun h => absurd h (by simp)⟩
theorem keep {S : List Nat} {w w' : World} {k : Nat} {v : Value} {xs : List (Array Value)} (h : Sl S w k v xs) (K : Keep S w w') : Sl S w' k v xs := by
  obtain ⟨a, c, hv, hm, hr⟩ := h
  refine ⟨a, c, hv, hm, fun hp => ?_⟩
  obtain ⟨b, o, ha, hb, hc⟩ := hr hp
  refine ⟨b, o, ha, hb, fun i hi => ⟨(hc i hi).1, fun j hj => ?_⟩⟩
  have h1 := (hc i hi).2 j hj
  rw [← h1]
  have hlt : b < w.heap.size := by
    have hs : xs[i][j]? = some (xs[i][j]'(by rw [(hc i hi).1]; exact hj)) := Array.getElem?_eq_getElem _
    rw [hs] at h1
    exact World.block_lt_of_cell? w _ h1
  exact World.cell?_of_block (w := w) (a := ⟨b, o + i * k + j, none⟩) (K.block b hlt hb)
/-- Blocks that were not there when the slice was made bear none of it. -/
theorem fresh {S S' : List Nat} {w w' : World} {k : Nat} {v : Value} {xs : List (Array Value)} (h : Sl S w k v xs) (hk : 0 < k) (K : Keep S' w w') (hS : ∀ b ∈ S', b ∈ S ∨ w.heap.size ≤ b) : Sl S' w' k v xs := by
  obtain ⟨a, c, hv, hm, hr⟩ := h
  refine ⟨a, c, hv, hm, fun hp => ?_⟩
  obtain ⟨b, o, ha, hb, hc⟩ := hr hp
  have hlt : b < w.heap.size := by
    have h1 := (hc 0 hp).2 0 hk
    have hs : xs[0][0]? = some (xs[0][0]'(by rw [(hc 0 hp).1]; exact hk)) := Array.getElem?_eq_getElem _
    rw [hs] at h1
    exact World.block_lt_of_cell? w _ h1
  have hb' : b ∉ S' := fun hb' => by
    rcases hS b hb' with h | h
    · exact hb h
    · omega
  refine ⟨b, o, ha, hb', fun i hi => ⟨(hc i hi).1, fun j hj => ?_⟩⟩
  rw [← (hc i hi).2 j hj]
  exact World.cell?_of_block (w := w) (a := ⟨b, o + i * k + j, none⟩) (K.block b hlt hb')
theorem mono {S S' : List Nat} {w : World} {k : Nat} {v : Value} {xs : List (Array Value)} (h : Sl S w k v xs) (hS : ∀ b ∈ S', b ∈ S) : Sl S' w k v xs := by
  obtain ⟨a, c, hv, hm, hr⟩ := h
  refine ⟨a, c, hv, hm, fun hp => ?_⟩
  obtain ⟨b, o, ha, hb, hc⟩ := hr hp
  exact ⟨b, o, ha, fun h => hb (hS b h), hc⟩
/-- A slice over a row of the call's own. -/
theorem of_blk {S : List Nat} {w : World} {b : Nat} {cs : Array Value} {T : TypeId} {k : Nat} {xs : List (Array Value)} (c : Nat) (hB : Blk w b cs T) (hb : b ∉ S) (hn : xs.length ≤ 9223372036854775807 ∧ xs.length ≤ c)
    (hx : ∀ i (h : i < xs.length), xs[i].size = k ∧ ∀ j, j < k → cs[i * k + j]? = xs[i][j]?) : Sl S w k (.slice (some ⟨b, 0, none⟩) xs.length c) xs :=
  ⟨_, c, rfl, hn, fun _ => ⟨b, 0, rfl, hb, fun i hi => ⟨(hx i hi).1, fun j hj => by rw [Nat.zero_add, hB.cell]; exact (hx i hi).2 j hj⟩⟩⟩
end Sl

/-- A slice of strings. -/
def Strs (S : List Nat) (w : World) (v : Value) (ss : List ByteArray) : Prop := Sl S w 1 v (ss.map fun s => #[.string s])
/-- One range. -/
structure Rng where
  lo : Int
  hi : Int
  deriving DecidableEq
def Rng.row (r : Rng) : Array Value := #[.int .i64 r.lo, .int .i64 r.hi]
/-- A slice of ranges. -/
def Rngs (S : List Nat) (w : World) (v : Value) (rs : List Rng) : Prop := Sl S w 2 v (rs.map Rng.row)
theorem Strs.at {S : List Nat} {w : World} {v : Value} {ss : List ByteArray} (h : Strs S w v ss) : ∃ a c, v = .slice a ss.length c ∧ (ss.length ≤ 9223372036854775807 ∧ ss.length ≤ c) ∧
    (0 < ss.length → ∃ b o, a = some ⟨b, o, none⟩ ∧ ∀ i (h : i < ss.length), w.cell? ⟨b, o + i, none⟩ = some (.string ss[i])) := by
  obtain ⟨a, c, hv, hm, hr⟩ := h
  rw [List.length_map] at hv hm
  refine ⟨a, c, hv, hm, fun hp => ?_⟩
  obtain ⟨b, o, ha, _, hc⟩ := hr (by simpa using hp)
  refine ⟨b, o, ha, fun i hi => ?_⟩
  have := (hc i (by simpa using hi)).2 0 (by omega)
  simpa using this
end Go.Proofs.YtmfjddhckblbhaaGreatDoor
namespace Go.Proofs.YtmfjddhckblbhaaGreatDoor
open Go Go.RowKit

/-- The first place of a string in a list; -1: it is not there. -/
def idxS (ss : List ByteArray) (x : ByteArray) : Int := match ss.findIdx? (fun s => x == s) with | some i => i | none => -1
theorem beq_bytes (a b : ByteArray) : (a.toList == b.toList) = (a == b) := (beq_toListBytes a b).symm
theorem idxS_hit {ss : List ByteArray} {x : ByteArray} {k : Nat} (hk : k < ss.length) (hb : ∀ i (h : i < ss.length), i < k → (x == ss[i]) = false) (h : (x == ss[k]) = true) : idxS ss x = k := by
  have : ss.findIdx? (fun s => x == s) = some k := by
    rw [List.findIdx?_eq_some_iff_getElem]
    exact ⟨hk, h, fun j hj => by simpa using hb j (by omega) hj⟩
  simp [idxS, this]
theorem idxS_miss {ss : List ByteArray} {x : ByteArray} (hb : ∀ i (h : i < ss.length), (x == ss[i]) = false) : idxS ss x = -1 := by
  have : ss.findIdx? (fun s => x == s) = none := by
    rw [List.findIdx?_eq_none_iff]
    intro s hs
    obtain ⟨i, hi, rfl⟩ := List.getElem_of_mem hs
    exact hb i hi
  simp [idxS, this]

set_option maxHeartbeats 1000000 in
theorem indexS_any (S : List Nat) (v : Value) (ss : List ByteArray) (x : ByteArray) (w : World) (H : Strs S w v ss) :
    Calls Tryz.prog 87 #[v, .string x] w fun e w' => e = .returned (.int .i64 (idxS ss x)) ∧ w = w' := by
  obtain ⟨a, c, rfl, ⟨hm, _⟩, hr⟩ := H.at
  have HR := Lib.hid hr; clear hr
  go_enter Tryz.func87, Tryz.ntmps87
  go_wp2
  go_loop [5, 8] (fun _ i => ∃ k : Nat, k ≤ ss.length ∧ i = .int .i64 k ∧ Hid (∀ i (h : i < ss.length), i < k → (x == ss[i]) = false)) (fun _ i => ss.length - (intOf i).toNat)
  case atStart => exact ⟨0, Nat.zero_le _, rfl, fun i _ h => absurd h (by omega)⟩
  case round =>
    obtain ⟨k, hk, rfl, hb⟩ := hrel
    by_cases hlt : k < ss.length
    · obtain ⟨b, o, rfl, hc⟩ := HR.out (by omega)
      have h1 := hc k hlt
      clear hc
      cases hx : (x == ss[k])
      · have hx' : (x.toList == (ss[k]).toList) = false := by rw [beq_bytes]; exact hx
        generalize hs : ss[k] = y at *
        go_wp2
        go_round
        case rel => exact ⟨k + 1, by omega, by go_num, fun i hi h => by
          by_cases e : i = k
          · subst e; rw [hs]; exact hx
          · exact hb.out i hi (by omega)⟩
        case measure => simp [intOf]; omega
      · have hx' : (x.toList == (ss[k]).toList) = true := by rw [beq_bytes]; exact hx
        have hi := Lib.hid (idxS_hit hlt hb.out hx)
        generalize hs : ss[k] = y at *
        go_wp2
        go_ret
        exact ⟨by rw [hi.out]; rfl, rfl⟩
    · have hi := Lib.hid (idxS_miss (ss := ss) (x := x) fun i h => hb.out i h (by omega))
      go_wp2
      go_ret
      exact ⟨by rw [hi.out]; rfl, rfl⟩

theorem containsS_any (S : List Nat) (v : Value) (ss : List ByteArray) (x : ByteArray) (w : World) (H : Strs S w v ss) :
    Calls Tryz.prog 63 #[v, .string x] w fun e w' => e = .returned (.bool (decide (0 ≤ idxS ss x))) ∧ w = w' := by
  go_enter Tryz.func63, Tryz.ntmps63
  go_wp2_with (go_at_call 87; refine (indexS_any S v ss x _ H).mono ?_; rintro e w' ⟨rfl, rfl⟩)
  go_ret
  exact ⟨rfl, rfl⟩
end Go.Proofs.YtmfjddhckblbhaaGreatDoor
namespace Go.Proofs.YtmfjddhckblbhaaGreatDoor
open Go Go.RowKit Go.MapKept

/-- Block m is a map of these entries. -/
def MapB (w : World) (m : Nat) (es : Array MapEntry) (clk : Nat) : Prop := w.heap[m]? = some (.map es clk)
namespace MapB
theorem lt {w : World} {m clk : Nat} {es : Array MapEntry} (h : MapB w m es clk) : m < w.heap.size := (Array.getElem?_eq_some_iff.1 h).1
theorem keep {w w' : World} {S : List Nat} {m clk : Nat} {es : Array MapEntry} (h : MapB w m es clk) (K : Keep S w w') (hm : m ∉ S) : MapB w' m es clk := (K.block m h.lt hm).trans h
theorem alloc {w : World} {m clk : Nat} {es : Array MapEntry} (h : MapB w m es clk) (o : Obj) : MapB (w.alloc o) m es clk := (Below.heap_alloc w o m h.lt).trans h
theorem drewN {w : World} {m clk : Nat} {es : Array MapEntry} (h : MapB w m es clk) (n : Nat) : MapB (w.drewN n) m es clk := h
theorem setCell {w : World} {m clk : Nat} {es : Array MapEntry} (h : MapB w m es clk) (p : Addr) (hp : m ≠ p.block) (u : Value) : MapB (w.setCell p u) m es clk := (Below.heap_setCell w p u m hp).trans h
theorem new (w : World) (es : Array MapEntry) (clk : Nat) : MapB (w.alloc (.map es clk)) w.heap.size es clk := by
  show (w.heap.push _)[w.heap.size]? = _
  simp
end MapB
/-- The world behind a turn of the map m. -/
def setMap (w : World) (m : Nat) (es : Array MapEntry) (clk : Nat) : World := { w with heap := w.heap.setIfInBounds m (.map es clk) }
theorem setMap_at {w : World} {m clk : Nat} {es : Array MapEntry} (h : MapB w m es clk) (es' : Array MapEntry) (clk' : Nat) : MapB (setMap w m es' clk') m es' clk' := (MapKept.heap_set h).1
theorem setMap_keep {S : List Nat} {a w : World} {m : Nat} (h : Keep S a w) (hm : m ∈ S ∨ a.heap.size ≤ m) (es : Array MapEntry) (clk : Nat) : Keep S a (setMap w m es clk) :=
  ⟨h.os, h.tape, h.output, by simp only [setMap, Array.size_setIfInBounds]; exact h.size, fun k hk hs => by
    have hne : k ≠ m := by
      rintro rfl
      rcases hm with h1 | h1
      · exact hs h1
      · omega
    simp only [setMap]
    rw [Array.getElem?_setIfInBounds_ne (Ne.symm hne)]
    exact h.block k hk hs⟩
section
variable {P : Program} {T K E : TypeId} {d : TypeDesc}
theorem run_lookup_at (hT : P.underlying T = some (.map K E)) (hK : P.underlying K = some d) {k : Value} (hk : IsKey d k) {w : World} {m clk : Nat} {es : Array MapEntry} (hb : MapB w m es clk) {r : Option (Nat × Value)}
    (hf : Instr.findNow d k es.toList 0 = some r) {z : Value} (hz : (zeroValue E).run P w = .ok z w) (ok : Bool) :
    (Instr.lookup T (.map (some m)) k ok).run P w = .ok (if ok then .tuple #[(r.map (·.2)).getD z, .bool r.isSome] else (r.map (·.2)).getD z) w := by
  unfold Instr.lookup
  simp only [Sem.run_bind, run_underlying hT, Result.andThen, MapKept.run_getObj_map hb, Sem.run_pure, MapKept.run_checkKey hK hk, MapKept.run_findKey hK hf]
  cases r with
  | none => simp only [Sem.run_bind, hz, Result.andThen, Sem.run_pure]; cases ok <;> rfl
  | some x => cases ok <;> rfl
theorem run_mapUpdate_new (hT : P.underlying T = some (.map K E)) (hK : P.underlying K = some d) {k : Value} (hk : IsKey d k) {w : World} {m clk : Nat} {es : Array MapEntry} (hb : MapB w m es clk)
    (hf : Instr.findNow d k es.toList 0 = some none) (v : Value) :
    (Instr.mapUpdate T (.map (some m)) k v).run P w = .ok () (setMap w m (es.push { key := k, val := v, born := clk }) (clk + 1)) := by
  unfold Instr.mapUpdate
  simp only [Sem.run_bind, run_underlying hT, Result.andThen, MapKept.run_getObj_map hb, MapKept.run_checkKey hK hk, MapKept.run_findKey hK hf, MapKept.run_setObj_map _ hb]
  rfl
end
end Go.Proofs.YtmfjddhckblbhaaGreatDoor
namespace Go.Proofs.YtmfjddhckblbhaaGreatDoor
open Go Go.RowKit Go.MapKept

def signB : ByteArray := ⟨#[61, 124, 59, 40, 41, 42, 43, 63, 47, 37]⟩
def fnV (n : Nat) : Value := .func (.func n) #[] #[]
def wayE0 : Array MapEntry := #[⟨.int .u8 64, fnV 36, 0⟩, ⟨.int .u8 34, fnV 37, 1⟩, ⟨.int .u8 91, fnV 38, 2⟩, ⟨.int .u8 60, fnV 39, 3⟩]
def wayE (k : Nat) : Array MapEntry := wayE0 ++ ((List.range k).map fun i => (⟨.int .u8 (signB.data.toList.getD i 0).toNat, fnV 40, i + 4⟩ : MapEntry)).toArray
/-- Which way a byte begins: a function's number; none: a name. -/
def wayF (c : Nat) : Option Nat :=
  if c = 64 then some 36 else if c = 34 then some 37 else if c = 91 then some 38 else if c = 60 then some 39
  else if c = 61 ∨ c = 124 ∨ c = 59 ∨ c = 40 ∨ c = 41 ∨ c = 42 ∨ c = 43 ∨ c = 63 ∨ c = 47 ∨ c = 37 then some 40 else none
def wayV (c : Nat) : Value := match wayF c with | some n => fnV n | none => .nilFunc

theorem isKey_u8 (n : Int) : IsKey (.int .u8) (.int .u8 n) := by simp [IsKey]
theorem upd (w : World) (m clk : Nat) (es : Array MapEntry) (n : Int) (v : Value) (hb : MapB w m es clk) (hf : Instr.findNow (.int .u8) (.int .u8 n) es.toList 0 = some none) :
    ∃ w1, (Instr.mapUpdate 48 (.map (some m)) (.int .u8 n) v).run Tryz.prog w = .ok () w1 ∧ MapB w1 m (es.push ⟨.int .u8 n, v, clk⟩) (clk + 1) ∧ ∀ a, Keep [] a w → a.heap.size ≤ m → Keep [] a w1 :=
  ⟨_, run_mapUpdate_new Tryz.underlying48 Tryz.underlying5 (isKey_u8 n) hb hf v, setMap_at hb _ _, fun _ K h => setMap_keep K (.inr h) _ _⟩
theorem wayE_succ (k : Nat) : wayE (k + 1) = (wayE k).push ⟨.int .u8 (signB.data.toList.getD k 0).toNat, fnV 40, k + 4⟩ := by
  unfold wayE
  rw [List.range_succ, List.map_append]
  apply Array.ext'
  simp
theorem wayE_find (k : Nat) (h : k < 10) : Instr.findNow (.int .u8) (.int .u8 (signB.data.toList.getD k 0).toNat) (wayE k).toList 0 = some none := by
  have e : k = 0 ∨ k = 1 ∨ k = 2 ∨ k = 3 ∨ k = 4 ∨ k = 5 ∨ k = 6 ∨ k = 7 ∨ k = 8 ∨ k = 9 := by omega
  rcases e with rfl | rfl | rfl | rfl | rfl | rfl | rfl | rfl | rfl | rfl <;> rfl
theorem sign_at (k : Nat) (h : k < 10) : signB.data.toList.getD k 0 = (({ data := #[61, 124, 59, 40, 41, 42, 43, 63, 47, 37] } : ByteArray)[k]'(by exact h)) := by
  have e : k = 0 ∨ k = 1 ∨ k = 2 ∨ k = 3 ∨ k = 4 ∨ k = 5 ∨ k = 6 ∨ k = 7 ∨ k = 8 ∨ k = 9 := by omega
  rcases e with rfl | rfl | rfl | rfl | rfl | rfl | rfl | rfl | rfl | rfl <;> rfl
theorem findNow_hit (c n : Nat) (v : Value) (l : List MapEntry) (i b : Nat) (h : c = n) : Instr.findNow (.int .u8) (.int .u8 c) (⟨.int .u8 n, v, b⟩ :: l) i = some (some (i, v)) := by
  subst h
  simp [Instr.findNow, Instr.sameNow]
theorem findNow_pass (c n : Nat) (v : Value) (l : List MapEntry) (i b : Nat) (h : c ≠ n) : Instr.findNow (.int .u8) (.int .u8 c) (⟨.int .u8 n, v, b⟩ :: l) i = Instr.findNow (.int .u8) (.int .u8 c) l (i + 1) := by
  have : ((c : Int) == (n : Int)) = false := by simp; omega
  simp [Instr.findNow, Instr.sameNow, this]
theorem wayV_find (c : Nat) : ∃ r, Instr.findNow (.int .u8) (.int .u8 c) (wayE 10).toList 0 = some r ∧ (r.map (·.2)).getD .nilFunc = wayV c := by
  have e : (wayE 10).toList = [⟨.int .u8 (64 : Nat), fnV 36, 0⟩, ⟨.int .u8 (34 : Nat), fnV 37, 1⟩, ⟨.int .u8 (91 : Nat), fnV 38, 2⟩, ⟨.int .u8 (60 : Nat), fnV 39, 3⟩] ++
      [⟨.int .u8 (61 : Nat), fnV 40, 4⟩, ⟨.int .u8 (124 : Nat), fnV 40, 5⟩, ⟨.int .u8 (59 : Nat), fnV 40, 6⟩, ⟨.int .u8 (40 : Nat), fnV 40, 7⟩, ⟨.int .u8 (41 : Nat), fnV 40, 8⟩, ⟨.int .u8 (42 : Nat), fnV 40, 9⟩, ⟨.int .u8 (43 : Nat), fnV 40, 10⟩, ⟨.int .u8 (63 : Nat), fnV 40, 11⟩, ⟨.int .u8 (47 : Nat), fnV 40, 12⟩, ⟨.int .u8 (37 : Nat), fnV 40, 13⟩] := rfl
  rw [e]
  simp only [List.cons_append, List.nil_append]
  unfold wayV wayF
  by_cases h1 : c = 64
  · exact ⟨_, findNow_hit _ _ _ _ _ _ h1, by simp [h1]⟩
  by_cases h2 : c = 34
  · exact ⟨_, by rw [findNow_pass _ _ _ _ _ _ h1, findNow_hit _ _ _ _ _ _ h2], by simp [h2]⟩
  by_cases h3 : c = 91
  · exact ⟨_, by rw [findNow_pass _ _ _ _ _ _ h1, findNow_pass _ _ _ _ _ _ h2, findNow_hit _ _ _ _ _ _ h3], by simp [h3]⟩
  by_cases h4 : c = 60
  · exact ⟨_, by rw [findNow_pass _ _ _ _ _ _ h1, findNow_pass _ _ _ _ _ _ h2, findNow_pass _ _ _ _ _ _ h3, findNow_hit _ _ _ _ _ _ h4], by simp [h4]⟩
  rw [findNow_pass _ _ _ _ _ _ h1, findNow_pass _ _ _ _ _ _ h2, findNow_pass _ _ _ _ _ _ h3, findNow_pass _ _ _ _ _ _ h4]
  by_cases g1 : c = 61
  · exact ⟨_, findNow_hit _ _ _ _ _ _ g1, by simp [g1]⟩
  rw [findNow_pass _ _ _ _ _ _ g1]
  by_cases g2 : c = 124
  · exact ⟨_, findNow_hit _ _ _ _ _ _ g2, by simp [g2]⟩
  rw [findNow_pass _ _ _ _ _ _ g2]
  by_cases g3 : c = 59
  · exact ⟨_, findNow_hit _ _ _ _ _ _ g3, by simp [g3]⟩
  rw [findNow_pass _ _ _ _ _ _ g3]
  by_cases g4 : c = 40
  · exact ⟨_, findNow_hit _ _ _ _ _ _ g4, by simp [g4]⟩
  rw [findNow_pass _ _ _ _ _ _ g4]
  by_cases g5 : c = 41
  · exact ⟨_, findNow_hit _ _ _ _ _ _ g5, by simp [g5]⟩
  rw [findNow_pass _ _ _ _ _ _ g5]
  by_cases g6 : c = 42
  · exact ⟨_, findNow_hit _ _ _ _ _ _ g6, by simp [g6]⟩
  rw [findNow_pass _ _ _ _ _ _ g6]
  by_cases g7 : c = 43
  · exact ⟨_, findNow_hit _ _ _ _ _ _ g7, by simp [g7]⟩
  rw [findNow_pass _ _ _ _ _ _ g7]
  by_cases g8 : c = 63
  · exact ⟨_, findNow_hit _ _ _ _ _ _ g8, by simp [g8]⟩
  rw [findNow_pass _ _ _ _ _ _ g8]
  by_cases g9 : c = 47
  · exact ⟨_, findNow_hit _ _ _ _ _ _ g9, by simp [g9]⟩
  rw [findNow_pass _ _ _ _ _ _ g9]
  by_cases g10 : c = 37
  · exact ⟨_, findNow_hit _ _ _ _ _ _ g10, by simp [g10]⟩
  rw [findNow_pass _ _ _ _ _ _ g10]
  exact ⟨none, rfl, by simp [h1, h2, h3, h4, g1, g2, g3, g4, g5, g6, g7, g8, g9, g10]⟩
theorem way_look (w : World) (m c : Nat) (clk : Nat) (hb : MapB w m (wayE 10) clk) :
    (Instr.lookup 48 (.map (some m)) (.int .u8 c) false).run Tryz.prog w = .ok (wayV c) w := by
  obtain ⟨r, hf, hr⟩ := wayV_find c
  rw [run_lookup_at Tryz.underlying48 Tryz.underlying5 (isKey_u8 c) hb hf (z := .nilFunc) (by kernel_rfl) false, ← hr]
  rfl

set_option maxRecDepth 20000 in
set_option maxHeartbeats 1000000 in
theorem ways_any (w : World) : Calls Tryz.prog 23 #[] w fun e w' =>
    e = .returned (.map (some w.heap.size)) ∧ MapB w' w.heap.size (wayE 10) 14 ∧ Keep [] w w' := by
  have hmm := @run_makeMap Tryz.prog
  obtain ⟨w1, u1, m1, k1⟩ := upd _ _ _ _ 64 (fnV 36) (MapB.new w #[] 0) rfl
  obtain ⟨w2, u2, m2, k2⟩ := upd _ _ _ _ 34 (fnV 37) m1 rfl
  obtain ⟨w3, u3, m3, k3⟩ := upd _ _ _ _ 91 (fnV 38) m2 rfl
  obtain ⟨w4, u4, m4, k4⟩ := upd _ _ _ _ 60 (fnV 39) m3 rfl
  have K4 := k4 _ (k3 _ (k2 _ (k1 _ ((Keep.refl _ w).alloc _) (Nat.le_refl _)) (Nat.le_refl _)) (Nat.le_refl _)) (Nat.le_refl _)
  clear k1 k2 k3 k4 m1 m2 m3
  unfold fnV at u1 u2 u3 u4
  go_enter Tryz.func23, Tryz.ntmps23
  go_wp2
  clear u1 u2 u3 u4
  go_loopw [2, 5] (fun _ i wr => ∃ k : Nat, k ≤ 10 ∧ i = .int .i64 k ∧ MapB wr w.heap.size (wayE k) (k + 4) ∧ Keep [] w wr) (fun _ i _ => 10 - (intOf i).toNat)
  case atStart => exact ⟨0, by omega, rfl, m4, K4⟩
  case round =>
    obtain ⟨k, hk, rfl, hM, hK⟩ := hrel
    by_cases hlt : k < 10
    · obtain ⟨w5, u5, m5, k5⟩ := upd _ _ _ _ _ (fnV 40) hM (wayE_find k hlt)
      have K5 := k5 _ hK (Nat.le_refl _)
      unfold fnV at u5
      clear k5 hM hK
      have e := sign_at k hlt
      rw [e] at u5
      clear e
      go_wp2
      go_roundw
      case rel => exact ⟨k + 1, by omega, by go_num, by rw [wayE_succ]; exact m5, K5⟩
      case measure => simp [intOf]; omega
    · obtain rfl : k = 10 := by omega
      go_wp2
      go_ret
      exact ⟨rfl, hM, hK⟩
end Go.Proofs.YtmfjddhckblbhaaGreatDoor
