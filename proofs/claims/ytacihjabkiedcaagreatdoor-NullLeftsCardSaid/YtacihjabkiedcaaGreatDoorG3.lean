/- The scanner reads numbers by sixteen. -/
import Derived.Test.YtacihjabkiedcaaGreatDoorG1
import Derived.Test.YtacihjabkiedcaaGreatDoorShelf
import Derived.Laws.BitsLemmas
import Derived.Laws.BytesString
import Derived.Lib.ConvBytes
import Derived.OwnWalk
import Derived.Maps.AppendAt
import Derived.MapKept
set_option linter.unusedVariables false
set_option linter.unusedSimpArgs false
namespace Go.Proofs.YtacihjabkiedcaaGreatDoor
open Go Go.RowKit

/-- A digit by sixteen. -/
def hexVal (c : UInt8) : Option Nat := if 48 ≤ c.toNat ∧ c.toNat ≤ 57 then some (c.toNat - 48) else if 97 ≤ c.toNat ∧ c.toNat ≤ 102 then some (c.toNat - 87) else none
def digs : ByteArray := ⟨#[48, 49, 50, 51, 52, 53, 54, 55, 56, 57, 97, 98, 99, 100, 101, 102]⟩
/-- At most m digits from i on, behind the number n: the number, and how many they are. -/
def numR (s : ByteArray) : Nat → Nat → Nat → Nat × Nat
  | 0, _, n => (n, 0)
  | m + 1, i, n => match s.data[i]? with
    | none => (n, 0)
    | some c => match hexVal c with
      | none => (n, 0)
      | some d => ((numR s m (i + 1) (n * 16 + d)).1, (numR s m (i + 1) (n * 16 + d)).2 + 1)
theorem digitByte (s : ByteArray) (i : Nat) (h : i < s.size) : s.data[i]? = some (s[i]'h) := by
  rw [Array.getElem?_eq_getElem (show i < s.data.size from h)]; rfl
theorem digs_hex (c : UInt8) : Lib.indexByte digs.data.toList c = match hexVal c with | some d => (d : Int) | none => -1 := by
  have h : ∀ n : Fin 256, Lib.indexByte digs.data.toList (UInt8.ofNat n.val) = match hexVal (UInt8.ofNat n.val) with | some d => (d : Int) | none => -1 := by decide +kernel
  have h1 := h ⟨c.toNat, c.toNat_lt⟩
  simpa using h1
theorem numR_none {s : ByteArray} {m i n : Nat} (h : ¬ i < s.size) : numR s m i n = (n, 0) := by
  cases m with
  | zero => rfl
  | succ m => rw [numR, Array.getElem?_eq_none (show s.data.size ≤ i from Nat.le_of_not_lt h)]
theorem numR_stop {s : ByteArray} {m i n : Nat} (h : i < s.size) (hv : hexVal (s[i]'h) = none) : numR s m i n = (n, 0) := by
  cases m with
  | zero => rfl
  | succ m => rw [numR, digitByte s i h]; simp only [hv]
theorem numR_go {s : ByteArray} {m k i n d : Nat} (hk : k < m) (h : i < s.size) (hv : hexVal (s[i]'h) = some d) : numR s (m - k) i n = ((numR s (m - (k + 1)) (i + 1) (n * 16 + d)).1, (numR s (m - (k + 1)) (i + 1) (n * 16 + d)).2 + 1) := by
  rw [show m - k = (m - (k + 1)) + 1 by omega, numR, digitByte s i h]; simp only [hv]
theorem hexVal_lt {c : UInt8} {d : Nat} (h : hexVal c = some d) : d < 16 := by
  unfold hexVal at h
  split at h
  · simp only [Option.some.injEq] at h; omega
  · split at h
    · simp only [Option.some.injEq] at h; omega
    · cases h
theorem numR_snd_le (s : ByteArray) : ∀ m i n, (numR s m i n).2 ≤ m
  | 0, _, _ => Nat.le_refl _
  | m + 1, i, n => by
    unfold numR
    split
    · simp
    · split
      · simp
      · have := numR_snd_le s m (i + 1); simp; exact this _

theorem numR_size (s : ByteArray) : ∀ m i n, i ≤ s.size → i + (numR s m i n).2 ≤ s.size
  | 0, _, _, h => h
  | m + 1, i, n, h => by
    unfold numR
    split
    · exact h
    · rename_i c hc
      have hi : i < s.size := by
        by_cases h1 : i < s.size
        · exact h1
        · rw [Array.getElem?_eq_none (show s.data.size ≤ i from Nat.le_of_not_lt h1)] at hc; cases hc
      cases hv : hexVal c with
      | none => exact h
      | some d =>
        have := numR_size s m (i + 1) (n * 16 + d) hi
        show i + ((numR s m (i + 1) (n * 16 + d)).2 + 1) ≤ s.size
        omega
theorem numR_lt (s : ByteArray) : ∀ m i n, (numR s m i n).1 < (n + 1) * 16 ^ m
  | 0, _, n => by simp [numR]
  | m + 1, i, n => by
    have h16 : (n + 1) * 1 ≤ (n + 1) * 16 ^ (m + 1) := Nat.mul_le_mul_left _ (Nat.one_le_pow _ _ (by omega))
    unfold numR
    split
    · show n < _; omega
    · rename_i c _
      cases hv : hexVal c with
      | none => show n < _; omega
      | some d =>
        have h := numR_lt s m (i + 1) (n * 16 + d)
        have hd := hexVal_lt hv
        show (numR s m (i + 1) (n * 16 + d)).1 < _
        refine Nat.lt_of_lt_of_le h ?_
        rw [Nat.pow_succ, ← Nat.mul_assoc, Nat.mul_right_comm]
        exact Nat.mul_le_mul_right _ (by omega)
theorem or16 (n d : Nat) (hn : n < 1048576) (hd : d < 16) : bits .or .i64 ((n : Int) * 16) (d : Int) = ((n * 16 + d : Nat) : Int) := by
  rw [bits_join .i64 31 (by decide) (fun x h0 h1 => IntWalk.i64_in x (by omega)) 4 _ _ (by omega) (by omega) (by omega) (by omega) (by omega) (by omega)]
  simp

theorem ixb (c : Int) (c8 : UInt8) (hc : c = c8.toNat) (w : World) :
    Calls Tryz.prog 166 #[.string { data := #[48, 49, 50, 51, 52, 53, 54, 55, 56, 57, 97, 98, 99, 100, 101, 102] }, .int .u8 c] w fun e w' =>
      e = .returned (.int .i64 (match hexVal c8 with | some d => (d : Int) | none => -1)) ∧ w' = w := by
  refine (Any.strings_IndexByte Tryz.lays137 digs c w).mono ?_
  rintro e w' ⟨rfl, rfl⟩
  refine ⟨?_, rfl⟩
  rw [← digs_hex, hc]
  simp

set_option maxHeartbeats 1000000 in
theorem number_any (b : Nat) (s : ByteArray) (i : Nat) (m : Nat) (mi : Int) (w : World) (H : Scan w b s i) (hm : s.size ≤ 4096) (hi : i ≤ s.size) (h6 : m ≤ 6) (hmi : mi = m) :
    Calls Tryz.prog 158 #[.pointer (some ⟨b, 0, none⟩), .int .i64 mi] w fun e w' =>
      e = .returned (.tuple #[.int .i64 (numR s m i 0).1, .int .i64 (numR s m i 0).2]) ∧ Scan w' b s (i + (numR s m i 0).2) ∧ Keep [b] w w' := by
  subst hmi
  go_enter Tryz.func158, Tryz.ntmps158
  go_wp2
  go_loopw [4, 5, 6, 7, 8, 10] (fun _ _ n _ _ k wr => ∃ (k' n' : Nat), k = .int .i64 k' ∧ k' ≤ m ∧ n = .int .i64 n' ∧ n' < 16 ^ k' ∧ i + k' ≤ s.size ∧ Scan wr b s (i + k') ∧ Keep [b] w wr ∧ Hid ((numR s m i 0).1 = (numR s (m - k') (i + k') n').1 ∧ (numR s m i 0).2 = (numR s (m - k') (i + k') n').2 + k')) (fun _ _ _ _ _ k _ => m - (intOf k).toNat)
  case atStart => exact ⟨0, 0, rfl, by omega, rfl, by simp, hi, H, Keep.refl _ _, by simp [Hid]⟩
  case round =>
    obtain ⟨k, n, rfl, hk, rfl, hn, hik, Hr, Kr, HR⟩ := hrel
    have h0 : wr.cell? ⟨b, 0, none⟩ = some (.string s) := Hr.cell 0
    have h1 : wr.cell? ⟨b, 1, none⟩ = some (.int .i64 ↑(i + k)) := Hr.cell 1
    have f1 : wr.frozen? ⟨b, 1, none⟩ = false := Hr.frozen 1
    by_cases hlt : k < m
    · by_cases hend : i + k = s.size
      · have hd : ((i : Int) + (k : Int) == (s.size : Int)) = true := by rw [← hend]; simp
        have hr : (numR s m i 0).1 = n ∧ (numR s m i 0).2 = k := by
          have h := HR.out
          rw [numR_none (s := s) (m := m - k) (i := i + k) (n := n) (by omega)] at h
          simpa using h
        have HR' := Lib.hid hr; clear hr
        clear hend
        go_wp2
        go_quiet (fail)
        go_wp2
        go_ret2
        refine ⟨?_, ?_, Kr.drewN _⟩
        · rw [HR'.out.1, HR'.out.2]; rfl
        · rw [HR'.out.2]; exact Hr.drewN _
      · have hd : ((i : Int) + (k : Int) == (s.size : Int)) = false := by simp; omega
        have hi' : i + k < s.size := by omega
        have hx1 : (0 : Int) ≤ (i : Int) + k := by omega
        have hx2 : (i : Int) + k < (s.size : Int) := by omega
        have hx3 : ((i : Int) + k).toNat = i + k := by omega
        cases hv : hexVal (s[i + k]'hi') with
        | none =>
          have hr : (numR s m i 0).1 = n ∧ (numR s m i 0).2 = k := by
            have h := HR.out
            rw [numR_stop (s := s) (m := m - k) (i := i + k) (n := n) hi' hv] at h
            simpa using h
          have HR' := Lib.hid hr; clear hr
          have HV := Lib.hid hv; clear hv
          go_wp2
          go_quiet (fail)
          go_wp2
          go_quiet ((go_at_call 166; exact quiet2_same (ixb _ (s[i + k]'hi') rfl _)))
          rw [HV.out]
          go_wp2
          go_ret2
          refine ⟨?_, ?_, Kr.drewN _⟩
          · rw [HR'.out.1, HR'.out.2]; rfl
          · rw [HR'.out.2]; exact Hr.drewN _
        | some d =>
          have hd16 := hexVal_lt hv
          have hr := HR.out
          rw [numR_go (s := s) (m := m) (k := k) (i := i + k) (n := n) hlt hi' hv] at hr
          have HR' := Lib.hid hr; clear hr
          have HV := Lib.hid hv; clear hv
          have hp : n < 1048576 := Nat.lt_of_lt_of_le hn (Nat.pow_le_pow_right (by omega) (show k ≤ 5 by omega))
          go_wp2
          go_quiet (fail)
          go_wp2
          go_quiet ((go_at_call 166; exact quiet2_same (ixb _ (s[i + k]'hi') rfl _)))
          rw [HV.out]
          go_wp2
          rw [or16 n d hp hd16]
          refine ⟨⟨k + 1, n * 16 + d, by go_num, by omega, rfl, ?_, by omega, ?_, (Kr.drewN _).setCell (by simp) _, ?_⟩, by simp [intOf]; omega⟩
          · rw [Nat.pow_succ]; omega
          · exact Scan.move (Blk.drewN Hr _) _ (by omega)
          · have h := HR'.out
            refine ⟨h.1, h.2.trans (by rw [show i + (k + 1) = i + k + 1 from rfl]; omega)⟩
    · obtain rfl : k = m := by omega
      have hr := HR.out
      simp only [Nat.sub_self, numR, Nat.zero_add] at hr
      have HR' := Lib.hid hr; clear hr
      go_wp2
      go_ret2
      refine ⟨?_, ?_, Kr⟩
      · rw [HR'.out.1, HR'.out.2]; rfl
      · rw [HR'.out.2]; exact Hr

/-- Two digits. -/
def hexR (s : ByteArray) (i : Nat) : Option Nat := if (numR s 2 i 0).2 = 2 then some (numR s 2 i 0).1 else none
set_option maxHeartbeats 1000000 in
theorem hex_any (b : Nat) (s : ByteArray) (i : Nat) (w : World) (H : Scan w b s i) (hm : s.size ≤ 4096) (hi : i ≤ s.size) :
    Calls Tryz.prog 141 #[.pointer (some ⟨b, 0, none⟩)] w fun e w' =>
      e = .returned (.tuple #[.int .i64 (numR s 2 i 0).1, .bool ((numR s 2 i 0).2 == 2)]) ∧ Scan w' b s (i + (numR s 2 i 0).2) ∧ Keep [b] w w' := by
  generalize hp : numR s 2 i 0 = p
  obtain ⟨v, c⟩ := p
  have hc : (c == 2) = ((c : Int) == 2) := by rw [Bool.eq_iff_iff]; simp; omega
  have HC := Lib.hid hc; clear hc
  have HP := Lib.hid hp; clear hp
  go_enter Tryz.func141, Tryz.ntmps141
  go_wp2_with fail
  refine (number_any b s i 2 2 _ H hm hi (by omega) rfl).mono ?_
  rw [HP.out]
  rintro e w1 ⟨rfl, H1, K1⟩
  go_wp2
  go_ret2
  exact ⟨by rw [HC.out]; rfl, H1, K1⟩
end Go.Proofs.YtacihjabkiedcaaGreatDoor
/- The scanner reads bytes in quotes. -/
namespace Go.Proofs.YtacihjabkiedcaaGreatDoor
open Go Go.RowKit

/-- From i on, behind bytes that are read: the bytes up to the quote, and the place behind it. -/
def litR (s : ByteArray) : Nat → Nat → List UInt8 → Option (List UInt8 × Nat)
  | 0, _, _ => none
  | n + 1, i, acc => match s.data[i]? with
    | none => none
    | some c =>
      if c.toNat = 34 then some (acc, i + 1)
      else if c.toNat = 92 then
        (if isB s (i + 1) 120 then (match hexR s (i + 2) with | some v => litR s n (i + 4) (acc ++ [v.toUInt8]) | none => none) else none)
      else if c.toNat < 32 ∨ 126 < c.toNat then none
      else litR s n (i + 1) (acc ++ [c])
theorem litR_end {s : ByteArray} {n i : Nat} {acc : List UInt8} (h : ¬ i < s.size) : litR s n i acc = none := by
  cases n with
  | zero => rfl
  | succ n => rw [litR, Array.getElem?_eq_none (show s.data.size ≤ i from Nat.le_of_not_lt h)]
theorem litR_quote {s : ByteArray} {n i : Nat} {acc : List UInt8} (hn : 0 < n) (h : i < s.size) (hc : (s[i]'h).toNat = 34) : litR s n i acc = some (acc, i + 1) := by
  obtain ⟨m, rfl⟩ : ∃ m, n = m + 1 := ⟨n - 1, by omega⟩
  rw [litR, digitByte s i h]; simp only [hc, if_true]
theorem litR_back {s : ByteArray} {n i : Nat} {acc : List UInt8} (hn : 0 < n) (h : i < s.size) (hc : (s[i]'h).toNat = 92) : litR s n i acc =
    if isB s (i + 1) 120 then (match hexR s (i + 2) with | some v => litR s (n - 1) (i + 4) (acc ++ [v.toUInt8]) | none => none) else none := by
  obtain ⟨m, rfl⟩ : ∃ m, n = m + 1 := ⟨n - 1, by omega⟩
  rw [litR, digitByte s i h]; simp [hc]
theorem litR_odd {s : ByteArray} {n i : Nat} {acc : List UInt8} (h : i < s.size) (h1 : (s[i]'h).toNat ≠ 34) (h2 : (s[i]'h).toNat ≠ 92) (hc : (s[i]'h).toNat < 32 ∨ 126 < (s[i]'h).toNat) : litR s n i acc = none := by
  cases n with
  | zero => rfl
  | succ n => rw [litR, digitByte s i h]; simp [h1, h2, hc]
theorem litR_go {s : ByteArray} {n i : Nat} {acc : List UInt8} (hn : 0 < n) (h : i < s.size) (h1 : (s[i]'h).toNat ≠ 34) (h2 : (s[i]'h).toNat ≠ 92) (hc : ¬ ((s[i]'h).toNat < 32 ∨ 126 < (s[i]'h).toNat)) :
    litR s n i acc = litR s (n - 1) (i + 1) (acc ++ [s[i]'h]) := by
  obtain ⟨m, rfl⟩ : ∃ m, n = m + 1 := ⟨n - 1, by omega⟩
  rw [litR, digitByte s i h]; simp [h1, h2, hc]

/-- What one of the scanner's ways hands back. -/
def WayPost (b : Nat) (s : ByteArray) (w : World) (r : Option (Int × ByteArray × List Rng × Nat)) (e : Ending) (w' : World) : Prop :=
  Keep [b] w w' ∧ match r with
    | some (k, t, rs, j) => ∃ v, e = .returned (.tuple #[tokV k t v 0, .bool true]) ∧ (∀ S : List Nat, (∀ x ∈ S, x < w.heap.size) → Rngs S w' v rs) ∧ Scan w' b s j
    | none => ∃ k t A n C j, e = .returned (.tuple #[tokV k t (.slice A n C) 0, .bool false]) ∧ Scan w' b s j

/-- The token of bytes in quotes. -/
def litTok : Option (List UInt8 × Nat) → Option (Int × ByteArray × List Rng × Nat)
  | some (l, j) => if 0 < l.length then some (1, ⟨l.toArray⟩, [], j) else none
  | none => none
theorem info_u8 : (Tryz.prog.info? 5).map (fun i => (i.zero, i.size, i.bytes)) = some (some (.int .u8 0), 1, 1) := by kernel_rfl

def u8s (l : List UInt8) : List Value := l.map fun x => .int .u8 x.toNat
/-- What the walk of lit knows at the head of a round. -/
def LitAt (b B : Nat) (s : ByteArray) (w : World) (goal : Option (List UInt8 × Nat)) (v : Value) (wr : World) : Prop :=
  ∃ (k : Nat) (acc : List UInt8) (n : Nat), s.size < n + k ∧ k ≤ s.size ∧ acc.length ≤ k ∧ Scan wr b s k ∧ wr.ownsRow (B + 1) 5 1 v acc.length (u8s acc) ∧ Blk wr B #[.int .i64 0, .string { data := #[] }, .slice none 0 0, .int .i64 0] 130 ∧
    Keep [b] w wr ∧ litR s n k acc = goal

theorem cell_one_at (W : World) (x : Value) (T : TypeId) {b : Nat} (h : W.heap.size = b) : ∀ (j : Nat) (u : Value), [x][j]? = some u → (W.alloc (.cells #[x] T)).cell? ((⟨b, 0, none⟩ : Addr).add j) = some u := by
  subst h
  exact cell_one_new W x T
theorem foldl_push (l : List UInt8) : ∀ (r : ByteArray), (l.map fun x => ((x.toNat : Nat) : Int)).foldl (fun r n => r.push (UInt8.ofNat n.toNat)) r = ⟨r.data ++ l.toArray⟩ := by
  induction l with
  | nil => intro r; simp
  | cons x l ih =>
    intro r
    simp only [List.map_cons, List.foldl_cons, ih]
    simp [ByteArray.push]
/-- Bytes of the call's own, as a string. -/
theorem run_bytes_own {w : World} {base : Nat} {v : Value} {l : List UInt8} (h : w.ownsRow base 5 1 v l.length (u8s l)) :
    (Go.convert 183 9 v).run Tryz.prog w = .ok (.string ⟨l.toArray⟩) w := by
  rcases h.2 with ⟨rfl, h0⟩ | ⟨g, cap, cur, rfl, hb, hgg, rest⟩
  · have hl : l = [] := List.eq_nil_of_length_eq_zero h0
    subst hl
    rw [run_convert_bytes_string w _ _ 5 _ _ _ Tryz.underlying183 Tryz.underlying5 Tryz.underlying9]
    rfl
  · rw [run_convert_bytes_string w _ _ 5 _ _ _ Tryz.underlying183 Tryz.underlying5 Tryz.underlying9]
    rw [run_bytesToString w _ _ _ (l.map fun x => ((x.toNat : Nat) : Int))]
    · rw [foldl_push]; simp
    · have hc := h.cells (g := g) rfl
      have := run_loadCells_list (P := Tryz.prog) (w := w) ⟨g, 0, none⟩ (u8s l) hc
      rw [show (u8s l).length = l.length by simp [u8s]] at this
      rw [this]
      simp [u8s, Function.comp_def]

set_option maxRecDepth 100000 in
set_option maxHeartbeats 2000000 in
theorem lit_any (b : Nat) (s : ByteArray) (i : Nat) (w : World) (H : Scan w b s i) (hm : s.size ≤ 4096) (hi : i < s.size) (r : Option (List UInt8 × Nat)) (hr : litR s (s.size + 1) (i + 1) [] = r) :
    Calls Tryz.prog 110 #[.pointer (some ⟨b, 0, none⟩)] w
      (WayPost b s w (litTok r)) := by
  have hlt := H.lt
  have h0 : w.cell? ⟨b, 0, none⟩ = some (.string s) := H.cell 0
  have h1 : w.cell? ⟨b, 1, none⟩ = some (.int .i64 i) := H.cell 1
  have f1 : w.frozen? ⟨b, 1, none⟩ = false := H.frozen 1
  have HB : Scan ((w.setCell ⟨b, 1, none⟩ (.int .i64 (↑i + 1))).alloc (.cells #[.int .i64 0, .string { data := #[] }, .slice none 0 0, .int .i64 0] 130)) b s (i + 1) := (H.move (i + 1) (by omega)).alloc _
  have B1 := Blk.new (w.setCell ⟨b, 1, none⟩ (.int .i64 (↑i + 1))) #[.int .i64 0, .string { data := #[] }, .slice none 0 0, .int .i64 0] 130
  have hsz : (w.setCell ⟨b, 1, none⟩ (.int .i64 (↑i + 1))).heap.size = w.heap.size := by simp [World.setCell]
  rw [hsz] at B1
  have K0 : Keep [b] w ((w.setCell ⟨b, 1, none⟩ (.int .i64 (↑i + 1))).alloc (.cells #[.int .i64 0, .string { data := #[] }, .slice none 0 0, .int .i64 0] 130)) := ((Keep.refl _ _).setCell (by simp) _).alloc _
  have HR := Lib.hid hr; clear hr
  go_enter Tryz.func110, Tryz.ntmps110
  go_wp2
  go_loopw [4, 5, 6, 7] (fun v _ _ _ wr => LitAt b w.heap.size s w r v wr) (fun _ _ _ _ wr => s.size - (intOf ((wr.cell? ⟨b, 1, none⟩).getD undef)).toNat)
  case atStart => exact ⟨i + 1, [], s.size + 1, by omega, by omega, by simp, HB, World.ownsRow_nil _ _ _ _, B1, K0, HR.out⟩
  case round =>
    clear HB B1 K0 hsz h0 h1 f1 HR
    obtain ⟨k, acc, n, hn, hk, ha, Hr, Hown, HB, Kr, hr⟩ := hrel
    have HR := Lib.hid hr; clear hr
    have h0 : wr.cell? ⟨b, 0, none⟩ = some (.string s) := Hr.cell 0
    have h1 : wr.cell? ⟨b, 1, none⟩ = some (.int .i64 k) := Hr.cell 1
    have HM := Lib.hid h1; clear h1
    go_wp2_with fail
    refine (is_any b s k 34 _ Hr hm).mono ?_
    rintro e w1 ⟨rfl, H1, K1⟩
    cases hq : isB s k 34
    · rw [hq] at H1
      simp only [Bool.false_eq_true, if_false] at H1
      have h0 : w1.cell? ⟨b, 0, none⟩ = some (.string s) := H1.cell 0
      have h1 : w1.cell? ⟨b, 1, none⟩ = some (.int .i64 k) := H1.cell 1
      have f1 : w1.frozen? ⟨b, 1, none⟩ = false := H1.frozen 1
      have O1 := own_keep Hown K1 (by simp; omega)
      have B1 := HB.keep K1 (by simp; omega)
      have K2 := Kr.trans K1
      clear HB Kr Hown K1 Hr
      by_cases hks : k < s.size
      · have hc34 : (s[k]'hks).toNat ≠ 34 := by
          unfold isB at hq
          simp only [hks, dite_true, beq_eq_false_iff_ne] at hq
          omega
        have hd : ((k : Int) == (s.size : Int)) = false := by simp; omega
        have hu8 : (s[k]'hks).toNat < 256 := (s[k]'hks).toNat_lt
        have KK : ∀ n, Keep [b] w1 ((w1.drewN n).setCell ⟨b, 1, none⟩ (.int .i64 ((k : Int) + 1))) := fun n => ((Keep.refl _ _).drewN n).setCell (by simp) _
        have HH : ∀ n, Scan ((w1.drewN n).setCell ⟨b, 1, none⟩ (.int .i64 ((k : Int) + 1))) b s (k + 1) := fun n => Scan.move (Blk.drewN H1 n) (k + 1) (by omega)
        have KK' := Lib.hid KK; clear KK
        have HH' := Lib.hid HH; clear HH
        by_cases h92 : (s[k]'hks).toNat = 92
        · have hr := HR.out
          rw [litR_back (by omega) hks h92] at hr
          have Hr' := Lib.hid hr; clear hr HR
          have hb : (((s[k]'hks).toNat : Int) == 92) = true := by simp; omega
          generalize hs : s[k]'hks = c at *
          clear hc34 h92 hu8
          go_wp2
          go_quiet (fail)
          go_wp2
          go_quiet (fail)
          go_wp2_with fail
          refine (is_any b s (k + 1) 120 _ (HH'.out _) hm).mono ?_
          rintro e w3 ⟨rfl, H3, K3⟩
          have K4 := (KK'.out _).trans K3
          have O3 := own_keep O1 K4 (by simp; omega)
          have B3 := B1.keep K4 (by simp; omega)
          have K5 := K2.trans K4
          clear K3 K4 HH' KK' h0 h1 f1 hs hb hd
          cases hx : isB s (k + 1) 120
          · rw [hx] at H3
            simp only [Bool.false_eq_true, if_false] at H3
            have hr := Hr'.out
            rw [hx] at hr
            simp only [Bool.false_eq_true, if_false] at hr
            have HRR := Lib.hid hr; clear hr Hr'
            have cB := B3.cell
            have fB := B3.frozen
            go_wp2
            refine bodyPost_ret (v := .tuple #[tokV 0 { data := #[] } noSl 0, .bool false]) (by simp [results, Tryz.results110, go_sem, tokV, noSl, cB]) rfl ⟨K5.set4 (b := w.heap.size) (by simp) (.int .i64 0) (.string { data := #[] }) (.slice none 0 0) (.int .i64 0), ?_⟩
            rw [← HRR.out]
            exact ⟨0, _, none, 0, 0, _, rfl, Blk.other4 H3 (show b ≠ w.heap.size by omega) (.int .i64 0) (.string { data := #[] }) (.slice none 0 0) (.int .i64 0)⟩
          · rw [hx] at H3
            simp only [if_true] at H3
            have hr := Hr'.out
            rw [hx] at hr
            simp only [if_true] at hr
            have HRR := Lib.hid hr; clear hr Hr'
            have hk2 : k + 2 ≤ s.size := by
              unfold isB at hx
              by_cases h : k + 1 < s.size
              · omega
              · simp [h] at hx
            go_wp2_with fail
            refine (hex_any b s (k + 2) _ H3 hm hk2).mono ?_
            rintro e w4 ⟨rfl, H4, K6⟩
            have O4 := own_keep O3 K6 (by simp; omega)
            have B4 := B3.keep K6 (by simp; omega)
            have K7 := K5.trans K6
            have hle := numR_snd_le s 2 (k + 2) 0
            have hsz2 := numR_size s 2 (k + 2) 0 hk2
            have hlt2 := numR_lt s 2 (k + 2) 0
            unfold hexR at HRR
            generalize numR s 2 (k + 2) 0 = p at *
            obtain ⟨hv, hcn⟩ := p
            by_cases h2 : hcn = 2
            · subst h2
              have hb : ((2 : Nat) == 2) = true := rfl
              have hr := HRR.out
              simp only [if_true] at hr
              have HR2 := Lib.hid hr; clear hr HRR
              have hv256 : hv < 256 := by simpa using hlt2
              clear hlt2 hle
              have hsz3 : k + 4 ≤ s.size := hsz2
              clear hsz2
              have hlt4 := B4.lt
              obtain ⟨i0, hi0, hz0, hz1, hz2⟩ := info_parts info_u8
              go_wp2_with (at_builtin; refine wpList_append_own _ rfl _ _ 183 rfl (w.heap.size + 1) 5 i0 (.int .u8 0) 1 1 Tryz.underlying183 hi0 hz0 hz1 hz2 rfl (by decide) _ acc.length _ rfl (O4.alloc _) ⟨w4.heap.size, 0, none⟩ 1 1 [.int .u8 hv] rfl rfl (cell_one_new _ _ _) (by simp [Value.oneCell']) (by unfold maxLen; omega) (by omega) (by simp; omega) ?_; intro v' w5 O5 G5 N5)
              have H5 : Scan w5 b s (k + 4) := Blk.grown (Blk.alloc H4 _) G5 (own_ne O4 (by omega))
              have B5 := Blk.grown (Blk.alloc B4 _) G5 (own_ne O4 (by omega))
              have K8 := (K7.alloc (.cells #[.int .u8 hv] 5)).grown G5 (fun j e => .inr (by have := (O4.lt j e).1; omega))
              refine ⟨⟨k + 4, acc ++ [hv.toUInt8], n - 1, by omega, by omega, by simp; omega, H5, ?_, B5, K8, ?_⟩, ?_⟩
              · have e1 : (acc ++ [hv.toUInt8]).length = acc.length + 1 := by simp
                have e2 : u8s (acc ++ [hv.toUInt8]) = u8s acc ++ [.int .u8 hv] := by simp [u8s]; omega
                rw [e1, e2]; exact O5
              · exact HR2.out
              · rw [HM.out, H5.cell 1]
                simp [intOf]
                omega
            · have hb : (hcn == 2) = false := by simpa using h2
              have hr := HRR.out
              simp only [h2, if_false] at hr
              have HR2 := Lib.hid hr; clear hr HRR
              have cB := B4.cell
              have fB := B4.frozen
              go_wp2
              refine bodyPost_ret (v := .tuple #[tokV 0 { data := #[] } noSl 0, .bool false]) (by simp [results, Tryz.results110, go_sem, tokV, noSl, cB]) rfl ⟨K7.set4 (b := w.heap.size) (by simp) (.int .i64 0) (.string { data := #[] }) (.slice none 0 0) (.int .i64 0), ?_⟩
              rw [← HR2.out]
              exact ⟨0, _, none, 0, 0, _, rfl, Blk.other4 H4 (show b ≠ w.heap.size by omega) (.int .i64 0) (.string { data := #[] }) (.slice none 0 0) (.int .i64 0)⟩
        · by_cases hodd : (s[k]'hks).toNat < 32 ∨ 126 < (s[k]'hks).toNat
          · have hr := HR.out
            rw [litR_odd hks hc34 h92 hodd] at hr
            have Hr' := Lib.hid hr; clear hr HR
            have hb : (((s[k]'hks).toNat : Int) == 92) = false := by simp; omega
            generalize hs : s[k]'hks = c at *
            have B3 : ∀ n, Blk ((w1.drewN n).setCell ⟨b, 1, none⟩ (.int .i64 ((k : Int) + 1))) w.heap.size #[.int .i64 0, .string { data := #[] }, .slice none 0 0, .int .i64 0] 130 := fun n => B1.keep (KK'.out n) (by simp; omega)
            have cB := fun n => (B3 n).cell
            have fB := fun n => (B3 n).frozen
            have fin : ∀ n, WayPost b s w (litTok r) (.returned (.tuple #[tokV 0 { data := #[] } noSl 0, .bool false])) (set4 ((w1.drewN n).setCell ⟨b, 1, none⟩ (.int .i64 ((k : Int) + 1))) w.heap.size (.int .i64 0) (.string { data := #[] }) (.slice none 0 0) (.int .i64 0)) := fun n => by
              refine ⟨(K2.trans (KK'.out n)).set4 (by simp) _ _ _ _, ?_⟩
              rw [← Hr'.out]
              exact ⟨0, _, none, 0, 0, _, rfl, Blk.other4 (HH'.out n) (by omega) _ _ _ _⟩
            have FIN := Lib.hid fin; clear fin B3
            rcases hodd with h32 | h126
            · have hb1 : ((c.toNat : Int) < 32) := by omega
              clear hc34 h92
              go_wp2
              go_quiet (fail)
              go_wp2
              go_quiet (fail)
              go_wp2
              exact bodyPost_ret (v := .tuple #[tokV 0 { data := #[] } noSl 0, .bool false]) (by simp [results, Tryz.results110, go_sem, tokV, noSl, cB]) rfl (FIN.out _)
            · have hb1 : ¬ ((c.toNat : Int) < 32) := by omega
              have hb2 : (126 : Int) < (c.toNat : Int) := by omega
              clear hc34 h92
              go_wp2
              go_quiet (fail)
              go_wp2
              go_quiet (fail)
              go_wp2
              exact bodyPost_ret (v := .tuple #[tokV 0 { data := #[] } noSl 0, .bool false]) (by simp [results, Tryz.results110, go_sem, tokV, noSl, cB]) rfl (FIN.out _)
          · have hr := HR.out
            rw [litR_go (by omega) hks hc34 h92 hodd] at hr
            have Hr' := Lib.hid hr; clear hr HR
            have hb : (((s[k]'hks).toNat : Int) == 92) = false := by simp; omega
            have hb1 : ¬ (((s[k]'hks).toNat : Int) < 32) := by omega
            have hb2 : ¬ ((126 : Int) < ((s[k]'hks).toNat : Int)) := by omega
            generalize hs : s[k]'hks = c at *
            have O3 : ∀ n, ((w1.drewN n).setCell ⟨b, 1, none⟩ (.int .i64 ((k : Int) + 1))).ownsRow (w.heap.size + 1) 5 1 u4 acc.length (u8s acc) := fun n => own_keep O1 (KK'.out n) (by simp; omega)
            have O3' := Lib.hid O3; clear O3
            have hlt1 := B1.lt
            obtain ⟨i0, hi0, hz0, hz1, hz2⟩ := info_parts info_u8
            clear hc34 h92 hodd
            go_wp2
            go_quiet (fail)
            go_wp2
            go_quiet (fail)
            go_wp2_with (at_builtin; refine wpList_append_own _ rfl _ _ 183 rfl (w.heap.size + 1) 5 i0 (.int .u8 0) 1 1 Tryz.underlying183 hi0 hz0 hz1 hz2 rfl (by decide) _ acc.length _ rfl ((O3'.out _).alloc _) ⟨w1.heap.size, 0, none⟩ 1 1 [.int .u8 c.toNat] rfl rfl (cell_one_at _ _ _ (by simp [World.setCell])) (by simp [Value.oneCell']) (by unfold maxLen; omega) (by omega) (by simp [World.setCell]; omega) ?_; intro v' w5 O5 G5 N5)
            have H5 : Scan w5 b s (k + 1) := Blk.grown (Blk.alloc (HH'.out _) _) G5 (own_ne O1 (by omega))
            have B5 := Blk.grown (Blk.alloc (B1.keep (KK'.out _) (by simp; omega)) _) G5 (own_ne O1 (by omega))
            have K8 := ((K2.trans (KK'.out _)).alloc (.cells #[.int .u8 c.toNat] 5)).grown G5 (fun j e => .inr (by have := (O1.lt j e).1; omega))
            refine ⟨⟨k + 1, acc ++ [c], n - 1, by omega, by omega, by simp; omega, H5, ?_, B5, K8, Hr'.out⟩, ?_⟩
            · have e1 : (acc ++ [c]).length = acc.length + 1 := by simp
              have e2 : u8s (acc ++ [c]) = u8s acc ++ [.int .u8 c.toNat] := by simp [u8s]
              rw [e1, e2]; exact O5
            · rw [HM.out, H5.cell 1]
              simp [intOf]
              omega
      · have hd : ((k : Int) == (s.size : Int)) = true := by simp; omega
        have hr := HR.out
        rw [litR_end hks] at hr
        have Hr' := Lib.hid hr; clear hr HR
        have cB := B1.cell
        have fB := B1.frozen
        go_wp2
        go_quiet (fail)
        go_wp2
        have K3 := (K2.drewN nq).set4 (b := w.heap.size) (by simp) (.int .i64 0) (.string { data := #[] }) (.slice none 0 0) (.int .i64 0)
        have H3 := Blk.other4 (H1.drewN nq) (show b ≠ w.heap.size by omega) (.int .i64 0) (.string { data := #[] }) (.slice none 0 0) (.int .i64 0)
        refine bodyPost_ret (v := .tuple #[tokV 0 { data := #[] } noSl 0, .bool false]) (by simp [results, Tryz.results110, go_sem, tokV, noSl, cB]) rfl ⟨K3, ?_⟩
        rw [← Hr'.out]
        exact ⟨0, _, none, 0, 0, _, rfl, H3⟩
    · rw [hq] at H1
      simp only [if_true] at H1
      have hks : k < s.size := by
        unfold isB at hq
        by_cases h : k < s.size
        · exact h
        · simp [h] at hq
      have hc34 : (s[k]'hks).toNat = 34 := by
        unfold isB at hq
        simp only [hks, dite_true, beq_iff_eq] at hq
        omega
      have hr := HR.out
      rw [litR_quote (by omega) hks hc34] at hr
      have Hr' := Lib.hid hr; clear hr HR
      have O1 := own_keep Hown K1 (by simp; omega)
      have B1 := HB.keep K1 (by simp; omega)
      have K2 := Kr.trans K1
      have hcv := run_bytes_own O1
      obtain ⟨A, C, hu⟩ : ∃ A C, u4 = .slice A acc.length C := by
        rcases O1.2 with ⟨h, h0⟩ | ⟨g, cap, cur, h, _⟩
        · exact ⟨none, 0, by rw [h, h0]⟩
        · exact ⟨_, _, h⟩
      subst hu
      have cB := B1.cell
      have fB := B1.frozen
      go_wp2
      have K3 : Keep [b] w (set4 w1 w.heap.size (.int .i64 1) (.string ⟨acc.toArray⟩) (.slice none 0 0) (.int .i64 0)) := K2.set4 (by simp) _ _ _ _
      have H3 : Scan (set4 w1 w.heap.size (.int .i64 1) (.string ⟨acc.toArray⟩) (.slice none 0 0) (.int .i64 0)) b s (k + 1) := Blk.other4 H1 (by omega) _ _ _ _
      refine bodyPost_ret (v := .tuple #[tokV 1 ⟨acc.toArray⟩ noSl 0, .bool (decide (0 < acc.length))]) (by simp [results, Tryz.results110, go_sem, tokV, noSl, cB]) rfl ⟨K3, ?_⟩
      rw [← Hr'.out]
      by_cases hal : 0 < acc.length
      · simp only [litTok, hal, if_true, decide_true]
        exact ⟨noSl, rfl, fun _ _ => Sl.nil _ _ _, H3⟩
      · simp only [litTok, hal, if_false, decide_false]
        exact ⟨1, ⟨acc.toArray⟩, none, 0, 0, _, rfl, H3⟩
end Go.Proofs.YtacihjabkiedcaaGreatDoor
/- Maps that the call made, known entry by entry. -/
namespace Go.Proofs.YtacihjabkiedcaaGreatDoor
open Go Go.RowKit Go.MapKept

/-- Block m is a map of these entries. -/
def MapB (w : World) (m : Nat) (es : Array MapEntry) (clk : Nat) : Prop := w.heap[m]? = some (.map es clk)
namespace MapB
theorem lt {w : World} {m clk : Nat} {es : Array MapEntry} (h : MapB w m es clk) : m < w.heap.size := (Array.getElem?_eq_some_iff.1 h).1
theorem keep {w w' : World} {S : List Nat} {m clk : Nat} {es : Array MapEntry} (h : MapB w m es clk) (K : Keep S w w') (hm : m ∉ S) : MapB w' m es clk := (K.block m h.lt hm).trans h
theorem alloc {w : World} {m clk : Nat} {es : Array MapEntry} (h : MapB w m es clk) (o : Obj) : MapB (w.alloc o) m es clk := (Below.heap_alloc w o m h.lt).trans h
theorem drewN {w : World} {m clk : Nat} {es : Array MapEntry} (h : MapB w m es clk) (n : Nat) : MapB (w.drewN n) m es clk := h
theorem setCell {w : World} {m clk : Nat} {es : Array MapEntry} (h : MapB w m es clk) (p : Addr) (hp : m ≠ p.block) (u : Value) : MapB (w.setCell p u) m es clk := (Below.heap_setCell w p u m hp).trans h
theorem new (w : World) (es : Array MapEntry) (clk : Nat) : MapB (w.alloc (.map es clk)) w.heap.size es clk := by
  show (w.heap.push _)[w.heap.size]? = _
  simp
end MapB
/-- The world behind a turn of the map m. -/
def setMap (w : World) (m : Nat) (es : Array MapEntry) (clk : Nat) : World := { w with heap := w.heap.setIfInBounds m (.map es clk) }
theorem setMap_at {w : World} {m clk : Nat} {es : Array MapEntry} (h : MapB w m es clk) (es' : Array MapEntry) (clk' : Nat) : MapB (setMap w m es' clk') m es' clk' := (MapKept.heap_set h).1
theorem setMap_keep {S : List Nat} {a w : World} {m : Nat} (h : Keep S a w) (hm : m ∈ S ∨ a.heap.size ≤ m) (es : Array MapEntry) (clk : Nat) : Keep S a (setMap w m es clk) :=
  ⟨h.os, h.tape, h.output, by simp only [setMap, Array.size_setIfInBounds]; exact h.size, fun k hk hs => by
    have hne : k ≠ m := by
      rintro rfl
      rcases hm with h1 | h1
      · exact hs h1
      · omega
    simp only [setMap]
    rw [Array.getElem?_setIfInBounds_ne (Ne.symm hne)]
    exact h.block k hk hs⟩
section
variable {P : Program} {T K E : TypeId} {d : TypeDesc}
theorem run_lookup_at (hT : P.underlying T = some (.map K E)) (hK : P.underlying K = some d) {k : Value} (hk : IsKey d k) {w : World} {m clk : Nat} {es : Array MapEntry} (hb : MapB w m es clk) {r : Option (Nat × Value)}
    (hf : Instr.findNow d k es.toList 0 = some r) {z : Value} (hz : (zeroValue E).run P w = .ok z w) (ok : Bool) :
    (Instr.lookup T (.map (some m)) k ok).run P w = .ok (if ok then .tuple #[(r.map (·.2)).getD z, .bool r.isSome] else (r.map (·.2)).getD z) w := by
  unfold Instr.lookup
  simp only [Sem.run_bind, run_underlying hT, Result.andThen, MapKept.run_getObj_map hb, Sem.run_pure, MapKept.run_checkKey hK hk, MapKept.run_findKey hK hf]
  cases r with
  | none => simp only [Sem.run_bind, hz, Result.andThen, Sem.run_pure]; cases ok <;> rfl
  | some x => cases ok <;> rfl
theorem run_mapUpdate_new (hT : P.underlying T = some (.map K E)) (hK : P.underlying K = some d) {k : Value} (hk : IsKey d k) {w : World} {m clk : Nat} {es : Array MapEntry} (hb : MapB w m es clk)
    (hf : Instr.findNow d k es.toList 0 = some none) (v : Value) :
    (Instr.mapUpdate T (.map (some m)) k v).run P w = .ok () (setMap w m (es.push { key := k, val := v, born := clk }) (clk + 1)) := by
  unfold Instr.mapUpdate
  simp only [Sem.run_bind, run_underlying hT, Result.andThen, MapKept.run_getObj_map hb, MapKept.run_checkKey hK hk, MapKept.run_findKey hK hf, MapKept.run_setObj_map _ hb]
  rfl
end
end Go.Proofs.YtacihjabkiedcaaGreatDoor
/- The map of the scanner's ways. -/
namespace Go.Proofs.YtacihjabkiedcaaGreatDoor
open Go Go.RowKit Go.MapKept

def signB : ByteArray := ⟨#[61, 124, 59, 40, 41, 42, 43, 63, 47, 37]⟩
def fnV (n : Nat) : Value := .func (.func n) #[] #[]
def wayE0 : Array MapEntry := #[⟨.int .u8 64, fnV 109, 0⟩, ⟨.int .u8 34, fnV 110, 1⟩, ⟨.int .u8 91, fnV 111, 2⟩, ⟨.int .u8 60, fnV 112, 3⟩]
def wayE (k : Nat) : Array MapEntry := wayE0 ++ ((List.range k).map fun i => (⟨.int .u8 (signB.data.toList.getD i 0).toNat, fnV 113, i + 4⟩ : MapEntry)).toArray
/-- Which way a byte begins: a function's number; none: a name. -/
def wayF (c : Nat) : Option Nat :=
  if c = 64 then some 109 else if c = 34 then some 110 else if c = 91 then some 111 else if c = 60 then some 112
  else if c = 61 ∨ c = 124 ∨ c = 59 ∨ c = 40 ∨ c = 41 ∨ c = 42 ∨ c = 43 ∨ c = 63 ∨ c = 47 ∨ c = 37 then some 113 else none
def wayV (c : Nat) : Value := match wayF c with | some n => fnV n | none => .nilFunc

theorem isKey_u8 (n : Int) : IsKey (.int .u8) (.int .u8 n) := by simp [IsKey]
theorem upd (w : World) (m clk : Nat) (es : Array MapEntry) (n : Int) (v : Value) (hb : MapB w m es clk) (hf : Instr.findNow (.int .u8) (.int .u8 n) es.toList 0 = some none) :
    ∃ w1, (Instr.mapUpdate 124 (.map (some m)) (.int .u8 n) v).run Tryz.prog w = .ok () w1 ∧ MapB w1 m (es.push ⟨.int .u8 n, v, clk⟩) (clk + 1) ∧ ∀ a, Keep [] a w → a.heap.size ≤ m → Keep [] a w1 :=
  ⟨_, run_mapUpdate_new Tryz.underlying124 Tryz.underlying5 (isKey_u8 n) hb hf v, setMap_at hb _ _, fun _ K h => setMap_keep K (.inr h) _ _⟩
theorem wayE_succ (k : Nat) : wayE (k + 1) = (wayE k).push ⟨.int .u8 (signB.data.toList.getD k 0).toNat, fnV 113, k + 4⟩ := by
  unfold wayE
  rw [List.range_succ, List.map_append]
  apply Array.ext'
  simp
theorem wayE_find (k : Nat) (h : k < 10) : Instr.findNow (.int .u8) (.int .u8 (signB.data.toList.getD k 0).toNat) (wayE k).toList 0 = some none := by
  have e : k = 0 ∨ k = 1 ∨ k = 2 ∨ k = 3 ∨ k = 4 ∨ k = 5 ∨ k = 6 ∨ k = 7 ∨ k = 8 ∨ k = 9 := by omega
  rcases e with rfl | rfl | rfl | rfl | rfl | rfl | rfl | rfl | rfl | rfl <;> rfl
theorem sign_at (k : Nat) (h : k < 10) : signB.data.toList.getD k 0 = (({ data := #[61, 124, 59, 40, 41, 42, 43, 63, 47, 37] } : ByteArray)[k]'(by exact h)) := by
  have e : k = 0 ∨ k = 1 ∨ k = 2 ∨ k = 3 ∨ k = 4 ∨ k = 5 ∨ k = 6 ∨ k = 7 ∨ k = 8 ∨ k = 9 := by omega
  rcases e with rfl | rfl | rfl | rfl | rfl | rfl | rfl | rfl | rfl | rfl <;> rfl
theorem findNow_hit (c n : Nat) (v : Value) (l : List MapEntry) (i b : Nat) (h : c = n) : Instr.findNow (.int .u8) (.int .u8 c) (⟨.int .u8 n, v, b⟩ :: l) i = some (some (i, v)) := by
  subst h
  simp [Instr.findNow, Instr.sameNow]
theorem findNow_pass (c n : Nat) (v : Value) (l : List MapEntry) (i b : Nat) (h : c ≠ n) : Instr.findNow (.int .u8) (.int .u8 c) (⟨.int .u8 n, v, b⟩ :: l) i = Instr.findNow (.int .u8) (.int .u8 c) l (i + 1) := by
  have : ((c : Int) == (n : Int)) = false := by simp; omega
  simp [Instr.findNow, Instr.sameNow, this]
theorem wayV_find (c : Nat) : ∃ r, Instr.findNow (.int .u8) (.int .u8 c) (wayE 10).toList 0 = some r ∧ (r.map (·.2)).getD .nilFunc = wayV c := by
  have e : (wayE 10).toList = [⟨.int .u8 (64 : Nat), fnV 109, 0⟩, ⟨.int .u8 (34 : Nat), fnV 110, 1⟩, ⟨.int .u8 (91 : Nat), fnV 111, 2⟩, ⟨.int .u8 (60 : Nat), fnV 112, 3⟩] ++
      [⟨.int .u8 (61 : Nat), fnV 113, 4⟩, ⟨.int .u8 (124 : Nat), fnV 113, 5⟩, ⟨.int .u8 (59 : Nat), fnV 113, 6⟩, ⟨.int .u8 (40 : Nat), fnV 113, 7⟩, ⟨.int .u8 (41 : Nat), fnV 113, 8⟩, ⟨.int .u8 (42 : Nat), fnV 113, 9⟩, ⟨.int .u8 (43 : Nat), fnV 113, 10⟩, ⟨.int .u8 (63 : Nat), fnV 113, 11⟩, ⟨.int .u8 (47 : Nat), fnV 113, 12⟩, ⟨.int .u8 (37 : Nat), fnV 113, 13⟩] := rfl
  rw [e]
  simp only [List.cons_append, List.nil_append]
  unfold wayV wayF
  by_cases h1 : c = 64
  · exact ⟨_, findNow_hit _ _ _ _ _ _ h1, by simp [h1]⟩
  by_cases h2 : c = 34
  · exact ⟨_, by rw [findNow_pass _ _ _ _ _ _ h1, findNow_hit _ _ _ _ _ _ h2], by simp [h2]⟩
  by_cases h3 : c = 91
  · exact ⟨_, by rw [findNow_pass _ _ _ _ _ _ h1, findNow_pass _ _ _ _ _ _ h2, findNow_hit _ _ _ _ _ _ h3], by simp [h3]⟩
  by_cases h4 : c = 60
  · exact ⟨_, by rw [findNow_pass _ _ _ _ _ _ h1, findNow_pass _ _ _ _ _ _ h2, findNow_pass _ _ _ _ _ _ h3, findNow_hit _ _ _ _ _ _ h4], by simp [h4]⟩
  rw [findNow_pass _ _ _ _ _ _ h1, findNow_pass _ _ _ _ _ _ h2, findNow_pass _ _ _ _ _ _ h3, findNow_pass _ _ _ _ _ _ h4]
  by_cases g1 : c = 61
  · exact ⟨_, findNow_hit _ _ _ _ _ _ g1, by simp [g1]⟩
  rw [findNow_pass _ _ _ _ _ _ g1]
  by_cases g2 : c = 124
  · exact ⟨_, findNow_hit _ _ _ _ _ _ g2, by simp [g2]⟩
  rw [findNow_pass _ _ _ _ _ _ g2]
  by_cases g3 : c = 59
  · exact ⟨_, findNow_hit _ _ _ _ _ _ g3, by simp [g3]⟩
  rw [findNow_pass _ _ _ _ _ _ g3]
  by_cases g4 : c = 40
  · exact ⟨_, findNow_hit _ _ _ _ _ _ g4, by simp [g4]⟩
  rw [findNow_pass _ _ _ _ _ _ g4]
  by_cases g5 : c = 41
  · exact ⟨_, findNow_hit _ _ _ _ _ _ g5, by simp [g5]⟩
  rw [findNow_pass _ _ _ _ _ _ g5]
  by_cases g6 : c = 42
  · exact ⟨_, findNow_hit _ _ _ _ _ _ g6, by simp [g6]⟩
  rw [findNow_pass _ _ _ _ _ _ g6]
  by_cases g7 : c = 43
  · exact ⟨_, findNow_hit _ _ _ _ _ _ g7, by simp [g7]⟩
  rw [findNow_pass _ _ _ _ _ _ g7]
  by_cases g8 : c = 63
  · exact ⟨_, findNow_hit _ _ _ _ _ _ g8, by simp [g8]⟩
  rw [findNow_pass _ _ _ _ _ _ g8]
  by_cases g9 : c = 47
  · exact ⟨_, findNow_hit _ _ _ _ _ _ g9, by simp [g9]⟩
  rw [findNow_pass _ _ _ _ _ _ g9]
  by_cases g10 : c = 37
  · exact ⟨_, findNow_hit _ _ _ _ _ _ g10, by simp [g10]⟩
  rw [findNow_pass _ _ _ _ _ _ g10]
  exact ⟨none, rfl, by simp [h1, h2, h3, h4, g1, g2, g3, g4, g5, g6, g7, g8, g9, g10]⟩
theorem way_look (w : World) (m c : Nat) (clk : Nat) (hb : MapB w m (wayE 10) clk) :
    (Instr.lookup 124 (.map (some m)) (.int .u8 c) false).run Tryz.prog w = .ok (wayV c) w := by
  obtain ⟨r, hf, hr⟩ := wayV_find c
  rw [run_lookup_at Tryz.underlying124 Tryz.underlying5 (isKey_u8 c) hb hf (z := .nilFunc) (by kernel_rfl) false, ← hr]
  rfl

set_option maxRecDepth 20000 in
set_option maxHeartbeats 1000000 in
theorem ways_any (w : World) : Calls Tryz.prog 82 #[] w fun e w' =>
    e = .returned (.map (some w.heap.size)) ∧ MapB w' w.heap.size (wayE 10) 14 ∧ Keep [] w w' := by
  have hmm := @run_makeMap Tryz.prog
  obtain ⟨w1, u1, m1, k1⟩ := upd _ _ _ _ 64 (fnV 109) (MapB.new w #[] 0) rfl
  obtain ⟨w2, u2, m2, k2⟩ := upd _ _ _ _ 34 (fnV 110) m1 rfl
  obtain ⟨w3, u3, m3, k3⟩ := upd _ _ _ _ 91 (fnV 111) m2 rfl
  obtain ⟨w4, u4, m4, k4⟩ := upd _ _ _ _ 60 (fnV 112) m3 rfl
  have K4 := k4 _ (k3 _ (k2 _ (k1 _ ((Keep.refl _ w).alloc _) (Nat.le_refl _)) (Nat.le_refl _)) (Nat.le_refl _)) (Nat.le_refl _)
  clear k1 k2 k3 k4 m1 m2 m3
  unfold fnV at u1 u2 u3 u4
  go_enter Tryz.func82, Tryz.ntmps82
  go_wp2
  clear u1 u2 u3 u4
  go_loopw [2, 5] (fun _ i wr => ∃ k : Nat, k ≤ 10 ∧ i = .int .i64 k ∧ MapB wr w.heap.size (wayE k) (k + 4) ∧ Keep [] w wr) (fun _ i _ => 10 - (intOf i).toNat)
  case atStart => exact ⟨0, by omega, rfl, m4, K4⟩
  case round =>
    obtain ⟨k, hk, rfl, hM, hK⟩ := hrel
    by_cases hlt : k < 10
    · obtain ⟨w5, u5, m5, k5⟩ := upd _ _ _ _ _ (fnV 113) hM (wayE_find k hlt)
      have K5 := k5 _ hK (Nat.le_refl _)
      unfold fnV at u5
      clear k5 hM hK
      have e := sign_at k hlt
      rw [e] at u5
      clear e
      go_wp2
      go_roundw
      case rel => exact ⟨k + 1, by omega, by go_num, by rw [wayE_succ]; exact m5, K5⟩
      case measure => simp [intOf]; omega
    · obtain rfl : k = 10 := by omega
      go_wp2
      go_ret
      exact ⟨rfl, hM, hK⟩
end Go.Proofs.YtacihjabkiedcaaGreatDoor
