/- The scanner reads numbers by sixteen. -/
import Derived.Test.YtmfjddhckblbhaaGreatDoorM3
import Derived.Test.YtmfjddhckblbhaaGreatDoorShelf
import Derived.Laws.BitsLemmas
import Derived.Laws.Runes
import Derived.WalkMore
set_option linter.unusedVariables false
set_option linter.unusedSimpArgs false
namespace Go.Proofs.YtmfjddhckblbhaaGreatDoor
open Go Go.RowKit

/-- A digit by sixteen. -/
def hexVal (c : UInt8) : Option Nat := if 48 ≤ c.toNat ∧ c.toNat ≤ 57 then some (c.toNat - 48) else if 97 ≤ c.toNat ∧ c.toNat ≤ 102 then some (c.toNat - 87) else none
def digs : ByteArray := ⟨#[48, 49, 50, 51, 52, 53, 54, 55, 56, 57, 97, 98, 99, 100, 101, 102]⟩
/-- At most m digits from i on, behind the number n: the number, and how many they are. -/
def numR (s : ByteArray) : Nat → Nat → Nat → Nat × Nat
  | 0, _, n => (n, 0)
  | m + 1, i, n => match s.data[i]? with
    | none => (n, 0)
    | some c => match hexVal c with
      | none => (n, 0)
      | some d => ((numR s m (i + 1) (n * 16 + d)).1, (numR s m (i + 1) (n * 16 + d)).2 + 1)
theorem digitByte (s : ByteArray) (i : Nat) (h : i < s.size) : s.data[i]? = some (s[i]'h) := by
  rw [Array.getElem?_eq_getElem (show i < s.data.size from h)]; rfl
theorem digs_hex (c : UInt8) : Lib.indexByte digs.data.toList c = match hexVal c with | some d => (d : Int) | none => -1 := by
  have h : ∀ n : Fin 256, Lib.indexByte digs.data.toList (UInt8.ofNat n.val) = match hexVal (UInt8.ofNat n.val) with | some d => (d : Int) | none => -1 := by decide +kernel
  have h1 := h ⟨c.toNat, c.toNat_lt⟩
  simpa using h1
theorem numR_none {s : ByteArray} {m i n : Nat} (h : ¬ i < s.size) : numR s m i n = (n, 0) := by
  cases m with
  | zero => rfl
  | succ m => rw [numR, Array.getElem?_eq_none (show s.data.size ≤ i from Nat.le_of_not_lt h)]
theorem numR_stop {s : ByteArray} {m i n : Nat} (h : i < s.size) (hv : hexVal (s[i]'h) = none) : numR s m i n = (n, 0) := by
  cases m with
  | zero => rfl
  | succ m => rw [numR, digitByte s i h]; simp only [hv]
theorem numR_go {s : ByteArray} {m k i n d : Nat} (hk : k < m) (h : i < s.size) (hv : hexVal (s[i]'h) = some d) : numR s (m - k) i n = ((numR s (m - (k + 1)) (i + 1) (n * 16 + d)).1, (numR s (m - (k + 1)) (i + 1) (n * 16 + d)).2 + 1) := by
  rw [show m - k = (m - (k + 1)) + 1 by omega, numR, digitByte s i h]; simp only [hv]
theorem hexVal_lt {c : UInt8} {d : Nat} (h : hexVal c = some d) : d < 16 := by
  unfold hexVal at h
  split at h
  · simp only [Option.some.injEq] at h; omega
  · split at h
    · simp only [Option.some.injEq] at h; omega
    · cases h
theorem numR_snd_le (s : ByteArray) : ∀ m i n, (numR s m i n).2 ≤ m
  | 0, _, _ => Nat.le_refl _
  | m + 1, i, n => by
    unfold numR
    split
    · simp
    · split
      · simp
      · have := numR_snd_le s m (i + 1); simp; exact this _

theorem numR_size (s : ByteArray) : ∀ m i n, i ≤ s.size → i + (numR s m i n).2 ≤ s.size
  | 0, _, _, h => h
  | m + 1, i, n, h => by
    unfold numR
    split
    · exact h
    · rename_i c hc
      have hi : i < s.size := by
        by_cases h1 : i < s.size
        · exact h1
        · rw [Array.getElem?_eq_none (show s.data.size ≤ i from Nat.le_of_not_lt h1)] at hc; cases hc
      cases hv : hexVal c with
      | none => exact h
      | some d =>
        have := numR_size s m (i + 1) (n * 16 + d) hi
        show i + ((numR s m (i + 1) (n * 16 + d)).2 + 1) ≤ s.size
        omega
theorem numR_lt (s : ByteArray) : ∀ m i n, (numR s m i n).1 < (n + 1) * 16 ^ m
  | 0, _, n => by simp [numR]
  | m + 1, i, n => by
    have h16 : (n + 1) * 1 ≤ (n + 1) * 16 ^ (m + 1) := Nat.mul_le_mul_left _ (Nat.one_le_pow _ _ (by omega))
    unfold numR
    split
    · show n < _; omega
    · rename_i c _
      cases hv : hexVal c with
      | none => show n < _; omega
      | some d =>
        have h := numR_lt s m (i + 1) (n * 16 + d)
        have hd := hexVal_lt hv
        show (numR s m (i + 1) (n * 16 + d)).1 < _
        refine Nat.lt_of_lt_of_le h ?_
        rw [Nat.pow_succ, ← Nat.mul_assoc, Nat.mul_right_comm]
        exact Nat.mul_le_mul_right _ (by omega)
theorem or16 (n d : Nat) (hn : n < 1048576) (hd : d < 16) : bits .or .i64 ((n : Int) * 16) (d : Int) = ((n * 16 + d : Nat) : Int) := by
  rw [bits_join .i64 31 (by decide) (fun x h0 h1 => IntWalk.i64_in x (by omega)) 4 _ _ (by omega) (by omega) (by omega) (by omega) (by omega) (by omega)]
  simp

theorem ixb (c : Int) (c8 : UInt8) (hc : c = c8.toNat) (w : World) :
    Calls Tryz.prog 104 #[.string { data := #[48, 49, 50, 51, 52, 53, 54, 55, 56, 57, 97, 98, 99, 100, 101, 102] }, .int .u8 c] w fun e w' =>
      e = .returned (.int .i64 (match hexVal c8 with | some d => (d : Int) | none => -1)) ∧ w' = w := by
  refine (Any.strings_IndexByte Tryz.lays137 digs c w).mono ?_
  rintro e w' ⟨rfl, rfl⟩
  refine ⟨?_, rfl⟩
  rw [← digs_hex, hc]
  simp

set_option maxHeartbeats 1000000 in
theorem number_any (b : Nat) (s : ByteArray) (i : Nat) (m : Nat) (mi : Int) (w : World) (H : Scan w b s i) (hm : s.size ≤ 4096) (hi : i ≤ s.size) (h6 : m ≤ 6) (hmi : mi = m) :
    Calls Tryz.prog 88 #[.pointer (some ⟨b, 0, none⟩), .int .i64 mi] w fun e w' =>
      e = .returned (.tuple #[.int .i64 (numR s m i 0).1, .int .i64 (numR s m i 0).2]) ∧ Scan w' b s (i + (numR s m i 0).2) ∧ Keep [b] w w' := by
  subst hmi
  go_enter Tryz.func88, Tryz.ntmps88
  go_wp2
  go_loopw [4, 5, 6, 7, 8, 10] (fun _ _ n _ _ k wr => ∃ (k' n' : Nat), k = .int .i64 k' ∧ k' ≤ m ∧ n = .int .i64 n' ∧ n' < 16 ^ k' ∧ i + k' ≤ s.size ∧ Scan wr b s (i + k') ∧ Keep [b] w wr ∧ Hid ((numR s m i 0).1 = (numR s (m - k') (i + k') n').1 ∧ (numR s m i 0).2 = (numR s (m - k') (i + k') n').2 + k')) (fun _ _ _ _ _ k _ => m - (intOf k).toNat)
  case atStart => exact ⟨0, 0, rfl, by omega, rfl, by simp, hi, H, Keep.refl _ _, by simp [Hid]⟩
  case round =>
    obtain ⟨k, n, rfl, hk, rfl, hn, hik, Hr, Kr, HR⟩ := hrel
    have h0 : wr.cell? ⟨b, 0, none⟩ = some (.string s) := Hr.cell 0
    have h1 : wr.cell? ⟨b, 1, none⟩ = some (.int .i64 ↑(i + k)) := Hr.cell 1
    have f1 : wr.frozen? ⟨b, 1, none⟩ = false := Hr.frozen 1
    by_cases hlt : k < m
    · by_cases hend : i + k = s.size
      · have hd : ((i : Int) + (k : Int) == (s.size : Int)) = true := by rw [← hend]; simp
        have hr : (numR s m i 0).1 = n ∧ (numR s m i 0).2 = k := by
          have h := HR.out
          rw [numR_none (s := s) (m := m - k) (i := i + k) (n := n) (by omega)] at h
          simpa using h
        have HR' := Lib.hid hr; clear hr
        clear hend
        go_wp2
        go_quiet (fail)
        go_wp2
        go_ret2
        refine ⟨?_, ?_, Kr.drewN _⟩
        · rw [HR'.out.1, HR'.out.2]; rfl
        · rw [HR'.out.2]; exact Hr.drewN _
      · have hd : ((i : Int) + (k : Int) == (s.size : Int)) = false := by simp; omega
        have hi' : i + k < s.size := by omega
        have hx1 : (0 : Int) ≤ (i : Int) + k := by omega
        have hx2 : (i : Int) + k < (s.size : Int) := by omega
        have hx3 : ((i : Int) + k).toNat = i + k := by omega
        cases hv : hexVal (s[i + k]'hi') with
        | none =>
          have hr : (numR s m i 0).1 = n ∧ (numR s m i 0).2 = k := by
            have h := HR.out
            rw [numR_stop (s := s) (m := m - k) (i := i + k) (n := n) hi' hv] at h
            simpa using h
          have HR' := Lib.hid hr; clear hr
          have HV := Lib.hid hv; clear hv
          go_wp2
          go_quiet (fail)
          go_wp2
          go_quiet ((go_at_call 104; exact quiet2_same (ixb _ (s[i + k]'hi') rfl _)))
          rw [HV.out]
          go_wp2
          go_ret2
          refine ⟨?_, ?_, Kr.drewN _⟩
          · rw [HR'.out.1, HR'.out.2]; rfl
          · rw [HR'.out.2]; exact Hr.drewN _
        | some d =>
          have hd16 := hexVal_lt hv
          have hr := HR.out
          rw [numR_go (s := s) (m := m) (k := k) (i := i + k) (n := n) hlt hi' hv] at hr
          have HR' := Lib.hid hr; clear hr
          have HV := Lib.hid hv; clear hv
          have hp : n < 1048576 := Nat.lt_of_lt_of_le hn (Nat.pow_le_pow_right (by omega) (show k ≤ 5 by omega))
          go_wp2
          go_quiet (fail)
          go_wp2
          go_quiet ((go_at_call 104; exact quiet2_same (ixb _ (s[i + k]'hi') rfl _)))
          rw [HV.out]
          go_wp2
          rw [or16 n d hp hd16]
          refine ⟨⟨k + 1, n * 16 + d, by go_num, by omega, rfl, ?_, by omega, ?_, (Kr.drewN _).setCell (by simp) _, ?_⟩, by simp [intOf]; omega⟩
          · rw [Nat.pow_succ]; omega
          · exact Scan.move (Blk.drewN Hr _) _ (by omega)
          · have h := HR'.out
            refine ⟨h.1, h.2.trans (by rw [show i + (k + 1) = i + k + 1 from rfl]; omega)⟩
    · obtain rfl : k = m := by omega
      have hr := HR.out
      simp only [Nat.sub_self, numR, Nat.zero_add] at hr
      have HR' := Lib.hid hr; clear hr
      go_wp2
      go_ret2
      refine ⟨?_, ?_, Kr⟩
      · rw [HR'.out.1, HR'.out.2]; rfl
      · rw [HR'.out.2]; exact Hr

/-- Two digits. -/
def hexR (s : ByteArray) (i : Nat) : Option Nat := if (numR s 2 i 0).2 = 2 then some (numR s 2 i 0).1 else none
set_option maxHeartbeats 1000000 in
theorem hex_any (b : Nat) (s : ByteArray) (i : Nat) (w : World) (H : Scan w b s i) (hm : s.size ≤ 4096) (hi : i ≤ s.size) :
    Calls Tryz.prog 66 #[.pointer (some ⟨b, 0, none⟩)] w fun e w' =>
      e = .returned (.tuple #[.int .i64 (numR s 2 i 0).1, .bool ((numR s 2 i 0).2 == 2)]) ∧ Scan w' b s (i + (numR s 2 i 0).2) ∧ Keep [b] w w' := by
  generalize hp : numR s 2 i 0 = p
  obtain ⟨v, c⟩ := p
  have hc : (c == 2) = ((c : Int) == 2) := by rw [Bool.eq_iff_iff]; simp; omega
  have HC := Lib.hid hc; clear hc
  have HP := Lib.hid hp; clear hp
  go_enter Tryz.func66, Tryz.ntmps66
  go_wp2_with fail
  refine (number_any b s i 2 2 _ H hm hi (by omega) rfl).mono ?_
  rw [HP.out]
  rintro e w1 ⟨rfl, H1, K1⟩
  go_wp2
  go_ret2
  exact ⟨by rw [HC.out]; rfl, H1, K1⟩
end Go.Proofs.YtmfjddhckblbhaaGreatDoor
namespace Go.Proofs.YtmfjddhckblbhaaGreatDoor
open Go Go.RowKit
attribute [local go_sem] Oper.semAt_some

def utfMay (r : Nat) : Bool := decide (r ≤ 1114111) && (decide (r < 55296) || decide (57343 < r))
def utfSize (r : Nat) : Nat := if r < 128 then 1 else if r < 2048 then 2 else if r < 65536 then 3 else 4
/-- The number of bytes that go on. -/
def contR : Nat → List UInt8 → Option Nat
  | r, [] => some r
  | r, c :: cs => if c.toNat / 64 = 2 then contR (r * 64 + c.toNat % 64) cs else none
/-- The scalar of n bytes, of which the first is at least h. -/
def ofU (l : List UInt8) (n h : Nat) : Option Nat := match l with
  | [] => none
  | c :: cs => if cs.length + 1 < n ∨ c.toNat < h then none else match contR (c.toNat - h) (cs.take (n - 1)) with
    | none => none
    | some r => if utfMay r && utfSize r == n then some r else none
/-- Bytes that lie in a block. -/
def Byts (w : World) (b o : Nat) (l : List UInt8) : Prop := ∀ i (h : i < l.length), w.cell? ⟨b, o + i, none⟩ = some (.int .u8 ((l[i]'h).toNat : Int))
theorem Byts.lt {w : World} {b o : Nat} {l : List UInt8} (h : Byts w b o l) (hl : 0 < l.length) : b < w.heap.size := World.block_lt_of_cell? w _ (h 0 hl)
theorem Byts.keep {S : List Nat} {w w' : World} {b o : Nat} {l : List UInt8} (h : Byts w b o l) (K : Keep S w w') (hb : b ∉ S) : Byts w' b o l := fun i hi => by
  rw [World.cell?_of_block (w := w) (a := ⟨b, o + i, none⟩) (K.block b (h.lt (by omega)) hb)]
  exact h i hi
theorem Byts.drop {w : World} {b o : Nat} {l : List UInt8} (h : Byts w b o l) (k : Nat) : Byts w b (o + k) (l.drop k) := fun i hi => by
  rw [List.length_drop] at hi
  rw [List.getElem_drop, ← h (k + i) (by omega), Nat.add_assoc]

theorem utfMay_any (r : Int) (w : World) (h : 0 ≤ r) : Calls Tryz.prog 31 #[.int .i64 r] w fun e w' => e = .returned (.bool (utfMay r.toNat)) ∧ w' = w := by
  obtain ⟨x, rfl⟩ : ∃ x : Nat, r = x := ⟨r.toNat, by omega⟩
  rw [Int.toNat_natCast]
  by_cases h1 : (x : Int) ≤ 1114111
  · by_cases h2 : (x : Int) < 55296
    · have E := Lib.hid (show utfMay x = true by simp [utfMay]; omega)
      go_enter Tryz.func31, Tryz.ntmps31
      go_wp2
      go_ret
      exact ⟨by rw [E.out]; rfl, rfl⟩
    · by_cases h3 : (57343 : Int) < x
      · have E := Lib.hid (show utfMay x = true by simp [utfMay]; omega)
        go_enter Tryz.func31, Tryz.ntmps31
        go_wp2
        go_ret
        exact ⟨by rw [E.out]; rfl, rfl⟩
      · have E := Lib.hid (show utfMay x = false by simp [utfMay]; omega)
        go_enter Tryz.func31, Tryz.ntmps31
        go_wp2
        go_ret
        exact ⟨by rw [E.out]; rfl, rfl⟩
  · have E := Lib.hid (show utfMay x = false by simp [utfMay]; omega)
    go_enter Tryz.func31, Tryz.ntmps31
    go_wp2
    go_ret
    exact ⟨by rw [E.out]; rfl, rfl⟩
theorem utfSize_any (r : Int) (w : World) (h : 0 ≤ r) : Calls Tryz.prog 141 #[.int .i64 r] w fun e w' => e = .returned (.int .i64 (utfSize r.toNat)) ∧ w' = w := by
  obtain ⟨x, rfl⟩ : ∃ x : Nat, r = x := ⟨r.toNat, by omega⟩
  rw [Int.toNat_natCast]
  obtain ⟨v, hv⟩ : ∃ v, v = utfSize x := ⟨_, rfl⟩
  rw [← hv]
  unfold utfSize at hv
  have HV := Lib.hid hv
  clear hv
  go_enter Tryz.func141, Tryz.ntmps141
  by_cases h1 : (x : Int) < 128
  · go_wp2
    go_ret
    exact ⟨by rw [HV.out, if_pos (by omega)]; rfl, rfl⟩
  · by_cases h2 : (x : Int) < 2048
    · go_wp2
      go_ret
      exact ⟨by rw [HV.out, if_neg (by omega), if_pos (by omega)]; rfl, rfl⟩
    · by_cases h3 : (x : Int) < 65536
      · go_wp2
        go_ret
        exact ⟨by rw [HV.out, if_neg (by omega), if_neg (by omega), if_pos (by omega)]; rfl, rfl⟩
      · go_wp2
        go_ret
        exact ⟨by rw [HV.out, if_neg (by omega), if_neg (by omega), if_neg (by omega)]; rfl, rfl⟩
end Go.Proofs.YtmfjddhckblbhaaGreatDoor
namespace Go.Proofs.YtmfjddhckblbhaaGreatDoor
open Go Go.RowKit
attribute [local go_sem] Oper.semAt_some

theorem or64 (n d : Nat) (hn : n < 1048576) (hd : d < 64) : bits .or .i64 ((n : Int) * 64) (d : Int) = ((n * 64 + d : Nat) : Int) := by
  rw [bits_join .i64 31 (by decide) (fun x h0 h1 => IntWalk.i64_in x (by omega)) 6 _ _ (by omega) (by omega) (by omega) (by omega) (by omega) (by omega)]
  simp
theorem andNot63 (x : UInt8) : (bits .andNot .u8 (x.toNat : Int) 63 != 128) = !(x.toNat / 64 == 2) := by
  have h : ∀ n : Fin 256, (bits .andNot .u8 ((UInt8.ofNat n.val).toNat : Int) 63 != 128) = !((UInt8.ofNat n.val).toNat / 64 == 2) := by decide +kernel
  have h1 := h ⟨x.toNat, x.toNat_lt⟩
  simpa using h1
theorem contR_lt : ∀ (l : List UInt8) (r x : Nat), contR r l = some x → x < (r + 1) * 64 ^ l.length
  | [], r, x, h => by simp only [contR, Option.some.injEq] at h; simp; omega
  | c :: cs, r, x, h => by
    rw [contR] at h
    split at h
    · have := contR_lt cs _ _ h
      rw [List.length_cons, Nat.pow_succ, Nat.mul_comm (64 ^ cs.length), ← Nat.mul_assoc]
      refine Nat.lt_of_lt_of_le this (Nat.mul_le_mul_right _ (by omega))
    · cases h
/-- What a try answers. -/
def TryAt (w : World) (goal : Option Nat) (e : Ending) (w' : World) : Prop := (∃ (r : Nat) (ok : Bool), e = .returned (.tuple #[.int .i64 r, .bool ok]) ∧ goal = if ok then some r else none) ∧ Keep [] w w'

set_option maxHeartbeats 1000000 in
theorem ofU_any (b o C : Nat) (l : List UInt8) (n h : Nat) (w : World) (HB : Byts w b o l) (hl : 0 < l.length) (hC : l.length ≤ C) (hm : l.length ≤ 4096) (hn : 1 ≤ n ∧ n ≤ 4) (hh : h ≤ 240) :
    Calls Tryz.prog 123 #[.slice (some ⟨b, o, none⟩) l.length C, .int .i64 n, .int .i64 h] w (TryAt w (ofU l n h)) := by
  obtain ⟨c, cs, rfl⟩ : ∃ c cs, l = c :: cs := by cases l with | nil => simp at hl | cons c cs => exact ⟨c, cs, rfl⟩
  have h0 : w.cell? ⟨b, o, none⟩ = some (.int .u8 (c.toNat : Int)) := HB 0 hl
  have hc := c.toNat_lt
  have hC' : cs.length + 1 ≤ C := by simpa using hC
  have hm' : cs.length + 1 ≤ 4096 := by simpa using hm
  have HG := Lib.hid (show ofU (c :: cs) n h = if cs.length + 1 < n ∨ c.toNat < h then none else match contR (c.toNat - h) (cs.take (n - 1)) with
    | none => none
    | some r => if utfMay r && utfSize r == n then some r else none from rfl)
  generalize ofU (c :: cs) n h = goal at HG ⊢
  have HL := Lib.hid HB
  clear HB
  by_cases h1 : cs.length + 1 < n
  · have E := Lib.hid (show goal = none by rw [HG.out, if_pos (.inl h1)])
    clear HG
    go_enter Tryz.func123, Tryz.ntmps123
    go_wp2
    go_ret2
    exact ⟨⟨0, false, rfl, by simp [E.out]⟩, Keep.refl _ _⟩
  by_cases h2 : c.toNat < h
  · have E := Lib.hid (show goal = none by rw [HG.out, if_pos (.inr h2)])
    clear HG
    go_enter Tryz.func123, Tryz.ntmps123
    go_wp2
    go_ret2
    exact ⟨⟨0, false, rfl, by simp [E.out]⟩, Keep.refl _ _⟩
  have h1' : n ≤ cs.length + 1 := by omega
  have HG2 := Lib.hid (show goal = match contR (c.toNat - h) (cs.take (n - 1)) with
    | none => none
    | some r => if utfMay r && utfSize r == n then some r else none by rw [HG.out, if_neg (by omega)])
  clear HG
  have hcd : (c.toNat : Int) - (h : Int) = ((c.toNat - h : Nat) : Int) := by omega
  have hd : c.toNat - h < 256 := by omega
  generalize c.toNat - h = d at hcd hd HG2
  have HTK := Lib.hid (show (cs.take (n - 1)).length = n - 1 by simp; omega)
  rcases (by omega : C = 1 ∧ n = 1 ∨ ¬ C = 1) with ⟨hC1, hn1⟩ | hC1
  case' inl =>
    have HEL : Hid (∀ k : Nat, k < n - 1 → ∃ x : UInt8, (cs.take (n - 1))[k]? = some x ∧ w.cell? ⟨b, o + k, none⟩ = some (.int .u8 (x.toNat : Int))) := Lib.hid (by intro k hk; omega)
  case' inr =>
    have HEL : Hid (∀ k : Nat, k < n - 1 → ∃ x : UInt8, (cs.take (n - 1))[k]? = some x ∧ w.cell? ⟨b, o + 1 + k, none⟩ = some (.int .u8 (x.toNat : Int))) := Lib.hid (by
      intro k hk
      have := HL.out (k + 1) (by simp; omega)
      refine ⟨cs[k]'(by omega), by rw [List.getElem?_take_of_lt hk, List.getElem?_eq_getElem], ?_⟩
      rw [show o + 1 + k = o + (k + 1) by omega, this]
      rfl)
  all_goals
    generalize cs.take (n - 1) = tk at HTK HEL HG2
    clear HL
    go_enter Tryz.func123, Tryz.ntmps123
    go_wp2
    go_loopw [6, 7, 8, 10, 33] (fun _ _ r _ k wr => wr = w ∧ ∃ (k' r' : Nat), k = .int .i64 k' ∧ k' ≤ n - 1 ∧ r = .int .i64 r' ∧ r' < 256 * 64 ^ k' ∧ Hid (contR d tk = contR r' (tk.drop k'))) (fun _ _ _ _ k _ => n - 1 - (intOf k).toNat)
    case atStart => exact ⟨rfl, 0, d, rfl, by omega, by go_num, by omega, Lib.hid rfl⟩
    case round =>
      obtain ⟨rfl, k, r, rfl, hk, rfl, hr, HR⟩ := hrel
      by_cases hlt : k < n - 1
      case' pos =>
        obtain ⟨x, hx, hcx⟩ := HEL.out k hlt
        have hx8 := x.toNat_lt
        have hrb : r < 1048576 := Nat.lt_of_lt_of_le hr (Nat.mul_le_mul_left 256 (Nat.pow_le_pow_right (by omega) (show k ≤ 2 by omega)))
        have hdr : contR r (tk.drop k) = if x.toNat / 64 = 2 then contR (r * 64 + x.toNat % 64) (tk.drop (k + 1)) else none := by
          have hk' : k < tk.length := by rw [HTK.out]; exact hlt
          rw [List.drop_eq_getElem_cons hk', contR]
          rw [List.getElem?_eq_getElem hk'] at hx
          rw [Option.some.inj hx]
        have HDR := Lib.hid hdr
        clear hdr hx
        have HO := Lib.hid (or64 r (x.toNat % 64) (by omega) (by omega))
        by_cases h2b : x.toNat / 64 = 2
        · have hbn : (bits .andNot .u8 (x.toNat : Int) 63 != 128) = false := by rw [andNot63, h2b]; rfl
          have HDR2 := Lib.hid (show contR r (tk.drop k) = contR (r * 64 + x.toNat % 64) (tk.drop (k + 1)) by rw [HDR.out, if_pos h2b])
          clear h2b HDR
          go_wp2
          all_goals rw [show ((x.toNat : Int) % 64) = ((x.toNat % 64 : Nat) : Int) by omega, HO.out]
          all_goals exact ⟨⟨trivial, k + 1, r * 64 + x.toNat % 64, by go_num, by omega, rfl, by rw [Nat.pow_succ]; omega, Lib.hid (HR.out.trans HDR2.out)⟩, by simp [intOf]; omega⟩
        · have hbn : (bits .andNot .u8 (x.toNat : Int) 63 != 128) = true := by rw [andNot63]; simp [h2b]
          have HDR2 := Lib.hid (show goal = none by rw [HG2.out, HR.out, HDR.out, if_neg h2b])
          clear h2b HDR
          go_wp2
          all_goals go_ret2
          all_goals exact ⟨⟨0, false, rfl, by simp [HDR2.out]⟩, Keep.refl _ _⟩
      case' neg =>
        have hke : k = n - 1 := by omega
        have hr2 : r < 4294967296 := by
          have := Nat.mul_le_mul_left 256 (Nat.pow_le_pow_right (n := 64) (by omega) (show k ≤ 3 by omega))
          omega
        have hcon : contR d tk = some r := by
          rw [HR.out, List.drop_eq_nil_of_le (by rw [HTK.out, hke]; exact Nat.le_refl _)]; rfl
        have HC := Lib.hid hcon
        clear hcon
        have H1 := Lib.hid (utfMay_any r wr (by omega))
        have H2 := Lib.hid (utfSize_any r wr (by omega))
        rw [Int.toNat_natCast] at H1 H2
        have HG3 := Lib.hid (show goal = if utfMay r && utfSize r == n then some r else none by rw [HG2.out, HC.out])
        clear HG2
        go_wp2_with fail
        refine H1.out.mono ?_
        rintro e w1 ⟨rfl, rfl⟩
        generalize utfMay r = may at HG3 ⊢
        cases may
        · have HG4 := Lib.hid (show goal = none by rw [HG3.out]; rfl)
          clear HG3
          go_wp2
          go_ret2
          exact ⟨⟨r, false, rfl, by simp [HG4.out]⟩, Keep.refl _ _⟩
        · have HG4 := Lib.hid (show goal = if (utfSize r == n) = true then some r else none by rw [HG3.out]; rfl)
          clear HG3
          go_wp2_with fail
          refine H2.out.mono ?_
          rintro e w1 ⟨rfl, rfl⟩
          generalize utfSize r = sz at HG4 ⊢
          go_wp2
          go_ret2
          have hz : ∀ m : Int, m = n → ((sz : Int) == m) = (sz == n) := by intro m hm; subst hm; rw [Bool.eq_iff_iff]; simp; omega
          refine ⟨⟨r, sz == n, ?_, HG4.out⟩, Keep.refl _ _⟩
          show Ending.returned (.tuple #[.int .i64 r, .bool ((sz : Int) == _)]) = _
          rw [hz _ (by first | rfl | omega)]
end Go.Proofs.YtmfjddhckblbhaaGreatDoor
namespace Go.Proofs.YtmfjddhckblbhaaGreatDoor
open Go Go.RowKit
attribute [local go_sem] Oper.semAt_some

/-- The k-th try. -/
def tryU (l : List UInt8) : Nat → Option Nat
  | 0 => ofU l 1 0
  | 1 => ofU l 2 192
  | 2 => ofU l 3 224
  | _ => ofU l 4 240
def nextW (l : List UInt8) : Nat → Nat → Int × Nat
  | 0, _ => (-1, 1)
  | n + 1, k => match tryU l k with | some r => (r, k + 1) | none => nextW l n (k + 1)
/-- The scalar that bytes begin by, and how many bytes it has. -/
def nextU (l : List UInt8) : Int × Nat := if l = [] then (-1, 0) else nextW l 4 0

theorem heads_any (w : World) : Calls Tryz.prog 124 #[] w fun e w' => e = .returned (.agg #[.int .i64 0, .int .i64 0, .int .i64 192, .int .i64 224, .int .i64 240]) ∧ Keep [] w w' := by
  go_enter Tryz.func124, Tryz.ntmps124
  go_wp2
  exact bodyPost_ret (v := .agg #[.int .i64 0, .int .i64 0, .int .i64 192, .int .i64 224, .int .i64 240]) (by simp [results, Tryz.results124, go_sem, Blk.cell (Blk.new' w _ _ rfl)]) rfl ⟨rfl, (Keep.refl _ _).alloc _⟩
theorem ofU_at (b o C : Nat) (l : List UInt8) (n h : Nat) (ni hi : Int) (w : World) (HB : Byts w b o l) (hl : 0 < l.length) (hC : l.length ≤ C) (hm : l.length ≤ 4096) (hn : 1 ≤ n ∧ n ≤ 4) (hh : h ≤ 240) (e1 : ni = n) (e2 : hi = h) :
    Calls Tryz.prog 123 #[.slice (some ⟨b, o, none⟩) l.length C, .int .i64 ni, .int .i64 hi] w (TryAt w (ofU l n h)) := by
  subst e1 e2
  exact ofU_any b o C l n h w HB hl hC hm hn hh
section
variable (b o C : Nat) (l : List UInt8) (w : World) (HB : Byts w b o l) (hl : 0 < l.length) (hC : l.length ≤ C) (hm : l.length ≤ 4096)
include HB hl hC hm
theorem one_way : Calls Tryz.prog 105 #[.slice (some ⟨b, o, none⟩) l.length C] w (TryAt w (tryU l 0)) := by
  have H := Lib.hid (ofU_at b o C l 1 0 1 0 w HB hl hC hm (by omega) (by omega) rfl rfl)
  go_enter Tryz.func105, Tryz.ntmps105
  go_wp2_with fail
  refine H.out.mono ?_
  rintro e w1 ⟨⟨r, ok, rfl, h⟩, K⟩
  have HH := Lib.hid h
  clear h H
  go_wp2
  go_ret2
  exact ⟨⟨r, ok, rfl, HH.out⟩, K⟩
set_option maxRecDepth 20000 in
theorem two_way : Calls Tryz.prog 106 #[.slice (some ⟨b, o, none⟩) l.length C] w (TryAt w (tryU l 1)) := by
  have hix : ∀ w, (Instr.index 153 (.agg #[.int .i64 0, .int .i64 0, .int .i64 192, .int .i64 224, .int .i64 240]) (.int .i64 2)).run Tryz.prog w = .ok (.int .i64 192) w := fun _ => by kernel_rfl
  go_enter Tryz.func106, Tryz.ntmps106
  go_wp2_with fail
  refine (heads_any _).mono ?_
  rintro e w1 ⟨rfl, K1⟩
  have H := Lib.hid (ofU_at b o C l 2 192 2 192 w1 (HB.keep K1 (by simp)) hl hC hm (by omega) (by omega) rfl rfl)
  go_wp2_with fail
  refine H.out.mono ?_
  rintro e w2 ⟨⟨r, ok, rfl, h⟩, K⟩
  have HH := Lib.hid h
  clear h H
  go_wp2
  go_ret2
  exact ⟨⟨r, ok, rfl, HH.out⟩, K1.trans K⟩
set_option maxRecDepth 20000 in
theorem three_way : Calls Tryz.prog 107 #[.slice (some ⟨b, o, none⟩) l.length C] w (TryAt w (tryU l 2)) := by
  have hix : ∀ w, (Instr.index 153 (.agg #[.int .i64 0, .int .i64 0, .int .i64 192, .int .i64 224, .int .i64 240]) (.int .i64 3)).run Tryz.prog w = .ok (.int .i64 224) w := fun _ => by kernel_rfl
  go_enter Tryz.func107, Tryz.ntmps107
  go_wp2_with fail
  refine (heads_any _).mono ?_
  rintro e w1 ⟨rfl, K1⟩
  have H := Lib.hid (ofU_at b o C l 3 224 3 224 w1 (HB.keep K1 (by simp)) hl hC hm (by omega) (by omega) rfl rfl)
  go_wp2_with fail
  refine H.out.mono ?_
  rintro e w2 ⟨⟨r, ok, rfl, h⟩, K⟩
  have HH := Lib.hid h
  clear h H
  go_wp2
  go_ret2
  exact ⟨⟨r, ok, rfl, HH.out⟩, K1.trans K⟩
set_option maxRecDepth 20000 in
theorem four_way : Calls Tryz.prog 108 #[.slice (some ⟨b, o, none⟩) l.length C] w (TryAt w (tryU l 3)) := by
  have hix : ∀ w, (Instr.index 153 (.agg #[.int .i64 0, .int .i64 0, .int .i64 192, .int .i64 224, .int .i64 240]) (.int .i64 4)).run Tryz.prog w = .ok (.int .i64 240) w := fun _ => by kernel_rfl
  go_enter Tryz.func108, Tryz.ntmps108
  go_wp2_with fail
  refine (heads_any _).mono ?_
  rintro e w1 ⟨rfl, K1⟩
  have H := Lib.hid (ofU_at b o C l 4 240 4 240 w1 (HB.keep K1 (by simp)) hl hC hm (by omega) (by omega) rfl rfl)
  go_wp2_with fail
  refine H.out.mono ?_
  rintro e w2 ⟨⟨r, ok, rfl, h⟩, K⟩
  have HH := Lib.hid h
  clear h H
  go_wp2
  go_ret2
  exact ⟨⟨r, ok, rfl, HH.out⟩, K1.trans K⟩
end
theorem nextW_step (l : List UInt8) (n k : Nat) : nextW l (n + 1) k = match tryU l k with | some r => (r, k + 1) | none => nextW l n (k + 1) := rfl
set_option maxRecDepth 20000 in
set_option maxHeartbeats 1000000 in
theorem nextU_any (b o C : Nat) (l : List UInt8) (w : World) (HB : Byts w b o l) (hC : l.length ≤ C) (hm : l.length ≤ 4096) :
    Calls Tryz.prog 90 #[.slice (some ⟨b, o, none⟩) l.length C, .int .i64 0] w fun e w' => e = .returned (.tuple #[.int .i64 (nextU l).1, .int .i64 (nextU l).2]) ∧ Keep [] w w' := by
  by_cases hl : l = []
  · subst hl
    go_enter Tryz.func90, Tryz.ntmps90
    go_wp2
    go_ret2
    exact ⟨rfl, Keep.refl _ _⟩
  have hl0 : 0 < l.length := List.length_pos_iff.2 hl
  have HN := Lib.hid (show nextU l = nextW l 4 0 by unfold nextU; rw [if_neg hl])
  generalize nextU l = goal at HN ⊢
  have hx0 : ∀ w, (Instr.index 133 (.agg #[.func (.func 105) #[] #[], .func (.func 106) #[] #[], .func (.func 107) #[] #[], .func (.func 108) #[] #[]]) (.int .i64 0)).run Tryz.prog w = .ok (.func (.func 105) #[] #[]) w := fun _ => by kernel_rfl
  have hx1 : ∀ w, (Instr.index 133 (.agg #[.func (.func 105) #[] #[], .func (.func 106) #[] #[], .func (.func 107) #[] #[], .func (.func 108) #[] #[]]) (.int .i64 1)).run Tryz.prog w = .ok (.func (.func 106) #[] #[]) w := fun _ => by kernel_rfl
  have hx2 : ∀ w, (Instr.index 133 (.agg #[.func (.func 105) #[] #[], .func (.func 106) #[] #[], .func (.func 107) #[] #[], .func (.func 108) #[] #[]]) (.int .i64 2)).run Tryz.prog w = .ok (.func (.func 107) #[] #[]) w := fun _ => by kernel_rfl
  have hx3 : ∀ w, (Instr.index 133 (.agg #[.func (.func 105) #[] #[], .func (.func 106) #[] #[], .func (.func 107) #[] #[], .func (.func 108) #[] #[]]) (.int .i64 3)).run Tryz.prog w = .ok (.func (.func 108) #[] #[]) w := fun _ => by kernel_rfl
  have HB' := Lib.hid HB
  clear HB
  go_enter Tryz.func90, Tryz.ntmps90
  go_wp2
  go_loopw [4, 5, 6, 7, 8, 9, 19] (fun _ _ _ _ _ _ k wr => ∃ k' : Nat, k = .int .i64 k' ∧ k' ≤ 4 ∧ Hid (goal = nextW l (4 - k') k') ∧ Keep [] w wr) (fun _ _ _ _ _ _ k _ => 4 - (intOf k).toNat)
  case atStart => exact ⟨0, rfl, by omega, HN, Keep.refl _ _⟩
  case round =>
    obtain ⟨k, rfl, hk, HR, K⟩ := hrel
    rcases (by omega : k = 0 ∨ k = 1 ∨ k = 2 ∨ k = 3 ∨ k = 4) with rfl | rfl | rfl | rfl | rfl
    case inr.inr.inr.inr =>
      go_wp2
      go_ret2
      exact ⟨by rw [HR.out]; rfl, K⟩
    case' inl => have HC := Lib.hid (one_way b o C l wr (HB'.out.keep K (by simp)) hl0 hC hm)
    case' inr.inl => have HC := Lib.hid (two_way b o C l wr (HB'.out.keep K (by simp)) hl0 hC hm)
    case' inr.inr.inl => have HC := Lib.hid (three_way b o C l wr (HB'.out.keep K (by simp)) hl0 hC hm)
    case' inr.inr.inr.inl => have HC := Lib.hid (four_way b o C l wr (HB'.out.keep K (by simp)) hl0 hC hm)
    all_goals
      rw [show (4 - _ : Nat) = _ + 1 from rfl, nextW_step] at HR
      have HK := Lib.hid K
      clear K
      go_wp2_with fail
      refine HC.out.mono ?_
      rintro e w1 ⟨⟨r, ok, rfl, h⟩, K⟩
      rw [h] at HR
      have HK1 := Lib.hid (HK.out.trans K)
      clear h K HC
      cases ok
      · go_wp2
        refine ⟨⟨_, rfl, by decide, ?_, HK1.out⟩, by simp [intOf]⟩
        exact HR
      · go_wp2
        go_ret2
        exact ⟨by rw [HR.out]; rfl, HK1.out⟩
end Go.Proofs.YtmfjddhckblbhaaGreatDoor
namespace Go.Proofs.YtmfjddhckblbhaaGreatDoor
open Go Go.RowKit
attribute [local go_sem] Oper.semAt_some

def oddS : ByteArray := { data := #[91, 93, 94, 45, 92] }
def oddR (r : Int) : Bool := r == 91 || r == 93 || r == 94 || r == 45 || r == 92
theorem odd_ascii (r : Int) (h0 : 0 ≤ r) (h1 : r < 128) : decide (0 ≤ Lib.indexByte oddS.data.toList r.toNat.toUInt8) = oddR r := by
  have h : ∀ n : Fin 128, decide (0 ≤ Lib.indexByte oddS.data.toList ((n.val : Int)).toNat.toUInt8) = oddR (n.val : Int) := by decide +kernel
  have := h ⟨r.toNat, by omega⟩
  rwa [show (((⟨r.toNat, by omega⟩ : Fin 128).val : Nat) : Int) = r by simp; omega] at this
theorem odd_high (s : ByteArray) (c : UInt8) (hs : ∀ b ∈ s.data.toList, b.toNat < 128) (hc : 128 ≤ c.toNat) : Lib.indexByte s.data.toList c = -1 := by
  revert hs
  generalize s.data.toList = l
  intro hs
  induction l with
  | nil => rfl
  | cons b l ih =>
    have hb : b ≠ c := fun h => by have := hs b (by simp); rw [h] at this; omega
    have ih := ih (fun b hb => hs b (by simp [hb]))
    simp [Lib.indexByte, hb, ih]
theorem valid_any (r : Int) (h0 : 128 ≤ r) (h1 : r ≤ 2147483647) (hv : Utf8.valid r = true) (w : World) : Calls Tryz.prog 109 #[.int .i32 r] w fun e w' => e = .returned (.bool true) ∧ w' = w := by
  rw [validRune_eq] at hv
  unfold validRune at hv
  have hv := of_decide_eq_true hv
  go_enter Tryz.func109, Tryz.ntmps109
  rcases hv with ⟨a1, a2⟩ | ⟨a1, a2⟩
  · go_wp2
    go_ret
    exact ⟨rfl, rfl⟩
  · have : ¬ r < 55296 := by omega
    go_wp2
    go_ret
    exact ⟨rfl, rfl⟩
theorem oddR_high {r : Int} (h : 128 ≤ r) : oddR r = false := by
  simp [oddR]; omega

set_option maxRecDepth 20000 in
set_option maxHeartbeats 1000000 in
theorem idx_odd (r : Int) (h0 : 0 ≤ r) (hv : Utf8.valid r = true) (w : World) :
    Calls Tryz.prog 92 #[.string { data := #[91, 93, 94, 45, 92] }, .int .i32 r] w fun e w' => (∃ j : Int, e = .returned (.int .i64 j) ∧ decide (0 ≤ j) = oddR r) ∧ Keep [] w w' := by
  by_cases h1 : r < 128
  · have H := Lib.hid (odd_ascii r h0 h1)
    have hw : IntKind.u8.wrap r = r := by unfold IntKind.wrap; simp [IntKind.bits, IntKind.signed]; omega
    go_enter Tryz.func92, Tryz.ntmps92
    go_wp2_with fail
    refine (Any.strings_IndexByte Tryz.lays137 oddS r _).mono ?_
    rintro e w' ⟨rfl, rfl⟩
    go_wp2
    go_ret
    exact ⟨⟨_, rfl, H.out⟩, Keep.refl _ _⟩
  · have H := Lib.hid (oddR_high (r := r) (by omega))
    by_cases h2 : r = 65533
    · subst h2
      go_enter Tryz.func92, Tryz.ntmps92
      go_wp2
      go_loopw [5, 6] (fun _ _ wr => ∃ k : Nat, k ≤ 5 ∧ wr = w.iter { data := #[91, 93, 94, 45, 92] } k) (fun _ _ wr => 5 - wr.iterPos w.heap.size)
      case atStart => exact ⟨0, by omega, rfl⟩
      case round =>
        obtain ⟨k, hk, rfl⟩ := hrel
        by_cases hp : k < 5
        · have hnx : ∀ ty, (Instr.next (.pointer (some ⟨w.heap.size, 0, none⟩)) true ty).run Tryz.prog (w.iter oddS k) = _ := fun ty => run_next_any w oddS k ty hp
          rcases (by omega : k = 0 ∨ k = 1 ∨ k = 2 ∨ k = 3 ∨ k = 4) with rfl | rfl | rfl | rfl | rfl
          case' inl => rw [show Utf8.decode oddS 0 = (91, 1) by decide +kernel] at hnx
          case' inr.inl => rw [show Utf8.decode oddS 1 = (93, 1) by decide +kernel] at hnx
          case' inr.inr.inl => rw [show Utf8.decode oddS 2 = (94, 1) by decide +kernel] at hnx
          case' inr.inr.inr.inl => rw [show Utf8.decode oddS 3 = (45, 1) by decide +kernel] at hnx
          case' inr.inr.inr.inr => rw [show Utf8.decode oddS 4 = (92, 1) by decide +kernel] at hnx
          all_goals
            unfold oddS at hnx
            go_wp2
            refine ⟨⟨_, ?_, rfl⟩, ?_⟩
            · decide
            · have h1 := World.iterPos_iter w oddS
              change ∀ k, World.iterPos _ w.heap.size = _ at h1
              erw [h1, h1]
              decide
        · obtain rfl : k = 5 := by omega
          have hnx : ∀ ty, (Instr.next (.pointer (some ⟨w.heap.size, 0, none⟩)) true ty).run Tryz.prog (w.iter oddS 5) = _ := fun ty => run_next_end w oddS 5 ty hp
          unfold oddS at hnx
          go_wp2
          go_ret
          exact ⟨⟨_, rfl, H.out.symm ▸ rfl⟩, (Keep.refl _ _).alloc _⟩
    · have hr : 128 ≤ r := by omega
      have hrm : r ≤ 1114111 := by
        rw [validRune_eq] at hv
        have := of_decide_eq_true hv
        omega
      have HV := Lib.hid (valid_any r hr (by omega) hv w)
      obtain ⟨e1, e2, e3⟩ := encode_facts r hv hr
      generalize hrs : Utf8.encode r = rs at e1 e2 e3
      have hx := e3 (by omega)
      generalize hc : rs[rs.size - 1]'(by omega) = c at hx
      have hcv : ∀ w, (Instr.index 9 (.string rs) (.int .i64 ((rs.size : Int) - 1))).run Tryz.prog w = .ok (.int .u8 (c.toNat : Int)) w := fun w => by
        have e : ((rs.size : Int) - 1).toNat = rs.size - 1 := by omega
        have hb : (0 : Int) ≤ (rs.size : Int) - 1 ∧ (rs.size : Int) - 1 < (rs.size : Int) := by omega
        rw [run_index_string _ _ _ _ _ Tryz.underlying9]
        simp only [hb, and_self, dite_true, e, hc]
      have hq : ∀ (k : Nat) (hk : k < oddS.size), (((oddS[k]'hk).toNat : Int) != (c.toNat : Int)) = true := by
        have ha : ∀ (k : Nat) (hk : k < oddS.size), (oddS[k]'hk).toNat < 128 := by decide +kernel
        intro k hk
        have := ha k hk
        simp
        omega
      have hq1 := hq 1 (by decide)
      have hq2 := hq 2 (by decide)
      have hq3 := hq 3 (by decide)
      unfold oddS at hq1 hq2 hq3
      have hcv2 : ∀ w, (convert 21 9 (.int .i32 r)).run Tryz.prog w = .ok (.string rs) w := fun w => by
        rw [run_convert_int_string w _ _ _ _ (by kernel_rfl) (by kernel_rfl), hrs]
      clear e3 hc hrs
      have HI : Hid (∀ (s : ByteArray) (w : World), (∀ b ∈ s.data.toList, b.toNat < 128) → Calls Tryz.prog 104 #[.string s, .int .u8 (c.toNat : Int)] w fun e w' => e = .returned (.int .i64 (-1)) ∧ w' = w) := Lib.hid (fun s w hs => (Any.strings_IndexByte Tryz.lays137 s c.toNat w).mono fun e w' ⟨h1, h2⟩ => ⟨by rw [h1]; simp [odd_high s c hs hx], h2⟩)
      clear hq
      go_enter Tryz.func92, Tryz.ntmps92
      go_wp2_with fail
      refine HV.out.mono ?_
      rintro e w' ⟨rfl, rfl⟩
      rcases (by omega : rs.size = 2 ∨ rs.size = 3 ∨ rs.size = 4) with hz | hz | hz
      all_goals
        go_wp2
        apply wp_scope_straight
        go_wp2
        go_loopw [4, 9, 10, 11, 12] (fun _ v9 _ _ _ wr => ∃ m : Int, v9 = .int .i64 m ∧ m = (rs.size : Int) - 1 ∧ wr = w') (fun _ _ _ _ _ _ => 0)
        case atStart => exact ⟨_, rfl, by omega, rfl⟩
        case round =>
          obtain ⟨m, rfl, hm, rfl⟩ := hrel
          rcases (by omega : m = 1 ∨ m = 2 ∨ m = 3) with rfl | rfl | rfl
          all_goals first
            | (exfalso; omega)
            | skip
          all_goals
            rw [← hm] at hcv
            clear hm
            go_wp2
            apply wp_scope_straight
            go_wp2
            go_quiet (fail)
            go_wp2
            go_quiet ((go_at_call 104; exact quiet2_same (HI.out _ _ (by decide +kernel))))
            go_wp2
            simp (config := { zetaDelta := true }) only [Exit.noGoto, Exit.inBlock, Exit.then]
            go_ret
            exact ⟨⟨-1, rfl, by rw [H.out]; rfl⟩, (Keep.refl _ _).drewN _⟩
theorem containsOdd_any (r : Int) (h0 : 0 ≤ r) (hv : Utf8.valid r = true) (w : World) :
    Calls Tryz.prog 71 #[.string { data := #[91, 93, 94, 45, 92] }, .int .i32 r] w fun e w' => e = .returned (.bool (oddR r)) ∧ Keep [] w w' := by
  have HI := Lib.hid (idx_odd r h0 hv w)
  generalize oddR r = q at HI ⊢
  go_enter Tryz.func71, Tryz.ntmps71
  go_wp2_with fail
  refine HI.out.mono ?_
  rintro e w' ⟨⟨j, rfl, hj⟩, K⟩
  have HJ := Lib.hid hj
  clear hj HI
  go_wp2
  go_ret
  exact ⟨by rw [← HJ.out]; rfl, K⟩
end Go.Proofs.YtmfjddhckblbhaaGreatDoor
