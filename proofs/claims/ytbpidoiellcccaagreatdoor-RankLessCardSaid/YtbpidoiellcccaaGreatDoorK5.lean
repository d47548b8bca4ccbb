/- The scanner reads numbers by sixteen. -/
import Derived.Test.YtbpidoiellcccaaGreatDoorK3
import Derived.Test.YtbpidoiellcccaaGreatDoorShelf
import Derived.Laws.BitsLemmas
set_option linter.unusedVariables false
set_option linter.unusedSimpArgs false
namespace Go.Proofs.YtbpidoiellcccaaGreatDoor
open Go Go.RowKit

/-- A digit by sixteen. -/
def hexVal (c : UInt8) : Option Nat := if 48 ≤ c.toNat ∧ c.toNat ≤ 57 then some (c.toNat - 48) else if 97 ≤ c.toNat ∧ c.toNat ≤ 102 then some (c.toNat - 87) else none
def digs : ByteArray := ⟨#[48, 49, 50, 51, 52, 53, 54, 55, 56, 57, 97, 98, 99, 100, 101, 102]⟩
/-- At most m digits from i on, behind the number n: the number, and how many they are. -/
def numR (s : ByteArray) : Nat → Nat → Nat → Nat × Nat
  | 0, _, n => (n, 0)
  | m + 1, i, n => match s.data[i]? with
    | none => (n, 0)
    | some c => match hexVal c with
      | none => (n, 0)
      | some d => ((numR s m (i + 1) (n * 16 + d)).1, (numR s m (i + 1) (n * 16 + d)).2 + 1)
theorem digitByte (s : ByteArray) (i : Nat) (h : i < s.size) : s.data[i]? = some (s[i]'h) := by
  rw [Array.getElem?_eq_getElem (show i < s.data.size from h)]; rfl
theorem digs_hex (c : UInt8) : Lib.indexByte digs.data.toList c = match hexVal c with | some d => (d : Int) | none => -1 := by
  have h : ∀ n : Fin 256, Lib.indexByte digs.data.toList (UInt8.ofNat n.val) = match hexVal (UInt8.ofNat n.val) with | some d => (d : Int) | none => -1 := by decide +kernel
  have h1 := h ⟨c.toNat, c.toNat_lt⟩
  simpa using h1
theorem numR_none {s : ByteArray} {m i n : Nat} (h : ¬ i < s.size) : numR s m i n = (n, 0) := by
  cases m with
  | zero => rfl
  | succ m => rw [numR, Array.getElem?_eq_none (show s.data.size ≤ i from Nat.le_of_not_lt h)]
theorem numR_stop {s : ByteArray} {m i n : Nat} (h : i < s.size) (hv : hexVal (s[i]'h) = none) : numR s m i n = (n, 0) := by
  cases m with
  | zero => rfl
  | succ m => rw [numR, digitByte s i h]; simp only [hv]
theorem numR_go {s : ByteArray} {m k i n d : Nat} (hk : k < m) (h : i < s.size) (hv : hexVal (s[i]'h) = some d) : numR s (m - k) i n = ((numR s (m - (k + 1)) (i + 1) (n * 16 + d)).1, (numR s (m - (k + 1)) (i + 1) (n * 16 + d)).2 + 1) := by
  rw [show m - k = (m - (k + 1)) + 1 by omega, numR, digitByte s i h]; simp only [hv]
theorem hexVal_lt {c : UInt8} {d : Nat} (h : hexVal c = some d) : d < 16 := by
  unfold hexVal at h
  split at h
  · simp only [Option.some.injEq] at h; omega
  · split at h
    · simp only [Option.some.injEq] at h; omega
    · cases h
theorem numR_snd_le (s : ByteArray) : ∀ m i n, (numR s m i n).2 ≤ m
  | 0, _, _ => Nat.le_refl _
  | m + 1, i, n => by
    unfold numR
    split
    · simp
    · split
      · simp
      · have := numR_snd_le s m (i + 1); simp; exact this _

theorem numR_size (s : ByteArray) : ∀ m i n, i ≤ s.size → i + (numR s m i n).2 ≤ s.size
  | 0, _, _, h => h
  | m + 1, i, n, h => by
    unfold numR
    split
    · exact h
    · rename_i c hc
      have hi : i < s.size := by
        by_cases h1 : i < s.size
        · exact h1
        · rw [Array.getElem?_eq_none (show s.data.size ≤ i from Nat.le_of_not_lt h1)] at hc; cases hc
      cases hv : hexVal c with
      | none => exact h
      | some d =>
        have := numR_size s m (i + 1) (n * 16 + d) hi
        show i + ((numR s m (i + 1) (n * 16 + d)).2 + 1) ≤ s.size
        omega
theorem numR_lt (s : ByteArray) : ∀ m i n, (numR s m i n).1 < (n + 1) * 16 ^ m
  | 0, _, n => by simp [numR]
  | m + 1, i, n => by
    have h16 : (n + 1) * 1 ≤ (n + 1) * 16 ^ (m + 1) := Nat.mul_le_mul_left _ (Nat.one_le_pow _ _ (by omega))
    unfold numR
    split
    · show n < _; omega
    · rename_i c _
      cases hv : hexVal c with
      | none => show n < _; omega
      | some d =>
        have h := numR_lt s m (i + 1) (n * 16 + d)
        have hd := hexVal_lt hv
        show (numR s m (i + 1) (n * 16 + d)).1 < _
        refine Nat.lt_of_lt_of_le h ?_
        rw [Nat.pow_succ, ← Nat.mul_assoc, Nat.mul_right_comm]
        exact Nat.mul_le_mul_right _ (by omega)
theorem or16 (n d : Nat) (hn : n < 1048576) (hd : d < 16) : bits .or .i64 ((n : Int) * 16) (d : Int) = ((n * 16 + d : Nat) : Int) := by
  rw [bits_join .i64 31 (by decide) (fun x h0 h1 => IntWalk.i64_in x (by omega)) 4 _ _ (by omega) (by omega) (by omega) (by omega) (by omega) (by omega)]
  simp

theorem ixb (c : Int) (c8 : UInt8) (hc : c = c8.toNat) (w : World) :
    Calls Tryz.prog 140 #[.string { data := #[48, 49, 50, 51, 52, 53, 54, 55, 56, 57, 97, 98, 99, 100, 101, 102] }, .int .u8 c] w fun e w' =>
      e = .returned (.int .i64 (match hexVal c8 with | some d => (d : Int) | none => -1)) ∧ w' = w := by
  refine (Any.strings_IndexByte Tryz.lays137 digs c w).mono ?_
  rintro e w' ⟨rfl, rfl⟩
  refine ⟨?_, rfl⟩
  rw [← digs_hex, hc]
  simp

set_option maxHeartbeats 1000000 in
theorem number_any (b : Nat) (s : ByteArray) (i : Nat) (m : Nat) (mi : Int) (w : World) (H : Scan w b s i) (hm : s.size ≤ 4096) (hi : i ≤ s.size) (h6 : m ≤ 6) (hmi : mi = m) :
    Calls Tryz.prog 131 #[.pointer (some ⟨b, 0, none⟩), .int .i64 mi] w fun e w' =>
      e = .returned (.tuple #[.int .i64 (numR s m i 0).1, .int .i64 (numR s m i 0).2]) ∧ Scan w' b s (i + (numR s m i 0).2) ∧ Keep [b] w w' := by
  subst hmi
  go_enter Tryz.func131, Tryz.ntmps131
  go_wp2
  go_loopw [4, 5, 6, 7, 8, 10] (fun _ _ n _ _ k wr => ∃ (k' n' : Nat), k = .int .i64 k' ∧ k' ≤ m ∧ n = .int .i64 n' ∧ n' < 16 ^ k' ∧ i + k' ≤ s.size ∧ Scan wr b s (i + k') ∧ Keep [b] w wr ∧ Hid ((numR s m i 0).1 = (numR s (m - k') (i + k') n').1 ∧ (numR s m i 0).2 = (numR s (m - k') (i + k') n').2 + k')) (fun _ _ _ _ _ k _ => m - (intOf k).toNat)
  case atStart => exact ⟨0, 0, rfl, by omega, rfl, by simp, hi, H, Keep.refl _ _, by simp [Hid]⟩
  case round =>
    obtain ⟨k, n, rfl, hk, rfl, hn, hik, Hr, Kr, HR⟩ := hrel
    have h0 : wr.cell? ⟨b, 0, none⟩ = some (.string s) := Hr.cell 0
    have h1 : wr.cell? ⟨b, 1, none⟩ = some (.int .i64 ↑(i + k)) := Hr.cell 1
    have f1 : wr.frozen? ⟨b, 1, none⟩ = false := Hr.frozen 1
    by_cases hlt : k < m
    · by_cases hend : i + k = s.size
      · have hd : ((i : Int) + (k : Int) == (s.size : Int)) = true := by rw [← hend]; simp
        have hr : (numR s m i 0).1 = n ∧ (numR s m i 0).2 = k := by
          have h := HR.out
          rw [numR_none (s := s) (m := m - k) (i := i + k) (n := n) (by omega)] at h
          simpa using h
        have HR' := Lib.hid hr; clear hr
        clear hend
        go_wp2
        go_quiet (fail)
        go_wp2
        go_ret2
        refine ⟨?_, ?_, Kr.drewN _⟩
        · rw [HR'.out.1, HR'.out.2]; rfl
        · rw [HR'.out.2]; exact Hr.drewN _
      · have hd : ((i : Int) + (k : Int) == (s.size : Int)) = false := by simp; omega
        have hi' : i + k < s.size := by omega
        have hx1 : (0 : Int) ≤ (i : Int) + k := by omega
        have hx2 : (i : Int) + k < (s.size : Int) := by omega
        have hx3 : ((i : Int) + k).toNat = i + k := by omega
        cases hv : hexVal (s[i + k]'hi') with
        | none =>
          have hr : (numR s m i 0).1 = n ∧ (numR s m i 0).2 = k := by
            have h := HR.out
            rw [numR_stop (s := s) (m := m - k) (i := i + k) (n := n) hi' hv] at h
            simpa using h
          have HR' := Lib.hid hr; clear hr
          have HV := Lib.hid hv; clear hv
          go_wp2
          go_quiet (fail)
          go_wp2
          go_quiet ((go_at_call 140; exact quiet2_same (ixb _ (s[i + k]'hi') rfl _)))
          rw [HV.out]
          go_wp2
          go_ret2
          refine ⟨?_, ?_, Kr.drewN _⟩
          · rw [HR'.out.1, HR'.out.2]; rfl
          · rw [HR'.out.2]; exact Hr.drewN _
        | some d =>
          have hd16 := hexVal_lt hv
          have hr := HR.out
          rw [numR_go (s := s) (m := m) (k := k) (i := i + k) (n := n) hlt hi' hv] at hr
          have HR' := Lib.hid hr; clear hr
          have HV := Lib.hid hv; clear hv
          have hp : n < 1048576 := Nat.lt_of_lt_of_le hn (Nat.pow_le_pow_right (by omega) (show k ≤ 5 by omega))
          go_wp2
          go_quiet (fail)
          go_wp2
          go_quiet ((go_at_call 140; exact quiet2_same (ixb _ (s[i + k]'hi') rfl _)))
          rw [HV.out]
          go_wp2
          rw [or16 n d hp hd16]
          refine ⟨⟨k + 1, n * 16 + d, by go_num, by omega, rfl, ?_, by omega, ?_, (Kr.drewN _).setCell (by simp) _, ?_⟩, by simp [intOf]; omega⟩
          · rw [Nat.pow_succ]; omega
          · exact Scan.move (Blk.drewN Hr _) _ (by omega)
          · have h := HR'.out
            refine ⟨h.1, h.2.trans (by rw [show i + (k + 1) = i + k + 1 from rfl]; omega)⟩
    · obtain rfl : k = m := by omega
      have hr := HR.out
      simp only [Nat.sub_self, numR, Nat.zero_add] at hr
      have HR' := Lib.hid hr; clear hr
      go_wp2
      go_ret2
      refine ⟨?_, ?_, Kr⟩
      · rw [HR'.out.1, HR'.out.2]; rfl
      · rw [HR'.out.2]; exact Hr

/-- Two digits. -/
def hexR (s : ByteArray) (i : Nat) : Option Nat := if (numR s 2 i 0).2 = 2 then some (numR s 2 i 0).1 else none
set_option maxHeartbeats 1000000 in
theorem hex_any (b : Nat) (s : ByteArray) (i : Nat) (w : World) (H : Scan w b s i) (hm : s.size ≤ 4096) (hi : i ≤ s.size) :
    Calls Tryz.prog 117 #[.pointer (some ⟨b, 0, none⟩)] w fun e w' =>
      e = .returned (.tuple #[.int .i64 (numR s 2 i 0).1, .bool ((numR s 2 i 0).2 == 2)]) ∧ Scan w' b s (i + (numR s 2 i 0).2) ∧ Keep [b] w w' := by
  generalize hp : numR s 2 i 0 = p
  obtain ⟨v, c⟩ := p
  have hc : (c == 2) = ((c : Int) == 2) := by rw [Bool.eq_iff_iff]; simp; omega
  have HC := Lib.hid hc; clear hc
  have HP := Lib.hid hp; clear hp
  go_enter Tryz.func117, Tryz.ntmps117
  go_wp2_with fail
  refine (number_any b s i 2 2 _ H hm hi (by omega) rfl).mono ?_
  rw [HP.out]
  rintro e w1 ⟨rfl, H1, K1⟩
  go_wp2
  go_ret2
  exact ⟨by rw [HC.out]; rfl, H1, K1⟩
end Go.Proofs.YtbpidoiellcccaaGreatDoor
