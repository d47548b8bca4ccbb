/- The scanner reads bytes in quotes. -/
import Derived.Test.YtmfjddhckblbhaaGreatDoorM4
import Derived.Test.YtmfjddhckblbhaaGreatDoorM1
import Derived.Laws.BytesString
import Derived.Lib.ConvBytes
import Derived.OwnWalk
import Derived.Maps.AppendAt
set_option linter.unusedVariables false
set_option linter.unusedSimpArgs false
namespace Go.Proofs.YtmfjddhckblbhaaGreatDoor
open Go Go.RowKit

/-- From i on, behind bytes that are read: the bytes up to the quote, and the place behind it. -/
def litR (s : ByteArray) : Nat → Nat → List UInt8 → Option (List UInt8 × Nat)
  | 0, _, _ => none
  | n + 1, i, acc => match s.data[i]? with
    | none => none
    | some c =>
      if c.toNat = 34 then some (acc, i + 1)
      else if c.toNat = 92 then
        (if isB s (i + 1) 120 then (match hexR s (i + 2) with | some v => litR s n (i + 4) (acc ++ [v.toUInt8]) | none => none) else none)
      else if c.toNat < 32 ∨ 126 < c.toNat then none
      else litR s n (i + 1) (acc ++ [c])
theorem litR_end {s : ByteArray} {n i : Nat} {acc : List UInt8} (h : ¬ i < s.size) : litR s n i acc = none := by
  cases n with
  | zero => rfl
  | succ n => rw [litR, Array.getElem?_eq_none (show s.data.size ≤ i from Nat.le_of_not_lt h)]
theorem litR_quote {s : ByteArray} {n i : Nat} {acc : List UInt8} (hn : 0 < n) (h : i < s.size) (hc : (s[i]'h).toNat = 34) : litR s n i acc = some (acc, i + 1) := by
  obtain ⟨m, rfl⟩ : ∃ m, n = m + 1 := ⟨n - 1, by omega⟩
  rw [litR, digitByte s i h]; simp only [hc, if_true]
theorem litR_back {s : ByteArray} {n i : Nat} {acc : List UInt8} (hn : 0 < n) (h : i < s.size) (hc : (s[i]'h).toNat = 92) : litR s n i acc =
    if isB s (i + 1) 120 then (match hexR s (i + 2) with | some v => litR s (n - 1) (i + 4) (acc ++ [v.toUInt8]) | none => none) else none := by
  obtain ⟨m, rfl⟩ : ∃ m, n = m + 1 := ⟨n - 1, by omega⟩
  rw [litR, digitByte s i h]; simp [hc]
theorem litR_odd {s : ByteArray} {n i : Nat} {acc : List UInt8} (h : i < s.size) (h1 : (s[i]'h).toNat ≠ 34) (h2 : (s[i]'h).toNat ≠ 92) (hc : (s[i]'h).toNat < 32 ∨ 126 < (s[i]'h).toNat) : litR s n i acc = none := by
  cases n with
  | zero => rfl
  | succ n => rw [litR, digitByte s i h]; simp [h1, h2, hc]
theorem litR_go {s : ByteArray} {n i : Nat} {acc : List UInt8} (hn : 0 < n) (h : i < s.size) (h1 : (s[i]'h).toNat ≠ 34) (h2 : (s[i]'h).toNat ≠ 92) (hc : ¬ ((s[i]'h).toNat < 32 ∨ 126 < (s[i]'h).toNat)) :
    litR s n i acc = litR s (n - 1) (i + 1) (acc ++ [s[i]'h]) := by
  obtain ⟨m, rfl⟩ : ∃ m, n = m + 1 := ⟨n - 1, by omega⟩
  rw [litR, digitByte s i h]; simp [h1, h2, hc]

/-- What one of the scanner's ways hands back. -/
def WayPost (b : Nat) (s : ByteArray) (w : World) (r : Option (Int × ByteArray × List Rng × Nat)) (e : Ending) (w' : World) : Prop :=
  Keep [b] w w' ∧ match r with
    | some (k, t, rs, j) => ∃ v, e = .returned (.tuple #[tokV k t v 0, .bool true]) ∧ (∀ S : List Nat, (∀ x ∈ S, x < w.heap.size) → Rngs S w' v rs) ∧ Scan w' b s j
    | none => ∃ k t A n C j, e = .returned (.tuple #[tokV k t (.slice A n C) 0, .bool false]) ∧ Scan w' b s j

/-- The token of bytes in quotes. -/
def litTok : Option (List UInt8 × Nat) → Option (Int × ByteArray × List Rng × Nat)
  | some (l, j) => if 0 < l.length then some (1, ⟨l.toArray⟩, [], j) else none
  | none => none
theorem info_u8 : (Tryz.prog.info? 5).map (fun i => (i.zero, i.size, i.bytes)) = some (some (.int .u8 0), 1, 1) := by kernel_rfl

def u8s (l : List UInt8) : List Value := l.map fun x => .int .u8 x.toNat
/-- What the walk of lit knows at the head of a round. -/
def LitAt (b B : Nat) (s : ByteArray) (w : World) (goal : Option (List UInt8 × Nat)) (v : Value) (wr : World) : Prop :=
  ∃ (k : Nat) (acc : List UInt8) (n : Nat), s.size < n + k ∧ k ≤ s.size ∧ acc.length ≤ k ∧ Scan wr b s k ∧ wr.ownsRow (B + 1) 5 1 v acc.length (u8s acc) ∧ Blk wr B #[.int .i64 0, .string { data := #[] }, .slice none 0 0, .int .i64 0] 24 ∧
    Keep [b] w wr ∧ litR s n k acc = goal

theorem cell_one_at (W : World) (x : Value) (T : TypeId) {b : Nat} (h : W.heap.size = b) : ∀ (j : Nat) (u : Value), [x][j]? = some u → (W.alloc (.cells #[x] T)).cell? ((⟨b, 0, none⟩ : Addr).add j) = some u := by
  subst h
  exact cell_one_new W x T
theorem foldl_push (l : List UInt8) : ∀ (r : ByteArray), (l.map fun x => ((x.toNat : Nat) : Int)).foldl (fun r n => r.push (UInt8.ofNat n.toNat)) r = ⟨r.data ++ l.toArray⟩ := by
  induction l with
  | nil => intro r; simp
  | cons x l ih =>
    intro r
    simp only [List.map_cons, List.foldl_cons, ih]
    simp [ByteArray.push]
/-- Bytes of the call's own, as a string. -/
theorem run_bytes_own {w : World} {base : Nat} {v : Value} {l : List UInt8} (h : w.ownsRow base 5 1 v l.length (u8s l)) :
    (Go.convert 37 9 v).run Tryz.prog w = .ok (.string ⟨l.toArray⟩) w := by
  rcases h.2 with ⟨rfl, h0⟩ | ⟨g, cap, cur, rfl, hb, hgg, rest⟩
  · have hl : l = [] := List.eq_nil_of_length_eq_zero h0
    subst hl
    rw [run_convert_bytes_string w _ _ 5 _ _ _ Tryz.underlying37 Tryz.underlying5 Tryz.underlying9]
    rfl
  · rw [run_convert_bytes_string w _ _ 5 _ _ _ Tryz.underlying37 Tryz.underlying5 Tryz.underlying9]
    rw [run_bytesToString w _ _ _ (l.map fun x => ((x.toNat : Nat) : Int))]
    · rw [foldl_push]; simp
    · have hc := h.cells (g := g) rfl
      have := run_loadCells_list (P := Tryz.prog) (w := w) ⟨g, 0, none⟩ (u8s l) hc
      rw [show (u8s l).length = l.length by simp [u8s]] at this
      rw [this]
      simp [u8s, Function.comp_def]

set_option maxRecDepth 100000 in
set_option maxHeartbeats 2000000 in
theorem lit_any (b : Nat) (s : ByteArray) (i : Nat) (w : World) (H : Scan w b s i) (hm : s.size ≤ 4096) (hi : i < s.size) (r : Option (List UInt8 × Nat)) (hr : litR s (s.size + 1) (i + 1) [] = r) :
    Calls Tryz.prog 37 #[.pointer (some ⟨b, 0, none⟩)] w
      (WayPost b s w (litTok r)) := by
  have hlt := H.lt
  have h0 : w.cell? ⟨b, 0, none⟩ = some (.string s) := H.cell 0
  have h1 : w.cell? ⟨b, 1, none⟩ = some (.int .i64 i) := H.cell 1
  have f1 : w.frozen? ⟨b, 1, none⟩ = false := H.frozen 1
  have HB : Scan ((w.setCell ⟨b, 1, none⟩ (.int .i64 (↑i + 1))).alloc (.cells #[.int .i64 0, .string { data := #[] }, .slice none 0 0, .int .i64 0] 24)) b s (i + 1) := (H.move (i + 1) (by omega)).alloc _
  have B1 := Blk.new (w.setCell ⟨b, 1, none⟩ (.int .i64 (↑i + 1))) #[.int .i64 0, .string { data := #[] }, .slice none 0 0, .int .i64 0] 24
  have hsz : (w.setCell ⟨b, 1, none⟩ (.int .i64 (↑i + 1))).heap.size = w.heap.size := by simp [World.setCell]
  rw [hsz] at B1
  have K0 : Keep [b] w ((w.setCell ⟨b, 1, none⟩ (.int .i64 (↑i + 1))).alloc (.cells #[.int .i64 0, .string { data := #[] }, .slice none 0 0, .int .i64 0] 24)) := ((Keep.refl _ _).setCell (by simp) _).alloc _
  have HR := Lib.hid hr; clear hr
  go_enter Tryz.func37, Tryz.ntmps37
  go_wp2
  go_loopw [4, 5, 6, 7] (fun v _ _ _ wr => LitAt b w.heap.size s w r v wr) (fun _ _ _ _ wr => s.size - (intOf ((wr.cell? ⟨b, 1, none⟩).getD undef)).toNat)
  case atStart => exact ⟨i + 1, [], s.size + 1, by omega, by omega, by simp, HB, World.ownsRow_nil _ _ _ _, B1, K0, HR.out⟩
  case round =>
    clear HB B1 K0 hsz h0 h1 f1 HR
    obtain ⟨k, acc, n, hn, hk, ha, Hr, Hown, HB, Kr, hr⟩ := hrel
    have HR := Lib.hid hr; clear hr
    have h0 : wr.cell? ⟨b, 0, none⟩ = some (.string s) := Hr.cell 0
    have h1 : wr.cell? ⟨b, 1, none⟩ = some (.int .i64 k) := Hr.cell 1
    have HM := Lib.hid h1; clear h1
    go_wp2_with fail
    refine (is_any b s k 34 _ Hr hm).mono ?_
    rintro e w1 ⟨rfl, H1, K1⟩
    cases hq : isB s k 34
    · rw [hq] at H1
      simp only [Bool.false_eq_true, if_false] at H1
      have h0 : w1.cell? ⟨b, 0, none⟩ = some (.string s) := H1.cell 0
      have h1 : w1.cell? ⟨b, 1, none⟩ = some (.int .i64 k) := H1.cell 1
      have f1 : w1.frozen? ⟨b, 1, none⟩ = false := H1.frozen 1
      have O1 := own_keep Hown K1 (by simp; omega)
      have B1 := HB.keep K1 (by simp; omega)
      have K2 := Kr.trans K1
      clear HB Kr Hown K1 Hr
      by_cases hks : k < s.size
      · have hc34 : (s[k]'hks).toNat ≠ 34 := by
          unfold isB at hq
          simp only [hks, dite_true, beq_eq_false_iff_ne] at hq
          omega
        have hd : ((k : Int) == (s.size : Int)) = false := by simp; omega
        have hu8 : (s[k]'hks).toNat < 256 := (s[k]'hks).toNat_lt
        have KK : ∀ n, Keep [b] w1 ((w1.drewN n).setCell ⟨b, 1, none⟩ (.int .i64 ((k : Int) + 1))) := fun n => ((Keep.refl _ _).drewN n).setCell (by simp) _
        have HH : ∀ n, Scan ((w1.drewN n).setCell ⟨b, 1, none⟩ (.int .i64 ((k : Int) + 1))) b s (k + 1) := fun n => Scan.move (Blk.drewN H1 n) (k + 1) (by omega)
        have KK' := Lib.hid KK; clear KK
        have HH' := Lib.hid HH; clear HH
        by_cases h92 : (s[k]'hks).toNat = 92
        · have hr := HR.out
          rw [litR_back (by omega) hks h92] at hr
          have Hr' := Lib.hid hr; clear hr HR
          have hb : (((s[k]'hks).toNat : Int) == 92) = true := by simp; omega
          generalize hs : s[k]'hks = c at *
          clear hc34 h92 hu8
          go_wp2
          go_quiet (fail)
          go_wp2
          go_quiet (fail)
          go_wp2_with fail
          refine (is_any b s (k + 1) 120 _ (HH'.out _) hm).mono ?_
          rintro e w3 ⟨rfl, H3, K3⟩
          have K4 := (KK'.out _).trans K3
          have O3 := own_keep O1 K4 (by simp; omega)
          have B3 := B1.keep K4 (by simp; omega)
          have K5 := K2.trans K4
          clear K3 K4 HH' KK' h0 h1 f1 hs hb hd
          cases hx : isB s (k + 1) 120
          · rw [hx] at H3
            simp only [Bool.false_eq_true, if_false] at H3
            have hr := Hr'.out
            rw [hx] at hr
            simp only [Bool.false_eq_true, if_false] at hr
            have HRR := Lib.hid hr; clear hr Hr'
            have cB := B3.cell
            have fB := B3.frozen
            go_wp2
            refine bodyPost_ret (v := .tuple #[tokV 0 { data := #[] } noSl 0, .bool false]) (by simp [results, Tryz.results37, go_sem, tokV, noSl, cB]) rfl ⟨K5.set4 (b := w.heap.size) (by simp) (.int .i64 0) (.string { data := #[] }) (.slice none 0 0) (.int .i64 0), ?_⟩
            rw [← HRR.out]
            exact ⟨0, _, none, 0, 0, _, rfl, Blk.other4 H3 (show b ≠ w.heap.size by omega) (.int .i64 0) (.string { data := #[] }) (.slice none 0 0) (.int .i64 0)⟩
          · rw [hx] at H3
            simp only [if_true] at H3
            have hr := Hr'.out
            rw [hx] at hr
            simp only [if_true] at hr
            have HRR := Lib.hid hr; clear hr Hr'
            have hk2 : k + 2 ≤ s.size := by
              unfold isB at hx
              by_cases h : k + 1 < s.size
              · omega
              · simp [h] at hx
            go_wp2_with fail
            refine (hex_any b s (k + 2) _ H3 hm hk2).mono ?_
            rintro e w4 ⟨rfl, H4, K6⟩
            have O4 := own_keep O3 K6 (by simp; omega)
            have B4 := B3.keep K6 (by simp; omega)
            have K7 := K5.trans K6
            have hle := numR_snd_le s 2 (k + 2) 0
            have hsz2 := numR_size s 2 (k + 2) 0 hk2
            have hlt2 := numR_lt s 2 (k + 2) 0
            unfold hexR at HRR
            generalize numR s 2 (k + 2) 0 = p at *
            obtain ⟨hv, hcn⟩ := p
            by_cases h2 : hcn = 2
            · subst h2
              have hb : ((2 : Nat) == 2) = true := rfl
              have hr := HRR.out
              simp only [if_true] at hr
              have HR2 := Lib.hid hr; clear hr HRR
              have hv256 : hv < 256 := by simpa using hlt2
              clear hlt2 hle
              have hsz3 : k + 4 ≤ s.size := hsz2
              clear hsz2
              have hlt4 := B4.lt
              obtain ⟨i0, hi0, hz0, hz1, hz2⟩ := info_parts info_u8
              go_wp2_with (at_builtin; refine wpList_append_own _ rfl _ _ 37 rfl (w.heap.size + 1) 5 i0 (.int .u8 0) 1 1 Tryz.underlying37 hi0 hz0 hz1 hz2 rfl (by decide) _ acc.length _ rfl (O4.alloc _) ⟨w4.heap.size, 0, none⟩ 1 1 [.int .u8 hv] rfl rfl (cell_one_new _ _ _) (by simp [Value.oneCell']) (by unfold maxLen; omega) (by omega) (by simp; omega) ?_; intro v' w5 O5 G5 N5)
              have H5 : Scan w5 b s (k + 4) := Blk.grown (Blk.alloc H4 _) G5 (own_ne O4 (by omega))
              have B5 := Blk.grown (Blk.alloc B4 _) G5 (own_ne O4 (by omega))
              have K8 := (K7.alloc (.cells #[.int .u8 hv] 5)).grown G5 (fun j e => .inr (by have := (O4.lt j e).1; omega))
              refine ⟨⟨k + 4, acc ++ [hv.toUInt8], n - 1, by omega, by omega, by simp; omega, H5, ?_, B5, K8, ?_⟩, ?_⟩
              · have e1 : (acc ++ [hv.toUInt8]).length = acc.length + 1 := by simp
                have e2 : u8s (acc ++ [hv.toUInt8]) = u8s acc ++ [.int .u8 hv] := by simp [u8s]; omega
                rw [e1, e2]; exact O5
              · exact HR2.out
              · rw [HM.out, H5.cell 1]
                simp [intOf]
                omega
            · have hb : (hcn == 2) = false := by simpa using h2
              have hr := HRR.out
              simp only [h2, if_false] at hr
              have HR2 := Lib.hid hr; clear hr HRR
              have cB := B4.cell
              have fB := B4.frozen
              go_wp2
              refine bodyPost_ret (v := .tuple #[tokV 0 { data := #[] } noSl 0, .bool false]) (by simp [results, Tryz.results37, go_sem, tokV, noSl, cB]) rfl ⟨K7.set4 (b := w.heap.size) (by simp) (.int .i64 0) (.string { data := #[] }) (.slice none 0 0) (.int .i64 0), ?_⟩
              rw [← HR2.out]
              exact ⟨0, _, none, 0, 0, _, rfl, Blk.other4 H4 (show b ≠ w.heap.size by omega) (.int .i64 0) (.string { data := #[] }) (.slice none 0 0) (.int .i64 0)⟩
        · by_cases hodd : (s[k]'hks).toNat < 32 ∨ 126 < (s[k]'hks).toNat
          · have hr := HR.out
            rw [litR_odd hks hc34 h92 hodd] at hr
            have Hr' := Lib.hid hr; clear hr HR
            have hb : (((s[k]'hks).toNat : Int) == 92) = false := by simp; omega
            generalize hs : s[k]'hks = c at *
            have B3 : ∀ n, Blk ((w1.drewN n).setCell ⟨b, 1, none⟩ (.int .i64 ((k : Int) + 1))) w.heap.size #[.int .i64 0, .string { data := #[] }, .slice none 0 0, .int .i64 0] 24 := fun n => B1.keep (KK'.out n) (by simp; omega)
            have cB := fun n => (B3 n).cell
            have fB := fun n => (B3 n).frozen
            have fin : ∀ n, WayPost b s w (litTok r) (.returned (.tuple #[tokV 0 { data := #[] } noSl 0, .bool false])) (set4 ((w1.drewN n).setCell ⟨b, 1, none⟩ (.int .i64 ((k : Int) + 1))) w.heap.size (.int .i64 0) (.string { data := #[] }) (.slice none 0 0) (.int .i64 0)) := fun n => by
              refine ⟨(K2.trans (KK'.out n)).set4 (by simp) _ _ _ _, ?_⟩
              rw [← Hr'.out]
              exact ⟨0, _, none, 0, 0, _, rfl, Blk.other4 (HH'.out n) (by omega) _ _ _ _⟩
            have FIN := Lib.hid fin; clear fin B3
            rcases hodd with h32 | h126
            · have hb1 : ((c.toNat : Int) < 32) := by omega
              clear hc34 h92
              go_wp2
              go_quiet (fail)
              go_wp2
              go_quiet (fail)
              go_wp2
              exact bodyPost_ret (v := .tuple #[tokV 0 { data := #[] } noSl 0, .bool false]) (by simp [results, Tryz.results37, go_sem, tokV, noSl, cB]) rfl (FIN.out _)
            · have hb1 : ¬ ((c.toNat : Int) < 32) := by omega
              have hb2 : (126 : Int) < (c.toNat : Int) := by omega
              clear hc34 h92
              go_wp2
              go_quiet (fail)
              go_wp2
              go_quiet (fail)
              go_wp2
              exact bodyPost_ret (v := .tuple #[tokV 0 { data := #[] } noSl 0, .bool false]) (by simp [results, Tryz.results37, go_sem, tokV, noSl, cB]) rfl (FIN.out _)
          · have hr := HR.out
            rw [litR_go (by omega) hks hc34 h92 hodd] at hr
            have Hr' := Lib.hid hr; clear hr HR
            have hb : (((s[k]'hks).toNat : Int) == 92) = false := by simp; omega
            have hb1 : ¬ (((s[k]'hks).toNat : Int) < 32) := by omega
            have hb2 : ¬ ((126 : Int) < ((s[k]'hks).toNat : Int)) := by omega
            generalize hs : s[k]'hks = c at *
            have O3 : ∀ n, ((w1.drewN n).setCell ⟨b, 1, none⟩ (.int .i64 ((k : Int) + 1))).ownsRow (w.heap.size + 1) 5 1 u4 acc.length (u8s acc) := fun n => own_keep O1 (KK'.out n) (by simp; omega)
            have O3' := Lib.hid O3; clear O3
            have hlt1 := B1.lt
            obtain ⟨i0, hi0, hz0, hz1, hz2⟩ := info_parts info_u8
            clear hc34 h92 hodd
            go_wp2
            go_quiet (fail)
            go_wp2
            go_quiet (fail)
            go_wp2_with (at_builtin; refine wpList_append_own _ rfl _ _ 37 rfl (w.heap.size + 1) 5 i0 (.int .u8 0) 1 1 Tryz.underlying37 hi0 hz0 hz1 hz2 rfl (by decide) _ acc.length _ rfl ((O3'.out _).alloc _) ⟨w1.heap.size, 0, none⟩ 1 1 [.int .u8 c.toNat] rfl rfl (cell_one_at _ _ _ (by simp [World.setCell])) (by simp [Value.oneCell']) (by unfold maxLen; omega) (by omega) (by simp [World.setCell]; omega) ?_; intro v' w5 O5 G5 N5)
            have H5 : Scan w5 b s (k + 1) := Blk.grown (Blk.alloc (HH'.out _) _) G5 (own_ne O1 (by omega))
            have B5 := Blk.grown (Blk.alloc (B1.keep (KK'.out _) (by simp; omega)) _) G5 (own_ne O1 (by omega))
            have K8 := ((K2.trans (KK'.out _)).alloc (.cells #[.int .u8 c.toNat] 5)).grown G5 (fun j e => .inr (by have := (O1.lt j e).1; omega))
            refine ⟨⟨k + 1, acc ++ [c], n - 1, by omega, by omega, by simp; omega, H5, ?_, B5, K8, Hr'.out⟩, ?_⟩
            · have e1 : (acc ++ [c]).length = acc.length + 1 := by simp
              have e2 : u8s (acc ++ [c]) = u8s acc ++ [.int .u8 c.toNat] := by simp [u8s]
              rw [e1, e2]; exact O5
            · rw [HM.out, H5.cell 1]
              simp [intOf]
              omega
      · have hd : ((k : Int) == (s.size : Int)) = true := by simp; omega
        have hr := HR.out
        rw [litR_end hks] at hr
        have Hr' := Lib.hid hr; clear hr HR
        have cB := B1.cell
        have fB := B1.frozen
        go_wp2
        go_quiet (fail)
        go_wp2
        have K3 := (K2.drewN nq).set4 (b := w.heap.size) (by simp) (.int .i64 0) (.string { data := #[] }) (.slice none 0 0) (.int .i64 0)
        have H3 := Blk.other4 (H1.drewN nq) (show b ≠ w.heap.size by omega) (.int .i64 0) (.string { data := #[] }) (.slice none 0 0) (.int .i64 0)
        refine bodyPost_ret (v := .tuple #[tokV 0 { data := #[] } noSl 0, .bool false]) (by simp [results, Tryz.results37, go_sem, tokV, noSl, cB]) rfl ⟨K3, ?_⟩
        rw [← Hr'.out]
        exact ⟨0, _, none, 0, 0, _, rfl, H3⟩
    · rw [hq] at H1
      simp only [if_true] at H1
      have hks : k < s.size := by
        unfold isB at hq
        by_cases h : k < s.size
        · exact h
        · simp [h] at hq
      have hc34 : (s[k]'hks).toNat = 34 := by
        unfold isB at hq
        simp only [hks, dite_true, beq_iff_eq] at hq
        omega
      have hr := HR.out
      rw [litR_quote (by omega) hks hc34] at hr
      have Hr' := Lib.hid hr; clear hr HR
      have O1 := own_keep Hown K1 (by simp; omega)
      have B1 := HB.keep K1 (by simp; omega)
      have K2 := Kr.trans K1
      have hcv := run_bytes_own O1
      obtain ⟨A, C, hu⟩ : ∃ A C, u4 = .slice A acc.length C := by
        rcases O1.2 with ⟨h, h0⟩ | ⟨g, cap, cur, h, _⟩
        · exact ⟨none, 0, by rw [h, h0]⟩
        · exact ⟨_, _, h⟩
      subst hu
      have cB := B1.cell
      have fB := B1.frozen
      go_wp2
      have K3 : Keep [b] w (set4 w1 w.heap.size (.int .i64 1) (.string ⟨acc.toArray⟩) (.slice none 0 0) (.int .i64 0)) := K2.set4 (by simp) _ _ _ _
      have H3 : Scan (set4 w1 w.heap.size (.int .i64 1) (.string ⟨acc.toArray⟩) (.slice none 0 0) (.int .i64 0)) b s (k + 1) := Blk.other4 H1 (by omega) _ _ _ _
      refine bodyPost_ret (v := .tuple #[tokV 1 ⟨acc.toArray⟩ noSl 0, .bool (decide (0 < acc.length))]) (by simp [results, Tryz.results37, go_sem, tokV, noSl, cB]) rfl ⟨K3, ?_⟩
      rw [← Hr'.out]
      by_cases hal : 0 < acc.length
      · simp only [litTok, hal, if_true, decide_true]
        exact ⟨noSl, rfl, fun _ _ => Sl.nil _ _ _, H3⟩
      · simp only [litTok, hal, if_false, decide_false]
        exact ⟨1, ⟨acc.toArray⟩, none, 0, 0, _, rfl, H3⟩
end Go.Proofs.YtmfjddhckblbhaaGreatDoor
