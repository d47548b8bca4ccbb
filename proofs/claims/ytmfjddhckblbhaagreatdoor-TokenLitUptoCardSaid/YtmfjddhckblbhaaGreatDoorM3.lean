/- The scanner's tokens: name, sign, mark. -/
import Derived.Test.YtmfjddhckblbhaaGreatDoorM1
import Derived.IntWalk
import Derived.WalkSpells
set_option linter.unusedVariables false
set_option linter.unusedSimpArgs false
namespace Go.Proofs.YtmfjddhckblbhaaGreatDoor
open Go Go.RowKit

/-- A token as the machine has it: kind, text, set, place. -/
def tokV (k : Int) (t : ByteArray) (v : Value) (a : Int) : Value := .agg #[.int .i64 k, .string t, v, .int .i64 a]
def noSl : Value := .slice none 0 0
theorem noSl_def : noSl = .slice none 0 0 := rfl

theorem toList_nil_iff (x : ByteArray) : x.toList = [] ↔ x.size = 0 := by
  rw [ByteArray.toList_eq]
  constructor
  · intro h; have := congrArg List.length h; simpa using this
  · intro h; exact List.eq_nil_of_length_eq_zero (by simpa using h)

set_option maxHeartbeats 1000000 in
theorem name_any (b : Nat) (s : ByteArray) (i n : Nat) (w : World) (H : Scan w b s i) (hm : s.size ≤ 4096) (hi : i ≤ s.size) (hn : n = wordN (s.data.toList.drop i) false) :
    Calls Tryz.prog 25 #[.pointer (some ⟨b, 0, none⟩)] w fun e w' =>
      e = .returned (.tuple #[tokV 0 (s.extract i (i + n)) noSl 0, .bool (decide (0 < n) && decide (n ≤ 12))]) ∧ Scan w' b s (i + n) ∧ Keep [b] w w' := by
  have hle : n ≤ s.size - i := by rw [hn]; have := wordN_le (s.data.toList.drop i) false; simpa using this
  have hsz : (s.extract i (i + n)).size = n := by simp [ByteArray.size_extract]; omega
  have HN := Lib.hid hn; clear hn
  have HZ := Lib.hid hsz; clear hsz
  go_enter Tryz.func25, Tryz.ntmps25
  go_wp2_with fail
  refine (word_any b s i _ (H.alloc _) hm hi).mono ?_
  rintro e w1 ⟨rfl, H1, K1⟩
  rw [← HN.out] at H1 ⊢
  have B1 := (Blk.new w _ _).keep K1 (by have := H.lt; simp; omega)
  have cB := B1.cell
  have fB := B1.frozen
  have hx : ∀ x, s.extract i (i + n) = x → x.size = n := fun x e => by rw [← e]; exact HZ.out
  generalize hX : s.extract i (i + n) = x at H1 ⊢
  have HX := Lib.hid hX; clear hX
  have hxs := hx x HX.out
  have KK : Keep [b] w w1 := ((Keep.refl _ w).alloc _).trans K1
  clear hx
  have hxs' := hxs
  have E0 : x.toList = [] ↔ n = 0 := by rw [← hxs']; exact toList_nil_iff x
  have HE := Lib.hid E0; clear E0 hxs'
  have HS := Lib.hid hxs; clear hxs
  by_cases h0 : x.toList = []
  · have hd : (decide (0 < n) && decide (n ≤ 12)) = false := by rw [HE.out.1 h0]; rfl
    have HD := Lib.hid hd; clear hd
    go_wp2
    have BF := B1.set4 (.int .i64 0) (.string x) (.slice none 0 0) (.int .i64 0)
    have cF := BF.cell
    unfold set4 at cF
    refine bodyPost_ret (v := .tuple #[tokV 0 x noSl 0, .bool false]) (by simp [results, Tryz.results25, go_sem, tokV, noSl, cB]) rfl ⟨by rw [HX.out, HD.out], ?_, ?_⟩
    · exact H1.other4 (by have := H.lt; omega) _ _ _ _
    · exact KK.set4 (by simp) _ _ _ _
  · have hd : (decide (0 < n) && decide (n ≤ 12)) = decide (n ≤ 12) := by
      have h1 : n ≠ 0 := fun h => h0 (HE.out.2 h)
      rw [show decide (0 < n) = true by simp; omega, Bool.true_and]
    have HD := Lib.hid hd; clear hd
    have hE : x.toList.isEmpty = false := by simpa using h0
    go_wp2
    have BF := B1.set4 (.int .i64 0) (.string x) (.slice none 0 0) (.int .i64 0)
    have cF := BF.cell
    unfold set4 at cF
    refine bodyPost_ret (v := .tuple #[tokV 0 x noSl 0, .bool (decide (x.size ≤ 12))]) (by simp [results, Tryz.results25, go_sem, tokV, noSl, cB, hE]; omega) rfl ⟨by rw [HX.out, HD.out, HS.out], ?_, ?_⟩
    · exact H1.other4 (by have := H.lt; omega) _ _ _ _
    · exact KK.set4 (by simp) _ _ _ _

set_option maxHeartbeats 1000000 in
theorem sign_any (b : Nat) (s : ByteArray) (i : Nat) (w : World) (H : Scan w b s i) (hm : s.size ≤ 4096) (hi : i < s.size) :
    Calls Tryz.prog 40 #[.pointer (some ⟨b, 0, none⟩)] w fun e w' =>
      e = .returned (.tuple #[tokV 4 (s.extract i (i + 1)) noSl 0, .bool true]) ∧ Scan w' b s (i + 1) ∧ Keep [b] w w' := by
  have hlt := H.lt
  have h0 : w.cell? ⟨b, 0, none⟩ = some (.string s) := H.cell 0
  have h1 : w.cell? ⟨b, 1, none⟩ = some (.int .i64 i) := H.cell 1
  have f1 : w.frozen? ⟨b, 1, none⟩ = false := H.frozen 1
  go_enter Tryz.func40, Tryz.ntmps40
  go_wp2
  have HB := ((H.set 1 (.int .i64 (↑i + 1))).alloc (.cells #[.int .i64 0, .string { data := #[] }, .slice none 0 0, .int .i64 0] 24))
  have B1 := Blk.new (w.setCell ⟨b, 1, none⟩ (.int .i64 (↑i + 1))) #[.int .i64 0, .string { data := #[] }, .slice none 0 0, .int .i64 0] 24
  have cH := HB.cell
  have cB := B1.cell
  have fB := B1.frozen
  have hsz : (w.setCell ⟨b, 1, none⟩ (.int .i64 (↑i + 1))).heap.size = w.heap.size := by simp [World.setCell]
  rw [hsz] at B1 cB fB
  have hw1 : IntKind.i64.wrap (↑i : Int) = ↑i := IntWalk.i64_in _ (by omega)
  have hw2 : (i : Int) + 1 ≤ s.size := by omega
  have hw3 : (0 : Int) ≤ i := by omega
  have hw4 : (i : Int) ≤ i + 1 := by omega
  go_region
  go_wp2
  have ht : ((i : Int) + 1).toNat = i + 1 := by omega
  refine bodyPost_ret (v := .tuple #[tokV 4 (s.extract i (i + 1)) noSl 0, .bool true]) (by simp [results, Tryz.results40, go_sem, tokV, noSl, cB, ht]) rfl ⟨rfl, ?_, ?_⟩
  · simpa [Scan] using ((H.set 1 (.int .i64 (↑i + 1))).alloc _).drew
  · exact (((Keep.refl _ _).setCell (by simp) _).alloc _).drew

end Go.Proofs.YtmfjddhckblbhaaGreatDoor
namespace Go.Proofs.YtmfjddhckblbhaaGreatDoor
open Go Go.RowKit

def markNames : List ByteArray := [⟨#[108, 111, 110, 103]⟩, ⟨#[114, 101, 115]⟩, ⟨#[111, 102, 102]⟩, ⟨#[98, 108, 111, 99, 107]⟩, ⟨#[97, 108, 105, 103, 110]⟩, ⟨#[115, 121, 110, 99]⟩]
def markCells : Array Value := #[.string ⟨#[108, 111, 110, 103]⟩, .string ⟨#[114, 101, 115]⟩, .string ⟨#[111, 102, 102]⟩, .string ⟨#[98, 108, 111, 99, 107]⟩, .string ⟨#[97, 108, 105, 103, 110]⟩, .string ⟨#[115, 121, 110, 99]⟩]
def isMark (x : ByteArray) : Bool := decide (0 ≤ idxS markNames x)

set_option maxHeartbeats 1000000 in
theorem marks_any (w : World) : Calls Tryz.prog 64 #[] w fun e w' =>
    e = .returned (.slice (some ⟨w.heap.size, 0, none⟩) 6 6) ∧ Strs [] w' (.slice (some ⟨w.heap.size, 0, none⟩) 6 6) markNames ∧ Keep [] w w' := by
  have hS : Strs [] (w.alloc (.cells markCells 9)) (.slice (some ⟨w.heap.size, 0, none⟩) 6 6) markNames := by
    refine Sl.of_blk (xs := markNames.map fun s => #[.string s]) 6 (Blk.new w markCells 9) (by simp) ⟨by decide, by decide⟩ ?_
    intro i hi
    have hi' : i < 6 := hi
    have e : i = 0 ∨ i = 1 ∨ i = 2 ∨ i = 3 ∨ i = 4 ∨ i = 5 := by omega
    rcases e with rfl | rfl | rfl | rfl | rfl | rfl
    all_goals exact ⟨rfl, fun j hj => by obtain rfl : j = 0 := by omega
                                         rfl⟩
  have HS := Lib.hid hS; clear hS
  go_enter Tryz.func64, Tryz.ntmps64
  go_wp2
  go_ret
  exact ⟨rfl, HS.out, (Keep.refl _ _).alloc _⟩

set_option maxHeartbeats 1000000 in
theorem mark_any (b : Nat) (s : ByteArray) (i n : Nat) (w : World) (H : Scan w b s i) (hm : s.size ≤ 4096) (hi : i < s.size) (hn : n = wordN (s.data.toList.drop (i + 1)) false) :
    Calls Tryz.prog 36 #[.pointer (some ⟨b, 0, none⟩)] w fun e w' =>
      e = .returned (.tuple #[tokV 5 (s.extract (i + 1) (i + 1 + n)) noSl 0, .bool (isMark (s.extract (i + 1) (i + 1 + n)))]) ∧ Scan w' b s (i + 1 + n) ∧ Keep [b] w w' := by
  have hlt := H.lt
  have h0 : w.cell? ⟨b, 0, none⟩ = some (.string s) := H.cell 0
  have h1 : w.cell? ⟨b, 1, none⟩ = some (.int .i64 i) := H.cell 1
  have f1 : w.frozen? ⟨b, 1, none⟩ = false := H.frozen 1
  have HN := Lib.hid hn; clear hn
  have HB : Scan ((w.setCell ⟨b, 1, none⟩ (.int .i64 (↑i + 1))).alloc (.cells #[.int .i64 0, .string { data := #[] }, .slice none 0 0, .int .i64 0] 24)) b s (i + 1) := by
    simpa [Scan] using (H.set 1 (.int .i64 (↑i + 1))).alloc (.cells #[.int .i64 0, .string { data := #[] }, .slice none 0 0, .int .i64 0] 24)
  have B1 := Blk.new (w.setCell ⟨b, 1, none⟩ (.int .i64 (↑i + 1))) #[.int .i64 0, .string { data := #[] }, .slice none 0 0, .int .i64 0] 24
  have hsz : (w.setCell ⟨b, 1, none⟩ (.int .i64 (↑i + 1))).heap.size = w.heap.size := by simp [World.setCell]
  have K0 : Keep [b] w ((w.setCell ⟨b, 1, none⟩ (.int .i64 (↑i + 1))).alloc (.cells #[.int .i64 0, .string { data := #[] }, .slice none 0 0, .int .i64 0] 24)) := ((Keep.refl _ _).setCell (by simp) _).alloc _
  have HSZ := Lib.hid hsz; clear hsz
  go_enter Tryz.func36, Tryz.ntmps36
  go_wp2_with fail
  refine (word_any b s (i + 1) _ HB hm (by omega)).mono ?_
  rintro e w1 ⟨rfl, H1, K1⟩
  rw [← HN.out] at H1 ⊢
  have B2 := B1.keep K1 (by rw [HSZ.out]; simp; omega)
  rw [HSZ.out] at B2
  have K2 := K0.trans K1
  clear B1 HB K0 K1 h0 h1 f1
  generalize hX : s.extract (i + 1) (i + 1 + n) = x at *
  have HX := Lib.hid hX; clear hX
  go_wp2_with fail
  refine (marks_any _).mono ?_
  rintro e w2 ⟨rfl, S2, K3⟩
  go_wp2_with fail
  refine (containsS_any [] _ _ _ _ S2).mono ?_
  rintro e w3 ⟨rfl, rfl⟩
  have hlt1 := B2.lt
  have B3 := B2.keep K3 (by simp)
  have H3 := H1.keep K3 (by simp)
  have K4 : Keep [b] w w2 := K2.trans ⟨K3.os, K3.tape, K3.output, K3.size, fun k hk _ => K3.block k hk (by simp)⟩
  have cB := B3.cell
  have fB := B3.frozen
  go_wp2
  refine bodyPost_ret (v := .tuple #[tokV 5 x noSl 0, .bool (isMark x)]) (by simp [results, Tryz.results36, go_sem, tokV, noSl, cB, isMark]) rfl ⟨by rw [HX.out], ?_, ?_⟩
  · exact H3.other4 (by omega) _ _ _ _
  · exact K4.set4 (by simp) _ _ _ _
end Go.Proofs.YtmfjddhckblbhaaGreatDoor
