/- Places from which on something may be otherwise: the plain words. -/
import Derived.Test.YtmfjddhckblbhaaGreatDoorM9
import Derived.Test.YtmfjddhckblbhaaGreatDoorShelf2
import Derived.Test.YtmfjddhckblbhaaGreatDoorShelf3
import Derived.Shelf.SlSortCmp.NoneTotal
import Derived.Shelf.SlicesG.Cmp
import Derived.Test.YtmfjddhckblbhaaGreatDoorM8
import Derived.Stop.RegionWithIn
import Derived.Laws.EntriesVeiled
import Derived.Deep.RegionLaw
set_option linter.unusedVariables false
set_option linter.unusedSimpArgs false
namespace Go.Proofs.YtmfjddhckblbhaaGreatDoor
open Go Go.RowKit Go.Shelf Go.Lib Go.Sort

theorem ltC (x y : Int) : ltOf Lib.compareInt x y = decide (x < y) := by
  unfold ltOf Lib.compareInt
  by_cases h1 : x < y
  · simp [h1]
  · by_cases h2 : y < x <;> simp [h1, h2]
theorem swoC : SWO (ltOf Lib.compareInt) where
  irrefl x := by rw [ltC]; simp
  trans x y z h1 h2 := by rw [ltC] at *; simp at *; omega
  ntrans x y z h1 h2 := by rw [ltC] at *; simp at *; omega
theorem totC (x y : Int) (h1 : ltOf Lib.compareInt x y = false) (h2 : ltOf Lib.compareInt y x = false) : x = y := by rw [ltC] at *; simp at *; omega
theorem geC : (fun x y : Int => !ltOf Lib.compareInt y x) = fun x y => decide (x ≤ y) := by
  funext x y
  rw [ltC]
  by_cases h : x ≤ y
  · have h' : ¬ y < x := by omega
    simp [h, h']
  · have h' : y < x := by omega
    simp [h, h']
theorem cmp_any (x y : Int) (W : World) : Calls Tryz.prog 101 #[.int .i64 x, .int .i64 y] W fun e w' => e = .returned (.int .i64 (Lib.compareInt x y)) ∧ ∃ q, w' = W.drewN q :=
  (AnyG.cmp_Compare_int Tryz.cmpL x y W).mono fun e w' ⟨h1, h2⟩ => ⟨h1, 0, h2⟩
theorem cmpReadsC (blk off size : Nat) (w : World) : CmpReads Tryz.prog 101 #[] (Value.int .i64) Lib.compareInt blk off size w := fun _ _ _ _ x y => cmp_any x y _
theorem sortF_any (w : World) (base : Nat) (v : Value) (xs : List Int) (H : IntV w base v xs) :
    Calls Tryz.prog 100 #[v, .func (.func 101) #[] #[]] w fun e w' => e = .returned (.tuple #[]) ∧ IntV w' base v (sortI xs) ∧ Keep (ownB v) w w' := by
  rcases H with ⟨rfl, A, C, rfl⟩ | ⟨b, o, C, rfl, hb, hlt, hC, hl, hH⟩
  · refine (AnyF.slices_SortFunc_none (P := Tryz.prog) (ρ := Tryz.sortFL_ren) { Tryz.sortFL with } A C (.func (.func 101) #[] #[]) w).mono ?_
    rintro e w' ⟨rfl, rfl⟩
    exact ⟨rfl, .inl ⟨by simp [sortI], A, C, rfl⟩, (Keep.refl [] _).mono (by simp)⟩
  · have eg : ∀ args w, (callFunc 101 args).run Tryz.prog w = .ok (.enter 101 args) w := enters_of Tryz.func101 (by kernel_rfl) rfl
    have hS := Any.slices_SortFunc_total Tryz.sortFL (Value.int .i64) (fun _ => rfl) Lib.compareInt swoC 101 #[] b o C xs.toArray w eg (cmpReadsC b o xs.toArray.size w).lays hH hlt (by simp; omega) totC
    rw [geC] at hS
    refine hS.mono ?_
    rintro e w' ⟨rfl, n, os, rfl⟩
    have hs : (sortI xs).length = xs.length := List.length_mergeSort _
    refine ⟨rfl, .inr ⟨b, o, C, by rw [hs], hb, ?_, by omega, by omega, ?_⟩, keep_putRow _ _ _ _ _ _ _⟩
    · exact Nat.lt_of_lt_of_le hlt (keep_putRow _ _ _ _ _ _ _).size
    · refine holds_grow _ _ _ _ _ _ (by simp only [putRow, mapBlock, Sort.ahead, Array.size_modify]; exact hlt) ?_
      exact holds_putRow _ _ _ _ xs.toArray _ (holds_ahead _ _ _ _ _ _ hH) (by simp)
theorem compact2_any (w : World) (base : Nat) (v : Value) (xs : List Int) (H : IntV w base v xs) :
    Calls Tryz.prog 102 #[v] w fun e w' => (∃ v', e = .returned v' ∧ IntV w' base v' (compI xs) ∧ ∀ b ∈ ownB v', b ∈ ownB v) ∧ Keep (ownB v) w w' := by
  rcases H with ⟨rfl, A, C, rfl⟩ | ⟨b, o, C, rfl, hb, hlt, hC, hl, hH⟩
  · refine (Any.slices_Compact_int_empty Tryz.laysCompact A C w).mono ?_
    rintro e w' ⟨rfl, rfl⟩
    exact ⟨⟨_, rfl, .inl ⟨rfl, A, C, rfl⟩, fun b hb => hb⟩, (Keep.refl [] _).mono (by simp)⟩
  · refine (Any.slices_Compact_int Tryz.laysCompact b o C xs w hH (by omega) hC).mono ?_
    rintro e w' ⟨rfl, n, rfl⟩
    have hs := (compI_sub xs).1
    have hk : Keep [b] w (putRow (Value.int .i64) (Sort.ahead w n) b o (Lib.compact xs ++ List.replicate (xs.length - (Lib.compact xs).length) 0).toArray) := by
      have := keep_putRow (Value.int .i64) w n b o (Lib.compact xs ++ List.replicate (xs.length - (Lib.compact xs).length) 0).toArray #[]
      simpa using this
    refine ⟨⟨_, rfl, .inr ⟨b, o, C, rfl, hb, Nat.lt_of_lt_of_le hlt hk.size, by omega, by omega, fun j hj => ?_⟩, fun b hb => hb⟩, hk⟩
    have hj' : j < (compI xs).length := by simpa using hj
    have hh := holds_putRow (Value.int .i64) (Sort.ahead w n) b o xs.toArray (Lib.compact xs ++ List.replicate (xs.length - (Lib.compact xs).length) 0).toArray (holds_ahead _ _ _ _ _ _ hH) (by
      have : (Lib.compact xs).length ≤ xs.length := hs
      simp; omega) j (by simp; unfold compI at hj'; omega)
    have e : (Lib.compact xs ++ List.replicate (xs.length - (Lib.compact xs).length) 0).toArray[j]! = (compI xs).toArray[j]! := by
      unfold compI at hj' ⊢
      rw [getElem!_pos _ j (by simp; omega), getElem!_pos _ j (by simpa using hj')]
      simp [List.getElem_append_left hj']
    rw [e] at hh
    exact hh
/-- Numbers stay where their row does not turn. -/
theorem IntV.keep2 {w w' : World} {base : Nat} {v : Value} {xs : List Int} {S : List Nat} (h : IntV w base v xs) (K : Keep S w w') (hS : ∀ b ∈ ownB v, b ∉ S) : IntV w' base v xs := by
  rcases h with h | ⟨b, o, C, rfl, h2, h3, h4, h5, h6⟩
  · exact .inl h
  · refine .inr ⟨b, o, C, rfl, h2, Nat.lt_of_lt_of_le h3 K.size, h4, h5, fun j hj => ?_⟩
    have hb := K.block b h3 (hS b (by simp [ownB, Value.ownBlock]))
    obtain ⟨c1, c2⟩ := h6 j hj
    exact ⟨by rw [← c1]; simp only [World.cell?, hb], by rw [← c2]; simp only [World.frozen?, hb]⟩
end Go.Proofs.YtmfjddhckblbhaaGreatDoor
namespace Go.Proofs.YtmfjddhckblbhaaGreatDoor
open Go Go.RowKit Go.MapKept

def ptsU (l : List Rng) (k : Nat) : List Int := [0, 1114112] ++ (l.take k).flatMap fun r => [loB r, hiB r]
theorem ptsU_succ (l : List Rng) (k : Nat) (h : k < l.length) : ptsU l (k + 1) = ptsU l k ++ [loB l[k], hiB l[k]] := by
  unfold ptsU
  rw [List.take_succ_eq_append_getElem h, List.flatMap_append]
  simp
theorem ptsU_all (l : List Rng) : ptsU l l.length = pts l := by simp [ptsU, pts]
theorem ptsU_len (l : List Rng) : ∀ k, k ≤ l.length → (ptsU l k).length = 2 + 2 * k
  | 0, _ => by simp [ptsU]
  | k + 1, h => by rw [ptsU_succ l k h, List.length_append, ptsU_len l k (by omega)]; simp; omega
theorem two_ints {w : World} (x y : Int) {base : Nat} (S : List Nat) (hb : base ≤ w.heap.size) (hS : w.heap.size ∉ S) : OwnL IntRow S (w.alloc (.cells #[.int .i64 x, .int .i64 y] 3)) base 3 1 (.slice (some ⟨w.heap.size, 0, none⟩) 2 2) [x, y] := by
  refine ⟨[#[.int .i64 x], #[.int .i64 y]], rfl, ⟨rfl, .inr ⟨w.heap.size, 2, #[.int .i64 x, .int .i64 y], rfl, hb, World.alloc_heap_new w _, Nat.le_refl _, by unfold maxLen; omega, rfl, rfl⟩⟩, fun i hi hi' => ?_⟩
  have : i = 0 ∨ i = 1 := by simp at hi; omega
  rcases this with rfl | rfl <;> exact ⟨rfl, rfl⟩
theorem two_src {S : List Nat} {w : World} {b : Nat} {T : TypeId} {x y : Int} (B : Blk w b #[.int .i64 x, .int .i64 y] T) (hb : b ∉ S) : SlOf IntRow S w 1 (.slice (some ⟨b, 0, none⟩) 2 2) [x, y] := by
  have h := Sl.of_blk (S := S) (k := 1) (xs := [#[.int .i64 x], #[.int .i64 y]]) 2 B hb (by simp) (fun i hi => by
    match i, hi with
    | 0, _ => exact ⟨rfl, fun j hj => by obtain rfl : j = 0 := by omega
                                         rfl⟩
    | 1, _ => exact ⟨rfl, fun j hj => by obtain rfl : j = 0 := by omega
                                         rfl⟩)
  refine ⟨[#[.int .i64 x], #[.int .i64 y]], h, rfl, fun i hi hi' => ?_⟩
  have : i = 0 ∨ i = 1 := by simp at hi; omega
  rcases this with rfl | rfl <;> rfl
set_option maxRecDepth 20000 in
set_option maxHeartbeats 4000000 in
theorem borders_any (S : List Nat) (A : Option Addr) (n C : Nat) (l : List Rng) (w : World) (H : SlOf RngRow S w 2 (.slice A n C) l) (hl : l.length ≤ 100000) :
    Calls Tryz.prog 85 #[.slice A n C] w fun e w' => (∃ ob v, e = .returned (.func (.func 103) #[] #[.pointer (some ⟨ob, 0, none⟩)]) ∧ Blk w' ob #[v] 125 ∧ IntV w' w.heap.size v (bordF l) ∧ w.heap.size ≤ ob) ∧ Keep [] w w' := by
  obtain ⟨rfl, _, _⟩ := SlOf.len H
  have HH := Lib.hid H
  have hmf : ∀ (fn : Fn) (first cap : Array Value) (w : World), (Instr.makeFunc fn first cap).run Tryz.prog w = .ok (.func fn first cap) w := fun _ _ _ _ => rfl
  have KA := ((Keep.refl [] w).alloc (.cells #[.int .i64 0, .int .i64 1114112] 3)).alloc (.cells #[.slice (some ⟨w.heap.size, 0, none⟩) 2 2] 125)
  have OA := (two_ints (w := w) 0 1114112 [w.heap.size + 1] (Nat.le_refl _) (by simp)).move intRow_stab (S' := [w.heap.size + 1]) ((Keep.refl [] _).alloc (.cells #[.slice (some ⟨w.heap.size, 0, none⟩) 2 2] 125)) (by simp) (fun x hx => .inl hx)
  have BA := Blk.new' (w.alloc (.cells #[.int .i64 0, .int .i64 1114112] 3)) #[.slice (some ⟨w.heap.size, 0, none⟩) 2 2] 125 (b := w.heap.size + 1) (by simp)
  have hnb0 : w.heap.size + 1 ∉ ownB (.slice (some ⟨w.heap.size, 0, none⟩) 2 2) := by simp [ownB, Value.ownBlock]
  have HT0 := Lib.hid (⟨BA, hnb0, OA, KA⟩ : _ ∧ _ ∧ _ ∧ _)
  obtain ⟨i0, hi0, hz0, hz1, hz2⟩ := info_parts info_int
  clear H KA OA BA hnb0
  go_enter Tryz.func85, Tryz.ntmps85
  go_wp2
  go_loopw [9] (fun i wr => ∃ k : Nat, k ≤ l.length ∧ i = .int .i64 k ∧ ∃ v, Blk wr (w.heap.size + 1) #[v] 125 ∧ w.heap.size + 1 ∉ ownB v ∧ OwnL IntRow [w.heap.size + 1] wr w.heap.size 3 1 v (ptsU l k) ∧ Keep [] w wr) (fun i _ => l.length - (intOf i).toNat)
  case atStart => exact ⟨0, by omega, rfl, _, HT0.out⟩
  case round =>
    clear HT0
    obtain ⟨k, hk, rfl, v, Bv, hnb, Ov, Kr⟩ := hrel
    have hul := ptsU_len l k hk
    have cv := Bv.cell
    have fv := Bv.frozen
    have lv := Bv.lt
    obtain ⟨AV, CV, rfl⟩ := Ov.slice
    by_cases hlt : k < l.length
    · have hlt' : (k : Int) < (l.length : Int) := by omega
      have HLT := Lib.hid hlt
      obtain ⟨b, o, rfl, _, e0, e1⟩ := rngSl_pick (SlOf.move HH.out rngRow_stab (by omega) Kr (by simp) (fun x hx => .inl hx)) k hlt
      have hsu : ptsU l (k + 1) = ptsU l k ++ [min (max l[k].lo 0) 1114112, min (max l[k].hi (-1)) 1114111 + 1] := ptsU_succ l k hlt
      generalize l[k].lo = lo at e0 hsu
      generalize l[k].hi = hi at e1 hsu
      have hw1 : IntKind.i64.wrap (min (max hi (-1)) 1114111 + 1) = min (max hi (-1)) 1114111 + 1 := IntWalk.i64_in _ (by omega)
      have HSU := Lib.hid hsu
      generalize ptsU l k = acc at Ov Bv cv HSU hul hnb ⊢
      have HO := Lib.hid Ov
      have HBv := Lib.hid Bv
      have HKr := Lib.hid Kr
      have HUL := Lib.hid hul
      have HNB := Lib.hid hnb
      clear hsu Ov Bv Kr hul hnb
      go_wp2_with (at_builtin; refine Hid.out ?_)
      refine Lib.hid ?_
      have KB := ((Keep.refl [] wr).alloc (.cells #[.int .i64 lo, .int .i64 hi] 44)).alloc (.cells #[.int .i64 (min (max lo 0) 1114112), .int .i64 (min (max hi (-1)) 1114111 + 1)] 3)
      refine wpList_append_data intRow_stab intRow_one rfl _ _ 125 rfl Tryz.underlying125 hi0 hz0 hz1 hz2 rfl (by omega) (S := [w.heap.size + 1]) (base := w.heap.size) (v := .slice AV acc.length CV) (A := some ⟨wr.heap.size + 1, 0, none⟩) (m := 2) (C := 2) (xs := acc) (ys := [min (max lo 0) 1114112, min (max hi (-1)) 1114111 + 1]) rfl rfl
        (HO.out.move intRow_stab KB (by simp) (fun x hx => .inl hx)) (two_src (Blk.new' _ _ 3 (by simp)) (fun hx => by rcases List.mem_append.1 hx with hx | hx; have := (HO.out.base _ hx).2; omega; simp at hx; omega)) (by have := HUL.out; simp; omega) (by have := HUL.out; simp; omega) (by have := HKr.out.size; simp; omega) ?_
      intro A9 C9 w9 O9 K9 n9
      have BV9 := (HBv.out.keep KB (by simp)).keep K9 HNB.out
      have hnb9 : w.heap.size + 1 ∉ ownB (.slice A9 (acc.length + [min (max lo 0) 1114112, min (max hi (-1)) 1114111 + 1].length) C9) := fun hx => by
        rcases n9 _ hx with h | h
        · exact HNB.out h
        · simp at h; omega
      have c9 := BV9.cell
      have f9 := BV9.frozen
      have l9 := BV9.lt
      have KS := (Keep.refl [w.heap.size + 1] w9).setCell (p := ⟨w.heap.size + 1, 0, none⟩) (.inl (by simp)) (.slice A9 (acc.length + [min (max lo 0) 1114112, min (max hi (-1)) 1114111 + 1].length) C9)
      have HFN : Hid (Blk (w9.setCell ⟨w.heap.size + 1, 0, none⟩ (.slice A9 (acc.length + [min (max lo 0) 1114112, min (max hi (-1)) 1114111 + 1].length) C9)) (w.heap.size + 1) #[.slice A9 (acc.length + [min (max lo 0) 1114112, min (max hi (-1)) 1114111 + 1].length) C9] 125 ∧ w.heap.size + 1 ∉ ownB (.slice A9 (acc.length + [min (max lo 0) 1114112, min (max hi (-1)) 1114111 + 1].length) C9) ∧
          OwnL IntRow [w.heap.size + 1] (w9.setCell ⟨w.heap.size + 1, 0, none⟩ (.slice A9 (acc.length + [min (max lo 0) 1114112, min (max hi (-1)) 1114111 + 1].length) C9)) w.heap.size 3 1 (.slice A9 (acc.length + [min (max lo 0) 1114112, min (max hi (-1)) 1114111 + 1].length) C9) (ptsU l (k + 1)) ∧
          Keep [] w (w9.setCell ⟨w.heap.size + 1, 0, none⟩ (.slice A9 (acc.length + [min (max lo 0) 1114112, min (max hi (-1)) 1114111 + 1].length) C9))) := Lib.hid ⟨by simpa using BV9.set 0 _, hnb9, by
            rw [HSU.out]
            exact O9.move intRow_stab KS (fun x hx => .inl ⟨hx, by simp at hx; subst hx; exact hnb9⟩) (fun x hx => .inl hx), ((HKr.out.trans KB).then K9 (fun x hx => .inr (HO.out.base x hx).1)).then KS (fun x hx => .inr (by simp at hx; omega))⟩
      clear O9 K9 n9 BV9 KS KB hnb9
      simp only [List.length_cons, List.length_nil, Nat.zero_add, Nat.reduceAdd] at HFN ⊢
      go_wp2
      go_roundw
      case rel => exact ⟨k + 1, by have := HLT.out; omega, by go_num, _, HFN.out⟩
      case measure => simp [intOf]; have := HLT.out; omega
    · obtain rfl : k = l.length := by omega
      rw [ptsU_all] at Ov Bv hnb
      simp only [ptsU_all] at cv ⊢
      have hpl : (pts l).length = 2 + 2 * l.length := by rw [← ptsU_all]; exact hul
      have hIV : IntV wr w.heap.size (.slice AV (pts l).length CV) (pts l) := GotAt.ints ⟨Ov.move intRow_stab (S' := []) (Keep.refl [] wr) (by simp) (by simp), Kr⟩ (by omega)
      have HS := Lib.hid (sortF_any wr w.heap.size _ _ hIV)
      have HBv := Lib.hid Bv
      have HKr := Lib.hid Kr
      have HNB := Lib.hid hnb
      have HOB := Lib.hid Ov.base
      clear hIV Ov Bv Kr hnb hul
      generalize (pts l).length = pl at cv HS HBv HNB HOB ⊢
      go_wp2_with fail
      refine HS.out.mono ?_
      rintro e w1 ⟨rfl, hI1, K1⟩
      have B1 := HBv.out.keep K1 HNB.out
      have c1 := B1.cell
      have HC := Lib.hid (compact2_any w1 w.heap.size _ _ hI1)
      have HB1 := Lib.hid B1
      have HK1 := Lib.hid (HKr.out.then K1 (fun x hx => .inr (HOB.out x hx).1))
      clear hI1 K1 B1 cv fv
      go_wp2_with fail
      refine HC.out.mono ?_
      rintro e w2 ⟨⟨v2, rfl, hI2, hob⟩, K2⟩
      have B2 := HB1.out.keep K2 HNB.out
      have c2 := B2.cell
      have f2 := B2.frozen
      have l2 := B2.lt
      have KS := (Keep.refl [w.heap.size + 1] w2).setCell (p := ⟨w.heap.size + 1, 0, none⟩) (.inl (by simp)) v2
      have HFN : Hid (Blk (w2.setCell ⟨w.heap.size + 1, 0, none⟩ v2) (w.heap.size + 1) #[v2] 125 ∧ IntV (w2.setCell ⟨w.heap.size + 1, 0, none⟩ v2) w.heap.size v2 (bordF l) ∧ Keep [] w (w2.setCell ⟨w.heap.size + 1, 0, none⟩ v2)) :=
        Lib.hid ⟨by simpa using B2.set 0 v2, hI2.keep2 KS (fun b hb hb' => by simp at hb'; subst hb'; exact HNB.out (hob _ hb)), (HK1.out.then K2 (fun x hx => .inr (HOB.out x hx).1)).then KS (fun x hx => .inr (by simp at hx; omega))⟩
      have hone : v2.oneCell' = true := by
        rcases hI2 with ⟨_, _, _, rfl⟩ | ⟨_, _, _, rfl, _⟩ <;> rfl
      obtain ⟨X2, Y2, Z2, rfl⟩ : ∃ X Y Z, v2 = .slice X Y Z := by
        rcases hI2 with ⟨_, A', C', rfl⟩ | ⟨b', o', C', rfl, _⟩
        · exact ⟨_, _, _, rfl⟩
        · exact ⟨_, _, _, rfl⟩
      clear c1 KS B2 hI2 hob K2 hone
      go_wp2
      go_ret
      exact ⟨⟨_, _, rfl, HFN.out.1, HFN.out.2.1, by omega⟩, HFN.out.2.2⟩
end Go.Proofs.YtmfjddhckblbhaaGreatDoor
namespace Go.Proofs.YtmfjddhckblbhaaGreatDoor
open Go Go.RowKit Go.MapKept Go.Shelf
attribute [local go_sem] Oper.semAt_some

theorem getD_at {xs : List Int} {k : Nat} (h : k < xs.length) : xs.getD k 0 = xs[k] := by simp [List.getD, h]

set_option maxRecDepth 20000 in
set_option maxHeartbeats 4000000 in
theorem bord1_any (n l ob : Nat) (A : Option Addr) (C : Nat) (xs : List Int) (I : Nat → World → Prop) (hx : 1 < xs.length) (hxm : xs.length ≤ 1000000) (hb : ∀ z ∈ xs, 0 ≤ z ∧ z ≤ 1114112)
    (hI : ∀ k W, I k W → Blk W ob #[.slice A xs.length C] 125 ∧ ∃ b o, A = some ⟨b, o, none⟩ ∧ ∀ j (h : j < xs.length), W.cell? ⟨b, o + j, none⟩ = some (.int .i64 xs[j])) (hId : ∀ k W, I k W → I k W.drew)
    (B : World → Prop) (hB : ∀ W W', Keep [] W W' → B W → B W') (hn : 1 ≤ n)
    (hY : ∀ (k : Nat) W1, k < xs.length - 1 → I k W1 → B W1 → YieldAt Fence.wide (n - 1) Tryz.prog l #[.int .i64 (xs.getD k 0), .int .i64 (xs.getD (k + 1) 0 - 1)] W1 fun e W' => e = .returned (.bool true) ∧ I (k + 1) W' ∧ B W')
    (W : World) (h0 : I 0 W) (hB0 : B W) :
    CallsIn Fence.wide n Tryz.prog 103 #[.func (.yield l) #[] #[], .pointer (some ⟨ob, 0, none⟩)] W fun e W' => (∃ v, e = .returned v) ∧ I (xs.length - 1) W' ∧ B W' := by
  have HI := Lib.hid hI
  have HId := Lib.hid hId
  have HBB := Lib.hid hB
  have HY := Lib.hid hY
  have HT0 := Lib.hid (⟨h0, hB0⟩ : _ ∧ _)
  have HX := Lib.hid hb
  clear hI hId hB hY h0 hB0 hb
  refine callsIn_of_wp Tryz.func103 rfl trivial ?_ rfl
  simp only [Tryz.ntmps103, List.size_toArray, List.length_cons, List.length_nil, Nat.reduceAdd, Nat.reduceSub, Array.replicate_succ, Array.replicate_zero, List.push_toArray, List.append_toArray, List.nil_append, List.cons_append]
  gi_wp2
  gi_loopw [3] (fun i wr => ∃ k : Nat, k + 1 ≤ xs.length ∧ i = .int .i64 ((k + 1 : Nat) : Int) ∧ I k wr ∧ B wr) (fun i _ => xs.length - (intOf i).toNat)
  case atStart => exact ⟨0, by omega, rfl, HT0.out.1, HT0.out.2⟩
  case round =>
    clear HT0
    obtain ⟨k, hk, rfl, hIk, hBk⟩ := hrel
    obtain ⟨BO, b, o, rfl, hc⟩ := HI.out _ _ hIk
    have q0 := BO.cell 0
    by_cases hlt : k + 1 < xs.length
    · have hlt' : ((k + 1 : Nat) : Int) < (xs.length : Int) := by omega
      have hlt2 : (k : Int) + 1 < (xs.length : Int) := by omega
      have HLT := Lib.hid hlt
      have c0 := hc k (by omega)
      have c1 := hc (k + 1) hlt
      have hx1 := HX.out _ (List.getElem_mem hlt)
      have hy := HY.out k wr.drew (by omega) (HId.out _ _ hIk) (HBB.out _ _ ((Keep.refl [] _).drew) hBk)
      have e1 : xs.getD k 0 = xs[k] := getD_at (by omega)
      have e2 : xs.getD (k + 1) 0 = xs[k + 1] := getD_at hlt
      rw [e1, e2] at hy
      obtain ⟨fn, tmps, assign, body, hy, hRd⟩ := hy
      generalize xs[k] = x at c0 hy hRd
      generalize xs[k + 1] = y at c1 hy hRd hx1
      have hw1 : IntKind.i64.wrap (y - 1) = y - 1 := IntWalk.i64_in _ (by omega)
      have hw2 : IntKind.i64.wrap (((k + 1 : Nat) : Int) - 1) = (k : Int) := by rw [show ((k + 1 : Nat) : Int) - 1 = (k : Int) by omega]; exact IntWalk.i64_in _ (by omega)
      have hw3 : IntKind.i64.wrap ((k : Int) + 1 - 1) = (k : Int) := by rw [show (k : Int) + 1 - 1 = (k : Int) by omega]; exact IntWalk.i64_in _ (by omega)
      have hw4 : IntKind.i64.wrap (k : Int) = (k : Int) := IntWalk.i64_in _ (by omega)
      have hk1 : (0 : Int) ≤ (k : Int) := by omega
      have hk2 : (k : Int) < (xs.length : Int) := by omega
      have HRD := Lib.hid hRd
      clear hc e1 e2 BO hIk hBk hRd hlt
      gi_wp2
      gi_region_with (first | (refine HRD.out.mono ?_; rintro e W3 ⟨rfl, hI3, hB3⟩; clear hy HRD) | fail)
      all_goals gi_wp2
      all_goals go_roundw
      all_goals first
        | exact ⟨k + 1, by have := HLT.out; omega, by go_num, hI3, hB3⟩
        | (simp [intOf]; have := HLT.out; omega)
    · have hke : k = xs.length - 1 := by omega
      have hn1 : ¬ ((k : Int) + 1 < (xs.length : Int)) := by omega
      have hn2 : ¬ (((k + 1 : Nat) : Int) < (xs.length : Int)) := by omega
      have HFIN : Hid (I (xs.length - 1) wr ∧ B wr) := Lib.hid ⟨by rw [← hke]; exact hIk, hBk⟩
      clear hIk hBk hc BO hlt hke
      gi_wp2
      go_end0
      exact ⟨⟨_, rfl⟩, HFIN.out⟩
end Go.Proofs.YtmfjddhckblbhaaGreatDoor
namespace Go.Proofs.YtmfjddhckblbhaaGreatDoor
open Go Go.RowKit Go.MapKept Go.Shelf
attribute [local go_sem] Oper.semAt_some

theorem wpListIn_append_data {F : Fence} {n : Nat} {α : Type} {R : List Nat → World → α → Array Value → Prop} (st : Stab R) (hone : OneC R) {ops : Array Oper} {rest : List Oper} {o : Oper} {a : Act} {Q : Exit → Act → World → Prop} (hgd : o.guard = none) (s x : Operand) (t : TypeId)
    (ho : o.op = .call { callee := .builtin .append, args := #[s, x], argTypes := #[t, t] }) {e : TypeId} {i : TypeInfo} {z : Value} {k bytes : Nat} (ht : Tryz.prog.underlying t = some (.slice e)) (hi : Tryz.prog.info? e = some i) (hz : i.zero = some z)
    (hsz : i.size = k) (hby : i.bytes = bytes) (hzk : z.cells.size = k) (hk : 0 < k) {S : List Nat} {w : World} {base : Nat} {v : Value} {xs ys : List α} {A : Option Addr} {m C : Nat} (hs : a.eval s = v) (hx : a.eval x = .slice A m C)
    (h : OwnL R S w base e k v xs) (hy : SlOf R (ownB v ++ S) w k (.slice A m C) ys) (hl : xs.length + ys.length ≤ 1000000) (hb : (xs.length + ys.length) * bytes ≤ 140737488355328) (hbase : base ≤ w.heap.size)
    (hK : ∀ A' C' w', OwnL R S w' base e k (.slice A' (xs.length + ys.length) C') (xs ++ ys) → Keep (ownB v) w w' → (∀ b ∈ ownB (.slice A' (xs.length + ys.length) C'), b ∈ ownB v ∨ b = w.heap.size) → wpListIn F n Tryz.prog ops Q rest (a.put o.dst (.slice A' (xs.length + ys.length) C')) w') : wpListIn F n Tryz.prog ops Q (o :: rest) a w := by
  refine wpListIn_plain hgd fun K hK' => ?_
  obtain ⟨A', C', w', hr, h2, h3, h4⟩ := run_append_data (ty := o.type) st hone ht hi hz hsz hby hzk hk h hy hl hb hbase
  unfold Oper.wpIn
  refine ⟨?_, ?_⟩
  · simp [Oper.about, ho, resolve, Target.leads, Sem.run_pure]
  · rw [Oper.semAt_plain F _ _ (by rw [ho]; intro c hc'; cases hc')]
    simp only [execOp, ho, resolve, invoke, builtin, Sem.run_bind, Sem.run_pure, Result.andThen_ok, List.map_toArray, List.map_cons, List.map_nil, hs, hx, hr]
    exact hK' _ _ (hK A' C' w' h2 h3 h4)

def PkAt (w5 : World) (qb : Nat) (is : Int → Bool) (xs : List Int) (k : Nat) (W : World) : Prop := ∃ v, Blk W qb #[v] 22 ∧ OwnL RngRow [qb] W (w5.heap.size + 2) 44 2 v (pickF is xs k) ∧ Keep [qb] w5 W ∧ w5.heap.size + 2 ≤ W.heap.size

theorem OwnL.putR {S : List Nat} {w : World} {base : Nat} {E : TypeId} {v : Value} {xs : List Rng} (h : OwnL RngRow S w base E 2 v xs) {l : Nat} {o : Obj} (hl : l < base) : OwnL RngRow S (w.putObj l o) base E 2 v xs := by
  obtain ⟨rows, h1, h2, h3⟩ := h
  refine ⟨rows, h1, ⟨h2.1, ?_⟩, h3⟩
  rcases h2.2 with h | ⟨g, cap, cur, a1, a2, a3, a4⟩
  · exact .inl h
  · exact .inr ⟨g, cap, cur, a1, a2, (World.putObj_heap_other (by omega)).trans a3, a4⟩
theorem OwnL.putD {S : List Nat} {w : World} {base : Nat} {E : TypeId} {v : Value} {xs : List Rng} (h : OwnL RngRow S w base E 2 v xs) {l : Nat} {o : Obj} {d} (hl : w.heap[l]? = some (.deferred d)) : OwnL RngRow S (w.putObj l o) base E 2 v xs := by
  obtain ⟨rows, h1, h2, h3⟩ := h
  refine ⟨rows, h1, ⟨h2.1, ?_⟩, h3⟩
  rcases h2.2 with h | ⟨g, cap, cur, a1, a2, a3, a4⟩
  · exact .inl h
  · exact .inr ⟨g, cap, cur, a1, a2, (World.putObj_heap_other (by rintro rfl; rw [hl] at a3; cases a3)).trans a3, a4⟩
theorem OwnL.lower {S : List Nat} {w : World} {base base' : Nat} {E : TypeId} {v : Value} {xs : List Rng} (h : OwnL RngRow S w base E 2 v xs) (hb : base' ≤ base) : OwnL RngRow S w base' E 2 v xs := by
  obtain ⟨rows, h1, h2, h3⟩ := h
  refine ⟨rows, h1, ⟨h2.1, ?_⟩, h3⟩
  rcases h2.2 with h | ⟨g, cap, cur, a1, a2, a4⟩
  · exact .inl h
  · exact .inr ⟨g, cap, cur, a1, by omega, a4⟩
theorem IntV.keepB {w w' : World} {base : Nat} {v : Value} {xs : List Int} {S : List Nat} (h : IntV w base v xs) (K : Keep S w w') (hS : ∀ b ∈ S, b < base) : IntV w' base v xs := by
  rcases h with h | ⟨b, o, C, h1, h2, h3, h4, h5, h6⟩
  · exact .inl h
  · refine .inr ⟨b, o, C, h1, h2, Nat.lt_of_lt_of_le h3 K.size, h4, h5, fun j hj => ?_⟩
    have hb := K.block b h3 (fun hb => by have := hS b hb; omega)
    obtain ⟨c1, c2⟩ := h6 j hj
    exact ⟨by rw [← c1]; simp only [World.cell?, hb], by rw [← c2]; simp only [World.frozen?, hb]⟩
theorem Keep.put {S : List Nat} {w W : World} (K : Keep S w W) {l : Nat} {o : Obj} (hl : w.heap.size ≤ l) : Keep S w (W.putObj l o) := by
  refine ⟨K.os, K.tape, K.output, ?_, fun k hk hS => ?_⟩
  · have := K.size
    simpa [World.putObj] using this
  · rw [World.putObj_heap_other (by omega)]
    exact K.block k hk hS
theorem PkAt.put {w5 : World} {qb : Nat} {is : Int → Bool} {xs : List Int} {k : Nat} {W : World} (h : PkAt w5 qb is xs k W) (hq : qb < w5.heap.size) {l : Nat} {o : Obj} (h1 : w5.heap.size ≤ l) (h2 : l ≤ w5.heap.size + 1) : PkAt w5 qb is xs k (W.putObj l o) := by
  obtain ⟨v, B, O, K, z⟩ := h
  exact ⟨v, (World.putObj_heap_other (by omega)).trans B, O.putR (by omega), K.put h1, by simpa [World.putObj] using z⟩
theorem PkAt.drew {w5 : World} {qb : Nat} {is : Int → Bool} {xs : List Int} {k : Nat} {W : World} (h : PkAt w5 qb is xs k W) : PkAt w5 qb is xs k W.drew := by
  obtain ⟨v, B, O, K, z⟩ := h
  exact ⟨v, B.keep ((Keep.refl [] W).drew) (by simp), O.move rngRow_stab ((Keep.refl [] W).drew) (by simp) (fun x hx => .inl hx), K.drew, z⟩

theorem eq_nil_or_snoc (l : List Rng) : l = [] ∨ ∃ l' r, l = l' ++ [r] := by
  cases h : l.getLast? with
  | none => exact .inl (List.getLast?_eq_none_iff.1 h)
  | some r => obtain ⟨l', h⟩ := List.getLast?_eq_some_iff.1 h; exact .inr ⟨l', r, h⟩
theorem one_rng {S : List Nat} {w : World} {b : Nat} {T : TypeId} {r : Rng} (B : Blk w b #[.int .i64 r.lo, .int .i64 r.hi] T) (hb : b ∉ S) : SlOf RngRow S w 2 (.slice (some ⟨b, 0, none⟩) 1 1) [r] := by
  have h := Sl.of_blk (S := S) (k := 2) (xs := [#[.int .i64 r.lo, .int .i64 r.hi]]) 1 B hb (by simp) (fun i hi => by
    obtain rfl : i = 0 := by simpa using hi
    exact ⟨rfl, fun j hj => by
      match j, hj with
      | 0, _ => rfl
      | 1, _ => rfl⟩)
  refine ⟨[#[.int .i64 r.lo, .int .i64 r.hi]], h, rfl, fun i hi hi' => ?_⟩
  obtain rfl : i = 0 := by simpa using hi
  rfl
theorem pickF_len (is : Int → Bool) (xs : List Int) : ∀ k, (pickF is xs k).length ≤ k
  | 0 => by simp [pickF]
  | k + 1 => by
    have h := pickF_len is xs k
    rw [pickF]
    unfold pickStep
    split
    · split
      · split
        · simp; omega
        · simp; omega
      · simp
    · omega

set_option maxRecDepth 20000 in
set_option maxHeartbeats 4000000 in
theorem pick_any (S : List Nat) (A : Option Addr) (n C : Nat) (l : List Rng) (w : World) (H : SlOf RngRow S w 2 (.slice A n C) l) (hl : l.length ≤ 100000) (p1 p2 p3 : Value) (is : Int → Bool)
    (hp : ∀ W', Keep [] w W' → ∀ x, Calls Tryz.prog 61 #[.int .i64 x, p1, p2, p3] W' fun e w'' => e = .returned (.bool (is x)) ∧ Keep [] W' w'') :
    Calls Tryz.prog 60 #[.func (.func 61) #[] #[p1, p2, p3], .slice A n C] w fun e w' => ∃ v, e = .returned v ∧ OwnL RngRow [] w' w.heap.size 44 2 v (pickF is (bordF l) ((bordF l).length - 1)) ∧ Keep [] w w' := by
  have HP := Lib.hid hp
  have hmf : ∀ (fn : Fn) (first cap : Array Value) (w : World), (Instr.makeFunc fn first cap).run Tryz.prog w = .ok (.func fn first cap) w := fun _ _ _ _ => rfl
  have KA := ((Keep.refl [] w).alloc (.cells #[.func (.func 61) #[] #[p1, p2, p3]] 56)).alloc (.cells #[.slice none 0 0] 22)
  have BA := (Blk.new' w #[.func (.func 61) #[] #[p1, p2, p3]] 56 (b := w.heap.size) rfl).alloc (.cells #[.slice none 0 0] 22)
  have BB := Blk.new' (w.alloc (.cells #[.func (.func 61) #[] #[p1, p2, p3]] 56)) #[.slice none 0 0] 22 (b := w.heap.size + 1) (by simp)
  have HBD := Lib.hid (borders_any S A n C l _ (SlOf.move H rngRow_stab (by omega) KA (by simp) (fun x hx => .inl hx)) hl)
  have HK := Lib.hid (⟨KA, BA, BB⟩ : _ ∧ _ ∧ _)
  clear H KA BA BB hp
  refine (callsIn_wide (n := 9)).1 ?_
  refine callsIn_of_wp_marks Tryz.func60 rfl trivial ?_ rfl
  simp only [Tryz.ntmps60, List.size_toArray, List.length_cons, List.length_nil, Nat.reduceAdd, Nat.reduceSub, Array.replicate_succ, Array.replicate_zero, List.push_toArray, List.append_toArray, List.nil_append, List.cons_append]
  gi_wp2_with fail
  refine ⟨trivial, (callsIn_wide.2 HBD.out).mono ?_⟩
  rintro e w5 ⟨⟨ob, v, rfl, Bo, hIV, hob⟩, K5⟩
  have B5 := HK.out.2.1.keep K5 (by simp)
  have Q5 := HK.out.2.2.keep K5 (by simp)
  have K05 := HK.out.1.trans K5
  have hz5 := K5.size
  simp only [World.size_alloc] at hob hz5 hIV
  obtain ⟨A', C', hv, hm, hr⟩ := hIV.cells
  subst hv
  have HCL : Hid (∀ k W, PkAt w5 (w.heap.size + 1) is (bordF l) k W → Blk W ob #[.slice A' (bordF l).length C'] 125 ∧ ∃ b o, A' = some ⟨b, o, none⟩ ∧ ∀ j (h : j < (bordF l).length), W.cell? ⟨b, o + j, none⟩ = some (.int .i64 (bordF l)[j])) := Lib.hid (by
    rintro k W ⟨v, B, O, K, _⟩
    refine ⟨Bo.keep K (by simp; omega), ?_⟩
    obtain ⟨A2, C2, hv2, _, hr2⟩ := (hIV.keepB K (by simp)).cells
    simp only [Value.slice.injEq, true_and] at hv2
    obtain ⟨rfl, rfl⟩ := hv2
    exact hr2 (bordF_first l).1)
  have HF := Lib.hid (⟨B5, Q5, K05, Bo, hIV, hob, hz5⟩ : _ ∧ _ ∧ _ ∧ _ ∧ _ ∧ _ ∧ _)
  clear B5 Q5 K05 Bo hIV hob hz5 K5 HBD HK hr
  gi_wp2_with fail
  obtain ⟨hi0, hi1, hiz⟩ : w.heap.size < w5.heap.size ∧ w.heap.size + 1 < w5.heap.size ∧ ob < w5.heap.size := ⟨by have := HF.out.2.2.2.2.2.2; omega, by have := HF.out.2.2.2.2.2.2; omega, HF.out.2.2.2.1.lt⟩
  obtain ⟨i0, hi2, hz0, hz1, hz2⟩ := info_parts info_rng
  have HN5 := Lib.hid (⟨hi0, hi1, hiz⟩ : _ ∧ _ ∧ _)
  refine range_inv ((bordF l).length - 1) (fun k => #[.int .i64 ((bordF l).getD k 0), .int .i64 ((bordF l).getD (k + 1) 0 - 1)]) (PkAt w5 (w.heap.size + 1) is (bordF l))
    (fun k => { tmps := #[.func (.func 61) #[] #[p1, p2, p3], .slice A n C, .pointer (some ⟨w.heap.size, 0, none⟩), undef, .slice none 0 0, .pointer (some ⟨w.heap.size + 1, 0, none⟩), .int .i64 ((bordF l).getD k 0), .int .i64 ((bordF l).getD (k + 1) 0 - 1), undef, .slice A n C,
      .func (.func 103) #[] #[.pointer (some ⟨ob, 0, none⟩)], .int .i64 ((bordF l).getD k 0), .int .i64 ((bordF l).getD (k + 1) 0 - 1),
      undef, undef, undef, undef, undef, undef, undef, undef, undef, undef, undef, undef, undef, undef, undef, undef, undef, undef, undef, undef, undef, undef, undef, undef, undef, undef, undef, undef, undef, undef, undef], defers := [] })
    (gf := 103) (lb := #[.pointer (some ⟨ob, 0, none⟩)]) (fun k W l o h1 h2 h => h.put hi1 h1 h2) (by omega) rfl (enters_of Tryz.func103 (by kernel_rfl) rfl) (fun _ => rfl) ?h0 ?assign ?body ?seq ?done
  case h0 =>
    intro o
    exact ⟨_, (HF.out.2.1.alloc _).alloc _, OwnL.nil _ _ _ _ _, ((Keep.refl _ _).alloc _).alloc _, by simp⟩
  case assign =>
    intro l x W K _ hK
    gi_wp2
    exact hK
  case seq =>
    intro l0 B W hB hY hN hBW
    have hlen := (bordF_last l).1
    refine (bord1_any 8 l0 ob A' C' (bordF l) (PkAt w5 (w.heap.size + 1) is (bordF l)) hlen hm (fun z hz => pts_in l z ((bordF_mem l z).1 hz)) HCL.out (fun k W h => h.drew) B hB (by omega) hY W hN hBW)
  case done =>
    intro Db W hD hN hK
    obtain ⟨v, Bv, Ov, Kv, zv⟩ := hN
    have q0 := Bv.cell 0
    have HFIN : Hid (OwnL RngRow [] (W.putObj Db (.deferred none)) w.heap.size 44 2 v (pickF is (bordF l) ((bordF l).length - 1)) ∧ Keep [] w (W.putObj Db (.deferred none))) := Lib.hid ⟨((Ov.putD hK).move (S' := []) (T := []) rngRow_stab (Keep.refl [] _) (by simp) (by simp)).lower (by omega), HF.out.2.2.1.then (Kv.put hD) (fun x hx => by simp at hx; subst hx; right; omega)⟩
    clear Ov Kv Bv
    gi_wp2
    refine ⟨by simp, .inl ⟨_, _, rfl, run_takeDeferred hK, ?_⟩⟩
    exact ⟨_, results_tmp rfl _ _ _, v, rfl, HFIN.out⟩
  case body =>
    intro l0 k W hk hN
    obtain ⟨v, Bv, Ov, Kv, zv⟩ := hN
    have hx : 0 ≤ (bordF l).getD k 0 ∧ (bordF l).getD k 0 ≤ 1114112 := by rw [getD_at (by omega)]; exact pts_in l _ ((bordF_mem l _).1 (List.getElem_mem _))
    have hsu : pickF is (bordF l) (k + 1) = pickStep is (pickF is (bordF l) k) ((bordF l).getD k 0) ((bordF l).getD (k + 1) 0 - 1) := rfl
    have hle := pickF_len is (bordF l) k
    have hcall := HP.out W (HF.out.2.2.1.then Kv (fun x hx => by simp at hx; subst hx; right; omega)) ((bordF l).getD k 0)
    dsimp only
    generalize (bordF l).getD k 0 = x at hx hsu hcall ⊢
    generalize (bordF l).getD (k + 1) 0 - 1 = up at hsu ⊢
    have HSU := Lib.hid hsu
    have HC := Lib.hid hcall
    generalize pickF is (bordF l) k = R at Ov hle HSU
    have f0 := (HF.out.1.keep Kv (by simp)).cell 0
    have HOB := Lib.hid (⟨Bv, Ov, Kv, zv⟩ : _ ∧ _ ∧ _ ∧ _)
    have hw1 : IntKind.i64.wrap (x - 1) = x - 1 := IntWalk.i64_in _ (by omega)
    clear hsu hcall Bv Ov Kv zv
    gi_wp2_with fail
    refine ⟨trivial, (CallsIn.inRound l0 (callsIn_wide.2 HC.out)).mono ?_⟩
    rintro e w1 ⟨rfl, K1⟩
    obtain ⟨Bv, Ov, Kv, zv⟩ := HOB.out
    have HB1 := Lib.hid (⟨Bv.keep K1 (by simp), Ov.move rngRow_stab K1 (by simp) (fun x hx => .inl hx), Kv.trans (K1.mono (by simp)), K1, Nat.le_trans zv K1.size⟩ : _ ∧ _ ∧ _ ∧ _ ∧ _)
    clear Bv Ov Kv K1 zv HOB HC f0
    cases hxi : is x with
    | false =>
      have HFN : Hid (PkAt w5 (w.heap.size + 1) is (bordF l) (k + 1) w1) := Lib.hid (by
        obtain ⟨a, b, c, d, e⟩ := HB1.out
        exact ⟨v, a, by rw [HSU.out, pickStep, if_neg (by simp [hxi])]; exact b, c, e⟩)
      clear hxi
      gi_wp2
      exact ⟨HFN.out, [], HB1.out.2.2.2.1, by simp, by simp⟩
    | true =>
      rcases eq_nil_or_snoc R with rfl | ⟨R', r, rfl⟩
      · have HST : Hid (pickF is (bordF l) (k + 1) = [] ++ [⟨x, up⟩]) := Lib.hid (by rw [HSU.out, pickStep, if_pos hxi]; rfl)
        obtain ⟨Bv, Ov, Kv, K1, zv⟩ := HB1.out
        obtain ⟨A2, C2, rfl⟩ := Ov.slice
        have c0 := Bv.cell 0
        clear Bv Ov Kv K1 zv hxi HSU
        gi_wp2_with (gi_at_builtin; refine Hid.out ?_)
        refine Lib.hid ?_
        have KB := (Keep.refl [] w1).alloc (.cells #[.int .i64 x, .int .i64 up] 44)
        obtain ⟨Bv, Ov, Kv, K1, zv⟩ := HB1.out
        refine wpListIn_append_data rngRow_stab rngRow_one rfl _ _ 22 rfl Tryz.underlying22 hi2 hz0 hz1 hz2 rfl (by omega) (S := [w.heap.size + 1]) (base := w5.heap.size + 2) (v := .slice A2 ([] : List Rng).length C2) (A := some ⟨w1.heap.size, 0, none⟩) (m := 1) (C := 1) (xs := ([] : List Rng)) (ys := [⟨x, up⟩]) rfl rfl
          (Ov.move rngRow_stab KB (by simp) (fun x hx => .inl hx)) (one_rng (Blk.new' _ _ 44 rfl) (fun hx => by rcases List.mem_append.1 hx with hx | hx; have := (Ov.base _ hx).2; omega; have := Kv.size; simp at hx; omega)) (by simp) (by simp) (by simp; omega) ?_
        intro A9 C9 w9 O9 K9 n9
        have BV9 := (Bv.keep KB (by simp)).keep K9 (fun hx => by have := (Ov.base _ hx).1; omega)
        have hnb9 : w.heap.size + 1 ∉ ownB (.slice A9 (([] : List Rng).length + [(⟨x, up⟩ : Rng)].length) C9) := fun hx => by
          have := (O9.base _ hx).1
          omega
        have c9 := BV9.cell
        have f9 := BV9.frozen
        have l9 := BV9.lt
        have KS := (Keep.refl [w.heap.size + 1] w9).setCell (p := ⟨w.heap.size + 1, 0, none⟩) (.inl (by simp)) (.slice A9 (([] : List Rng).length + [(⟨x, up⟩ : Rng)].length) C9)
        have HFN : Hid (PkAt w5 (w.heap.size + 1) is (bordF l) (k + 1) (w9.setCell ⟨w.heap.size + 1, 0, none⟩ (.slice A9 (([] : List Rng).length + [(⟨x, up⟩ : Rng)].length) C9)) ∧ ∃ T, Keep T W (w9.setCell ⟨w.heap.size + 1, 0, none⟩ (.slice A9 (([] : List Rng).length + [(⟨x, up⟩ : Rng)].length) C9)) ∧ w5.heap.size ∉ T ∧ w5.heap.size + 1 ∉ T) := Lib.hid ⟨⟨_, by simpa using BV9.set 0 _, by
              rw [HST.out]
              exact O9.move rngRow_stab KS (fun x hx => .inl ⟨hx, by simp at hx; subst hx; exact hnb9⟩) (fun x hx => .inl hx),
            ((Kv.then KB (by simp)).then K9 (fun x hx => .inr (by have := (Ov.base x hx).1; omega))).then KS (fun x hx => .inl hx), by have := K9.size; simp at this; simp; omega⟩,
            (w.heap.size + 1) :: ownB (.slice A2 ([] : List Rng).length C2), (((K1.mono (by simp)).then KB (by simp)).then K9 (fun x hx => .inl (List.mem_cons_of_mem _ hx))).then KS (fun x hx => .inl (by simp at hx; simp [hx])),
            fun hx => by
              rcases List.mem_cons.1 hx with hx | hx
              · have := HN5.out; omega
              · have := (Ov.base _ hx).1; omega, fun hx => by
              rcases List.mem_cons.1 hx with hx | hx
              · have := HN5.out; omega
              · have := (Ov.base _ hx).1; omega⟩
        clear O9 K9 n9 BV9 KS KB hnb9 Bv Ov Kv K1 zv
        simp only [List.length_cons, List.length_nil, Nat.zero_add, Nat.reduceAdd] at HFN ⊢
        gi_wp2
        exact HFN.out

      · obtain ⟨lo, hi⟩ := r
        obtain ⟨Bv, Ov, Kv, K1, zv⟩ := HB1.out
        obtain ⟨A2, C2, rfl⟩ := Ov.slice
        obtain ⟨g, rfl, hg1, hg2⟩ := Ov.form (by simp)
        obtain ⟨b, o, hbo, _, e0, e1⟩ := rngSl_pick (Ov.read rngRow_stab (S' := []) (by simp) (by simp)) R'.length (by simp)
        simp only [Option.some.injEq, Addr.mk.injEq, and_true] at hbo
        obtain ⟨rfl, rfl⟩ := hbo
        rw [show (R' ++ [(⟨lo, hi⟩ : Rng)])[R'.length]'(by simp) = ⟨lo, hi⟩ by simp] at e1
        simp only [Nat.zero_add] at e1
        have ff := Ov.frozen (by simp) (R'.length * 2 + 1)
        have c0 := Bv.cell 0
        have hln : (R' ++ [(⟨lo, hi⟩ : Rng)]).length = R'.length + 1 := by simp
        have hle2 : R'.length ≤ 1000000 := by simp at hle; omega
        have hw2 : IntKind.i64.wrap ((R'.length : Int) + 1 - 1) = R'.length := by rw [show (R'.length : Int) + 1 - 1 = R'.length by omega]; exact IntWalk.i64_in _ (by omega)
        have hw3 : IntKind.i64.wrap (R'.length : Int) = R'.length := IntWalk.i64_in _ (by omega)
        have hw4 : IntKind.i64.wrap (((R'.length + 1 : Nat) : Int) - 1) = R'.length := by rw [show ((R'.length + 1 : Nat) : Int) - 1 = R'.length by omega]; exact IntWalk.i64_in _ (by omega)
        by_cases hh : hi = x - 1
        · subst hh
          have HST : Hid (pickF is (bordF l) (k + 1) = R' ++ [⟨lo, up⟩]) := Lib.hid (by rw [HSU.out, pickStep, if_pos hxi]; simp)
          have KS := (Keep.refl [g] w1).setCell (p := ⟨g, R'.length * 2 + 1, none⟩) (.inl (by simp)) (.int .i64 up)
          have HFN : Hid (PkAt w5 (w.heap.size + 1) is (bordF l) (k + 1) (w1.setCell ⟨g, R'.length * 2 + 1, none⟩ (.int .i64 up)) ∧ ∃ T, Keep T W (w1.setCell ⟨g, R'.length * 2 + 1, none⟩ (.int .i64 up)) ∧ w5.heap.size ∉ T ∧ w5.heap.size + 1 ∉ T) := Lib.hid ⟨⟨_, Bv.keep KS (by simp; omega), by
              rw [HST.out]
              have hst := OwnL.store rngRow_stab Ov R'.length 1 (.int .i64 up) ⟨lo, up⟩ (by simp) (by omega) (fun row hr h => by
                rw [show (R' ++ [(⟨lo, x - 1⟩ : Rng)])[R'.length]'(by simp) = ⟨lo, x - 1⟩ by simp] at h
                have h' : row = #[.int .i64 lo, .int .i64 (x - 1)] := h
                rw [h']; rfl)
              rw [show (R' ++ [(⟨lo, x - 1⟩ : Rng)]).set R'.length ⟨lo, up⟩ = R' ++ [⟨lo, up⟩] by simp] at hst
              exact hst, Kv.then KS (fun x hx => by simp at hx; subst hx; right; omega), by simpa using zv⟩, [g], (K1.mono (by simp)).then KS (fun x hx => .inl hx), by simp; omega, by simp; omega⟩
          clear Bv Ov Kv K1 zv hxi HSU KS
          rw [hln] at c0
          gi_wp2
          exact HFN.out
        · have HST : Hid (pickF is (bordF l) (k + 1) = (R' ++ [⟨lo, hi⟩]) ++ [⟨x, up⟩]) := Lib.hid (by rw [HSU.out, pickStep, if_pos hxi]; simp [hh])
          clear Bv Ov Kv K1 zv hxi HSU
          rw [hln] at c0
          gi_wp2_with (gi_at_builtin; refine Hid.out ?_)
          refine Lib.hid ?_
          have KB := (Keep.refl [] w1).alloc (.cells #[.int .i64 x, .int .i64 up] 44)
          obtain ⟨Bv, Ov, Kv, K1, zv⟩ := HB1.out
          refine wpListIn_append_data rngRow_stab rngRow_one rfl _ _ 22 rfl Tryz.underlying22 hi2 hz0 hz1 hz2 rfl (by omega) (S := [w.heap.size + 1]) (base := w5.heap.size + 2) (v := .slice (some ⟨g, 0, none⟩) (R' ++ [(⟨lo, hi⟩ : Rng)]).length C2) (A := some ⟨w1.heap.size, 0, none⟩) (m := 1) (C := 1) (xs := (R' ++ [(⟨lo, hi⟩ : Rng)])) (ys := [⟨x, up⟩]) (congrArg (fun n => Value.slice (some ⟨g, 0, none⟩) n C2) hln.symm) rfl
            (Ov.move rngRow_stab KB (by simp) (fun x hx => .inl hx)) (one_rng (Blk.new' _ _ 44 rfl) (fun hx => by rcases List.mem_append.1 hx with hx | hx; have := (Ov.base _ hx).2; omega; have := Kv.size; simp at hx; omega)) (by simp; simp at hle; omega) (by simp; simp at hle; omega) (by simp; omega) ?_
          intro A9 C9 w9 O9 K9 n9
          have BV9 := (Bv.keep KB (by simp)).keep K9 (fun hx => by have := (Ov.base _ hx).1; omega)
          have hnb9 : w.heap.size + 1 ∉ ownB (.slice A9 ((R' ++ [(⟨lo, hi⟩ : Rng)]).length + [(⟨x, up⟩ : Rng)].length) C9) := fun hx => by
            have := (O9.base _ hx).1
            omega
          have c9 := BV9.cell
          have f9 := BV9.frozen
          have l9 := BV9.lt
          have KS := (Keep.refl [w.heap.size + 1] w9).setCell (p := ⟨w.heap.size + 1, 0, none⟩) (.inl (by simp)) (.slice A9 ((R' ++ [(⟨lo, hi⟩ : Rng)]).length + [(⟨x, up⟩ : Rng)].length) C9)
          have HFN : Hid (PkAt w5 (w.heap.size + 1) is (bordF l) (k + 1) (w9.setCell ⟨w.heap.size + 1, 0, none⟩ (.slice A9 ((R' ++ [(⟨lo, hi⟩ : Rng)]).length + [(⟨x, up⟩ : Rng)].length) C9)) ∧ ∃ T, Keep T W (w9.setCell ⟨w.heap.size + 1, 0, none⟩ (.slice A9 ((R' ++ [(⟨lo, hi⟩ : Rng)]).length + [(⟨x, up⟩ : Rng)].length) C9)) ∧ w5.heap.size ∉ T ∧ w5.heap.size + 1 ∉ T) := Lib.hid ⟨⟨_, by simpa using BV9.set 0 _, by
                rw [HST.out]
                have h9 := O9.move (S' := [w.heap.size + 1]) rngRow_stab KS (fun x hx => .inl ⟨hx, by simp at hx; subst hx; exact hnb9⟩) (fun x hx => .inl hx)
                simp only [hln, List.length_cons, List.length_nil, Nat.zero_add, Nat.reduceAdd] at h9 ⊢
                exact h9,
              ((Kv.then KB (by simp)).then K9 (fun x hx => .inr (by have := (Ov.base x hx).1; omega))).then KS (fun x hx => .inl hx), by have := K9.size; simp at this; simp; omega⟩,
              (w.heap.size + 1) :: ownB (.slice (some ⟨g, 0, none⟩) (R' ++ [(⟨lo, hi⟩ : Rng)]).length C2), (((K1.mono (by simp)).then KB (by simp)).then K9 (fun x hx => .inl (List.mem_cons_of_mem _ hx))).then KS (fun x hx => .inl (by simp at hx; simp [hx])),
              fun hx => by
                rcases List.mem_cons.1 hx with hx | hx
                · have := HN5.out; omega
                · have := (Ov.base _ hx).1; omega, fun hx => by
                rcases List.mem_cons.1 hx with hx | hx
                · have := HN5.out; omega
                · have := (Ov.base _ hx).1; omega⟩
          clear O9 K9 n9 BV9 KS KB hnb9 Bv Ov Kv K1 zv
          simp only [hln, List.length_cons, List.length_nil, Nat.zero_add, Nat.reduceAdd] at HFN ⊢
          gi_wp2
          exact HFN.out
end Go.Proofs.YtmfjddhckblbhaaGreatDoor
namespace Go.Proofs.YtmfjddhckblbhaaGreatDoor
open Go Go.RowKit Go.MapKept

theorem less1_any (x y : Bool) (w : World) : Calls Tryz.prog 35 #[.bool x, .bool y] w fun e w' => e = .returned (.bool (x && !y)) ∧ Keep [] w w' := by
  go_enter Tryz.func35, Tryz.ntmps35
  cases x <;> cases y <;> (go_wp2; go_ret; exact ⟨rfl, by first | exact Keep.refl _ _ | exact (Keep.refl _ _).drew⟩)
set_option maxRecDepth 20000 in
set_option maxHeartbeats 4000000 in
theorem two1_any (z : Int) (b1 b2 b3 : Nat) (A1 A2 : Option Addr) (n1 C1 n2 C2 : Nat) (la lb : List Rng) (w : World)
    (B1 : Blk w b1 #[.func (.func 35) #[] #[]] 58) (B2 : Blk w b2 #[.func (.func 59) #[.slice A1 n1 C1] #[]] 56) (B3 : Blk w b3 #[.func (.func 59) #[.slice A2 n2 C2] #[]] 56)
    (H1 : SlOf RngRow [] w 2 (.slice A1 n1 C1) la) (H2 : SlOf RngRow [] w 2 (.slice A2 n2 C2) lb) :
    Calls Tryz.prog 61 #[.int .i64 z, .pointer (some ⟨b1, 0, none⟩), .pointer (some ⟨b2, 0, none⟩), .pointer (some ⟨b3, 0, none⟩)] w fun e w' => e = .returned (.bool (hasR la z && !hasR lb z)) ∧ Keep [] w w' := by
  have hkp : ∀ w', Keep [] w w' → w'.cell? ⟨b1, 0, none⟩ = some (.func (.func 35) #[] #[]) ∧ w'.cell? ⟨b2, 0, none⟩ = some (.func (.func 59) #[.slice A1 n1 C1] #[]) ∧ w'.cell? ⟨b3, 0, none⟩ = some (.func (.func 59) #[.slice A2 n2 C2] #[]) :=
    fun w' K => ⟨(B1.keep K (by simp)).cell 0, (B2.keep K (by simp)).cell 0, (B3.keep K (by simp)).cell 0⟩
  have h1 : ∀ w', Keep [] w w' → Calls Tryz.prog 59 #[.slice A1 n1 C1, .int .i64 z] w' fun e w'' => e = .returned (.bool (hasR la z)) ∧ Keep [] w w'' := fun w' K =>
    (has_any [] A1 n1 C1 la z w' (SlOf.move H1 rngRow_stab (by omega) K (by simp) (fun x hx => .inl hx))).mono fun e w'' ⟨h1, h2⟩ => ⟨h1, K.trans h2⟩
  have h2 : ∀ w', Keep [] w w' → Calls Tryz.prog 59 #[.slice A2 n2 C2, .int .i64 z] w' fun e w'' => e = .returned (.bool (hasR lb z)) ∧ Keep [] w w'' := fun w' K =>
    (has_any [] A2 n2 C2 lb z w' (SlOf.move H2 rngRow_stab (by omega) K (by simp) (fun x hx => .inl hx))).mono fun e w'' ⟨h1, h2⟩ => ⟨h1, K.trans h2⟩
  have h3 : ∀ w', Keep [] w w' → Calls Tryz.prog 35 #[.bool (hasR la z), .bool (hasR lb z)] w' fun e w'' => e = .returned (.bool (hasR la z && !hasR lb z)) ∧ Keep [] w w'' := fun w' K =>
    (less1_any _ _ w').mono fun e w'' ⟨h1, h2⟩ => ⟨h1, K.trans h2⟩
  have q1 := (hkp w (Keep.refl _ _)).1
  have q2 := (hkp w (Keep.refl _ _)).2.1
  have q3 := (hkp w (Keep.refl _ _)).2.2
  have HKP := Lib.hid hkp
  have HC1 := Lib.hid h1
  have HC2 := Lib.hid h2
  have HC3 := Lib.hid h3
  have Kd := (Keep.refl [] w).drew
  generalize hasR la z = x at HC1 HC3 ⊢
  generalize hasR lb z = y at HC2 HC3 ⊢
  clear hkp h1 h2 h3 B1 B2 B3 H1 H2
  go_enter Tryz.func61, Tryz.ntmps61
  go_wp2
  first
    | (go_region_held3 (fun w' => w'.cell? ⟨b1, 0, none⟩ = some (.func (.func 35) #[] #[]) ∧ w'.cell? ⟨b2, 0, none⟩ = some (.func (.func 59) #[.slice A1 n1 C1] #[]) ∧ w'.cell? ⟨b3, 0, none⟩ = some (.func (.func 59) #[.slice A2 n2 C2] #[]))
        (exact HKP.out _ (by assumption))
        (first
          | (go_at_call 59; refine (HC1.out _ (by assumption)).mono ?_; rintro e w' ⟨rfl, K'⟩)
          | (go_at_call 59; refine (HC2.out _ (by assumption)).mono ?_; rintro e w' ⟨rfl, K'⟩)
          | (go_at_call 35; refine (HC3.out _ (by assumption)).mono ?_; rintro e w' ⟨rfl, K'⟩)))
    | fail
  go_wp2
  go_ret
  exact ⟨rfl, by assumption⟩
theorem two_rngs {S : List Nat} {w : World} {b n1 C1 n2 C2 : Nat} {A1 A2 : Option Addr} {T : TypeId} {la lb : List Rng} (B : Blk w b #[.slice A1 n1 C1, .slice A2 n2 C2] T) (hb : b ∉ S) (H1 : SlOf RngRow S w 2 (.slice A1 n1 C1) la) (H2 : SlOf RngRow S w 2 (.slice A2 n2 C2) lb) :
    SlOf RngsRow S w 1 (.slice (some ⟨b, 0, none⟩) 2 2) [la, lb] := by
  obtain ⟨rfl, _, _⟩ := SlOf.len H1
  obtain ⟨rfl, _, _⟩ := SlOf.len H2
  have h := Sl.of_blk (S := S) (k := 1) (xs := [#[.slice A1 la.length C1], #[.slice A2 lb.length C2]]) 2 B hb (by simp) (fun i hi => by
    match i, hi with
    | 0, _ => exact ⟨rfl, fun j hj => by obtain rfl : j = 0 := by omega
                                         rfl⟩
    | 1, _ => exact ⟨rfl, fun j hj => by obtain rfl : j = 0 := by omega
                                         rfl⟩)
  refine ⟨[#[.slice A1 la.length C1], #[.slice A2 lb.length C2]], h, rfl, fun i hi hi' => ?_⟩
  have : i = 0 ∨ i = 1 := by simp at hi; omega
  rcases this with rfl | rfl
  · exact ⟨A1, C1, rfl, H1⟩
  · exact ⟨A2, C2, rfl, H2⟩
theorem twoR_eq (f : Bool → Bool → Bool) (a b : List Rng) : twoR f a b = pickF (fun n => f (hasR a n) (hasR b n)) (bordF (a ++ b)) ((bordF (a ++ b)).length - 1) := rfl
set_option maxRecDepth 20000 in
set_option maxHeartbeats 400000 in
theorem two_any (A1 A2 : Option Addr) (n1 C1 n2 C2 : Nat) (la lb : List Rng) (w : World) (H1 : SlOf RngRow [] w 2 (.slice A1 n1 C1) la) (H2 : SlOf RngRow [] w 2 (.slice A2 n2 C2) lb) (hl : la.length + lb.length ≤ 100000) :
    Calls Tryz.prog 34 #[.slice A1 n1 C1, .slice A2 n2 C2, .func (.func 35) #[] #[]] w fun e w' => ∃ v, e = .returned v ∧ OwnL RngRow [] w' w.heap.size 44 2 v (twoR (fun x y => x && !y) la lb) ∧ Keep [] w w' := by
  have hmf : ∀ (fn : Fn) (first cap : Array Value) (w : World), (Instr.makeFunc fn first cap).run Tryz.prog w = .ok (.func fn first cap) w := fun _ _ _ _ => rfl
  obtain ⟨R, hR⟩ : ∃ R, R = twoR (fun x y => x && !y) la lb := ⟨_, rfl⟩
  rw [← hR]
  have HRR := Lib.hid hR
  clear hR
  go_enter Tryz.func34, Tryz.ntmps34
  go_wp2_with fail
  have K4 := ((((Keep.refl [] w).alloc (.cells #[.func (.func 35) #[] #[]] 58)).alloc (.cells #[.func (.func 59) #[.slice A1 n1 C1] #[]] 56)).alloc (.cells #[.func (.func 59) #[.slice A2 n2 C2] #[]] 56)).alloc (.cells #[.slice A1 n1 C1, .slice A2 n2 C2] 22)
  have B1 := (((Blk.new' w #[.func (.func 35) #[] #[]] 58 (b := w.heap.size) rfl).alloc (.cells #[.func (.func 59) #[.slice A1 n1 C1] #[]] 56)).alloc (.cells #[.func (.func 59) #[.slice A2 n2 C2] #[]] 56)).alloc (.cells #[.slice A1 n1 C1, .slice A2 n2 C2] 22)
  have B2 := ((Blk.new' (w.alloc (.cells #[.func (.func 35) #[] #[]] 58)) #[.func (.func 59) #[.slice A1 n1 C1] #[]] 56 (b := w.heap.size + 1) (by simp)).alloc (.cells #[.func (.func 59) #[.slice A2 n2 C2] #[]] 56)).alloc (.cells #[.slice A1 n1 C1, .slice A2 n2 C2] 22)
  have B3 := (Blk.new' ((w.alloc (.cells #[.func (.func 35) #[] #[]] 58)).alloc (.cells #[.func (.func 59) #[.slice A1 n1 C1] #[]] 56)) #[.func (.func 59) #[.slice A2 n2 C2] #[]] 56 (b := w.heap.size + 1 + 1) (by simp)).alloc (.cells #[.slice A1 n1 C1, .slice A2 n2 C2] 22)
  have B4 := Blk.new' (((w.alloc (.cells #[.func (.func 35) #[] #[]] 58)).alloc (.cells #[.func (.func 59) #[.slice A1 n1 C1] #[]] 56)).alloc (.cells #[.func (.func 59) #[.slice A2 n2 C2] #[]] 56)) #[.slice A1 n1 C1, .slice A2 n2 C2] 22 (b := w.heap.size + 1 + 1 + 1) (by simp)
  have G1 := SlOf.move H1 rngRow_stab (by omega) K4 (by simp) (fun x hx => .inl hx)
  have G2 := SlOf.move H2 rngRow_stab (by omega) K4 (by simp) (fun x hx => .inl hx)
  refine (concatR_any [] _ [la, lb] _ (two_rngs B4 (by simp) G1 G2) (by simp [lensG]; omega) (by simp)).mono ?_
  rintro e w5 ⟨⟨v5, rfl, H5, _⟩, K5⟩
  rw [show [la, lb].flatten = la ++ lb by simp] at H5
  obtain ⟨A5, C5, rfl, _, _⟩ := SlOf.at H5
  have hab : (la ++ lb).length ≤ 100000 := by simp; omega
  generalize (la ++ lb).length = N5 at H5 ⊢
  have hpk : Calls Tryz.prog 60 #[.func (.func 61) #[] #[.pointer (some ⟨w.heap.size, 0, none⟩), .pointer (some ⟨w.heap.size + 1, 0, none⟩), .pointer (some ⟨w.heap.size + 1 + 1, 0, none⟩)], .slice A5 N5 C5] w5 fun e w' => ∃ v, e = .returned v ∧ OwnL RngRow [] w' w5.heap.size 44 2 v R ∧ Keep [] w5 w' := by
    rw [HRR.out, twoR_eq]
    exact pick_any [] A5 _ C5 (la ++ lb) w5 H5 hab _ _ _ (fun z => hasR la z && !hasR lb z)
      (fun W' K' z => two1_any z _ _ _ A1 A2 n1 C1 n2 C2 la lb W' (B1.keep (K5.trans K') (by simp)) (B2.keep (K5.trans K') (by simp)) (B3.keep (K5.trans K') (by simp)) (SlOf.move G1 rngRow_stab (by omega) (K5.trans K') (by simp) (fun x hx => .inl hx)) (SlOf.move G2 rngRow_stab (by omega) (K5.trans K') (by simp) (fun x hx => .inl hx)))
  have HPK := Lib.hid hpk
  have HKK := Lib.hid (K4.trans K5)
  clear hpk K4 K5 B1 B2 B3 B4 G1 G2 H1 H2 H5
  go_wp2_with fail
  refine HPK.out.mono ?_
  rintro e w6 ⟨v6, rfl, O6, K6⟩
  obtain ⟨A6, C6, rfl⟩ := O6.slice
  have HFN : Hid (OwnL RngRow [] w6 w.heap.size 44 2 (.slice A6 R.length C6) R ∧ Keep [] w w6) := Lib.hid ⟨O6.lower HKK.out.size, HKK.out.trans K6⟩
  clear O6 K6
  go_wp2
  go_ret
  exact ⟨_, rfl, HFN.out⟩
theorem less_any (A1 A2 : Option Addr) (n1 C1 n2 C2 : Nat) (la lb : List Rng) (w : World) (H1 : SlOf RngRow [] w 2 (.slice A1 n1 C1) la) (H2 : SlOf RngRow [] w 2 (.slice A2 n2 C2) lb) (hl : la.length + lb.length ≤ 100000) :
    Calls Tryz.prog 21 #[.slice A1 n1 C1, .slice A2 n2 C2] w fun e w' => ∃ v, e = .returned v ∧ OwnL RngRow [] w' w.heap.size 44 2 v (twoR (fun x y => x && !y) la lb) ∧ Keep [] w w' := by
  have HT := Lib.hid (two_any A1 A2 n1 C1 n2 C2 la lb w H1 H2 hl)
  clear H1 H2
  generalize twoR (fun x y => x && !y) la lb = R at HT ⊢
  go_enter Tryz.func21, Tryz.ntmps21
  go_wp2_with fail
  refine HT.out.mono ?_
  rintro e w6 ⟨v6, rfl, O6, K6⟩
  obtain ⟨A6, C6, rfl⟩ := O6.slice
  go_wp2
  go_ret
  exact ⟨_, rfl, O6, K6⟩
end Go.Proofs.YtmfjddhckblbhaaGreatDoor
