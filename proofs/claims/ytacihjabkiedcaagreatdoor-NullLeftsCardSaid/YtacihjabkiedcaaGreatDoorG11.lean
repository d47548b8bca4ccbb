/- Sets are copied. -/
import Derived.Test.YtacihjabkiedcaaGreatDoorG10
import Derived.Lib.SliceRun
import Derived.Test.YtacihjabkiedcaaGreatDoorG6
import Derived.Test.YtacihjabkiedcaaGreatDoorG7
import Derived.BigQuiet
set_option linter.unusedVariables false
set_option linter.unusedSimpArgs false
namespace Go.Proofs.YtacihjabkiedcaaGreatDoor
open Go Go.RowKit

theorem flat_at (k : Nat) : ∀ (l : List (Array Value)), (∀ i (h : i < l.length), l[i].size = k) → ∀ i (h : i < l.length) j, j < k → (l.flatMap Array.toList)[i * k + j]? = l[i][j]? := by
  intro l
  induction l with
  | nil => intro _ i h; simp at h
  | cons a l ih =>
    intro hl i hi j hj
    have ha : a.size = k := hl 0 (by simp)
    cases i with
    | zero =>
      simp only [List.flatMap_cons, Nat.zero_mul, Nat.zero_add, List.getElem_cons_zero]
      rw [List.getElem?_append_left (by simp [ha]; exact hj)]
      simp
    | succ i =>
      simp only [List.flatMap_cons, List.getElem_cons_succ]
      rw [List.getElem?_append_right (by simp [ha, Nat.succ_mul]; omega)]
      rw [show (i + 1) * k + j - a.toList.length = i * k + j by simp [ha, Nat.succ_mul]; omega]
      exact ih (fun i h => hl (i + 1) (by simpa using h)) i (by simpa using hi) j hj
theorem flat_len (k : Nat) : ∀ (l : List (Array Value)), (∀ i (h : i < l.length), l[i].size = k) → (l.flatMap Array.toList).length = l.length * k
  | [], _ => by simp
  | a :: l, h => by
    have ha : a.size = k := h 0 (by simp)
    rw [List.flatMap_cons, List.length_append, flat_len k l (fun i hi => h (i + 1) (by simpa using hi))]
    simp [ha, Nat.succ_mul]; omega
theorem add_none (b o j : Nat) : (⟨b, o, none⟩ : Addr).add j = ⟨b, o + j, none⟩ := by unfold Addr.add; split <;> simp_all
/-- The cells of a slice, as what is appended. -/
theorem Sl.news {S : List Nat} {w : World} {k : Nat} {b o c : Nat} {xs : List (Array Value)} (hk : 0 < k) (h : Sl S w k (.slice (some ⟨b, o, none⟩) xs.length c) xs) : ∀ j u, (xs.flatMap Array.toList)[j]? = some u → w.cell? ((⟨b, o, none⟩ : Addr).add j) = some u := by
  obtain ⟨a, c', hv, hm, hr⟩ := h
  simp only [Value.slice.injEq, true_and] at hv
  obtain ⟨rfl, _⟩ := hv
  intro j u hj
  have hlt : j < (xs.flatMap Array.toList).length := (List.getElem?_eq_some_iff.1 hj).1
  by_cases h0 : 0 < xs.length
  · obtain ⟨b', o', he, hb, hc⟩ := hr h0
    simp only [Option.some.injEq, Addr.mk.injEq, and_true] at he
    obtain ⟨rfl, rfl⟩ := he
    rw [flat_len k xs (fun i hi => (hc i hi).1)] at hlt
    have hi : j / k < xs.length := Nat.div_lt_of_lt_mul (by rw [Nat.mul_comm]; exact hlt)
    have hjk : j % k < k := Nat.mod_lt _ hk
    have e : j = j / k * k + j % k := by rw [Nat.mul_comm]; exact (Nat.div_add_mod j k).symm
    rw [add_none, show o + j = o + j / k * k + j % k by omega, (hc _ hi).2 _ hjk, ← hj]
    conv => rhs; rw [e]
    exact (flat_at k xs (fun i hi => (hc i hi).1) _ hi _ hjk).symm
  · have : xs = [] := List.eq_nil_of_length_eq_zero (by omega)
    subst this
    simp at hj
theorem Rngs.back {S : List Nat} {w : World} {v : Value} {l : List Rng} (h : SlOf RngRow S w 2 v l) : Rngs S w v l := by
  obtain ⟨rows, h1, h2, h3⟩ := h
  have e : rows = l.map Rng.row := by
    refine List.ext_getElem (by simp [h2]) (fun i hi hi' => ?_)
    have := h3 i (by omega) hi
    rw [List.getElem_map]
    exact this
  rw [e] at h1
  exact h1
theorem info_rng : (Tryz.prog.info? 42).map (fun i => (i.zero, i.size, i.bytes)) = some (some (.agg #[.int .i64 0, .int .i64 0]), 2, 16) := by kernel_rfl

set_option maxRecDepth 20000 in
set_option maxHeartbeats 2000000 in
theorem rngClone_any (S : List Nat) (v : Value) (l : List Rng) (w : World) (H : Rngs S w v l) (hN : l.length ≤ 1000000) :
    Calls Tryz.prog 70 #[v] w fun e w' => (∃ A C, e = .returned (.slice A l.length C) ∧ ∀ S', (∀ b ∈ S', b < w.heap.size) → Rngs S' w' (.slice A l.length C) l) ∧ Keep [] w w' := by
  have HH := H
  obtain ⟨A, C, rfl, hm, hr⟩ := HH
  have qT : ∀ (w : World) (a : Option Addr) (n c n' c' : Nat), (binOp .eql 35 (.slice a n c) (.slice none n' c')).run Tryz.prog w = .ok (.bool a.isNone) w := fun w a n c n' c' => Lib.run_eql_slice_nil w _ _ a n c n' c' Tryz.underlying35
  simp only [List.length_map] at H hm hr ⊢
  cases l with
  | nil =>
    cases A with
    | none =>
      go_enter Tryz.func70, Tryz.ntmps70
      go_wp2
      go_ret
      exact ⟨⟨none, 0, rfl, fun S' _ => Sl.nil _ _ _⟩, Keep.refl _ _⟩
    | some ad =>
      go_enter Tryz.func70, Tryz.ntmps70
      go_wp2
      go_ret
      exact ⟨⟨some ⟨w.heap.size, 0, none⟩, 0, rfl, fun S' _ => ⟨_, 0, rfl, by simp, fun h => absurd h (by simp)⟩⟩, (Keep.refl _ _).alloc _⟩
  | cons r l =>
    obtain ⟨b, o, rfl, hb, hc⟩ := hr (by simp)
    have hnews := Sl.news (by omega) (by have h := H; unfold Rngs at h; simpa using h : Sl S w 2 (.slice (some ⟨b, o, none⟩) ((r :: l).map Rng.row).length C) ((r :: l).map Rng.row))
    obtain ⟨i0, hi0, hz0, hz1, hz2⟩ := info_parts info_rng
    have HN := Lib.hid hnews; clear hnews hc hr
    go_enter Tryz.func70, Tryz.ntmps70
    have hown : (w.alloc (.cells #[] 42)).ownsRow w.heap.size 42 2 (.slice (some ⟨w.heap.size, 0, none⟩) 0 0) 0 [] := ⟨rfl, .inr ⟨w.heap.size, 0, #[], rfl, Nat.le_refl _, Blk.new w #[] 42, by omega, by decide, rfl, rfl⟩⟩
    have hnl : (((r :: l).map Rng.row).flatMap Array.toList).length = (l.length + 1) * 2 := by rw [flat_len 2 _ (fun i hi => by rw [List.getElem_map]; rfl)]; simp
    have hone : ∀ u ∈ ((r :: l).map Rng.row).flatMap Array.toList, u.oneCell' = true := fun u hu => by
      obtain ⟨x, hx, hu⟩ := List.mem_flatMap.1 hu
      obtain ⟨y, _, rfl⟩ := List.mem_map.1 hx
      simp [Rng.row] at hu
      rcases hu with rfl | rfl <;> rfl
    have K0 := (Keep.refl [] w).alloc (.cells #[] 42)
    have HN2 : Hid (∀ j u, (((r :: l).map Rng.row).flatMap Array.toList)[j]? = some u → (w.alloc (.cells #[] 42)).cell? ((⟨b, o, none⟩ : Addr).add j) = some u) := Lib.hid (fun j u h => K0.cell (HN.out j u h) (by simp))
    have HONE := Lib.hid hone; clear hone
    have HNL := Lib.hid hnl; clear hnl
    rw [List.length_cons] at hN
    go_wp2_with (at_builtin; go_loud (refine wpList_append_lies _ rfl _ _ 35 rfl w.heap.size 42 i0 (.agg #[.int .i64 0, .int .i64 0]) 2 16 Tryz.underlying35 hi0 hz0 hz1 hz2 rfl (by decide) _ 0 _ rfl hown ⟨b, o, none⟩ (l.length + 1) C (((r :: l).map Rng.row).flatMap Array.toList) rfl HNL.out HN2.out HONE.out (by omega) (by unfold maxLen; omega) (by omega) (by simp) _ rfl ?_); intro g cap w5 O5 G5 W5 L5)
    have hOL : ∀ S', OwnL RngRow S' w5 w.heap.size 42 2 (.slice (some ⟨g, 0, none⟩) (0 + (l.length + 1)) cap) (r :: l) := fun S' => by
      refine ⟨(r :: l).map Rng.row, by simp, ?_, fun i hi hi' => ⟨by rw [List.getElem_map]; rfl, by rw [List.getElem_map]; rfl⟩⟩
      simpa using O5
    have hv : (Value.slice (some ⟨g, 0, none⟩) (0 + (l.length + 1)) cap) = .slice (some ⟨g, 0, none⟩) (l.length + 1) cap := by rw [Nat.zero_add]
    rw [hv] at hOL
    have KF := K0.grown G5 (fun x hx => .inr (by have hx : some w.heap.size = some x := hx; simp at hx; omega))
    have HOL := Lib.hid hOL
    clear O5 G5 W5 L5 hOL hown
    go_wp2
    go_ret
    refine ⟨⟨some ⟨g, 0, none⟩, cap, rfl, fun S' hS' => ?_⟩, KF⟩
    exact Rngs.back ((HOL.out S').read rngRow_stab (fun x hx => .inl hx) (fun x hx hx' => by have h1 := ((HOL.out S').base x hx).1; have := hS' x hx'; omega))

set_option maxHeartbeats 1000000 in
theorem symbol_any (S : List Nat) (k : Int) (v : Value) (l : List Rng) (w : World) (H : Rngs S w v l) (hN : l.length ≤ 1000000) :
    Calls Tryz.prog 151 #[.int .i64 k, v] w fun e w' => (∃ row, e = .returned (.agg row) ∧ ∀ S', (∀ b ∈ S', b < w.heap.size) → SymRow S' w' ⟨k, l, 0⟩ row) ∧ Keep [] w w' := by
  have K0 := (Keep.refl [] w).alloc (.cells #[.int .i64 0, .slice none 0 0, .int .i64 0] 39)
  have H0 : Rngs S _ v l := Sl.move H (by omega) K0 (by simp) (fun x hx => .inl hx)
  go_enter Tryz.func151, Tryz.ntmps151
  go_wp2_with fail
  refine (rngClone_any S v l _ H0 hN).mono ?_
  rintro e w1 ⟨⟨A, C, rfl, hA⟩, K1⟩
  have B1 := (Blk.new w #[.int .i64 0, .slice none 0 0, .int .i64 0] 39).keep K1 (by simp)
  have l1 := B1.lt
  have c1 := B1.cell
  have f1 := B1.frozen
  have BF : Blk (((w1.setCell ⟨w.heap.size, 0, none⟩ (.int .i64 k)).setCell ⟨w.heap.size, 1, none⟩ (.slice A l.length C)).setCell ⟨w.heap.size, 2, none⟩ (.int .i64 0)) w.heap.size #[.int .i64 k, .slice A l.length C, .int .i64 0] 39 := by simpa using ((B1.set 0 (.int .i64 k)).set 1 (.slice A l.length C)).set 2 (.int .i64 0)
  have KS : Keep [w.heap.size] w1 (((w1.setCell ⟨w.heap.size, 0, none⟩ (.int .i64 k)).setCell ⟨w.heap.size, 1, none⟩ (.slice A l.length C)).setCell ⟨w.heap.size, 2, none⟩ (.int .i64 0)) := (((Keep.refl _ _).setCell (by simp) _).setCell (by simp) _).setCell (by simp) _
  have KF : Keep [] w (((w1.setCell ⟨w.heap.size, 0, none⟩ (.int .i64 k)).setCell ⟨w.heap.size, 1, none⟩ (.slice A l.length C)).setCell ⟨w.heap.size, 2, none⟩ (.int .i64 0)) := (((K0.trans K1).setCell (.inr (by simp)) _).setCell (.inr (by simp)) _).setCell (.inr (by simp)) _
  have fin : ∀ S', (∀ b ∈ S', b < w.heap.size) → SymRow S' _ ⟨k, l, 0⟩ #[.int .i64 k, .slice A l.length C, .int .i64 0] := fun S' hS' =>
    ⟨A, C, rfl, Sl.move (S' := S') (hA (w.heap.size :: S') (fun b hb => by rcases List.mem_cons.1 hb with rfl | h; simp; have := hS' b h; simp; omega)) (by omega) KS (by simp) (fun x hx => .inl (by simp [hx]))⟩
  have FIN := Lib.hid fin; clear fin hA
  have cF := BF.cell
  have CF := Lib.hid cF; clear cF BF
  go_wp2
  have cF := CF.out
  exact bodyPost_ret (v := .agg #[.int .i64 k, .slice A l.length C, .int .i64 0]) (by simp [results, Tryz.results151, go_sem, cF]) rfl ⟨⟨_, rfl, FIN.out⟩, KF⟩
end Go.Proofs.YtacihjabkiedcaaGreatDoor
/- The maker of nonterminals: what is wrong. -/
namespace Go.Proofs.YtacihjabkiedcaaGreatDoor
open Go Go.RowKit

/-- What went wrong first: nothing, or an error and its place, in a block beside S. -/
def BadAt (S : List Nat) (w : World) (v : Value) : Option Err → Prop
  | none => v = .pointer none
  | some x => ∃ b, v = .pointer (some ⟨b, 0, none⟩) ∧ b ∉ S ∧ Blk w b #[.int .i64 x.1, .int .i64 x.2] 111
theorem BadAt.move {S T S' : List Nat} {w w' : World} {v : Value} {x : Option Err} (h : BadAt S w v x) (K : Keep T w w') (hT : ∀ b ∈ T, b ∈ S ∨ w.heap.size ≤ b) (hS : ∀ b ∈ S', b ∈ S ∨ w.heap.size ≤ b) : BadAt S' w' v x := by
  cases x with
  | none => exact h
  | some x =>
    obtain ⟨b, rfl, hb, hB⟩ := h
    have hl := hB.lt
    have hnot : ∀ (L : List Nat), (∀ b ∈ L, b ∈ S ∨ w.heap.size ≤ b) → b ∉ L := fun L hL hb' => by
      rcases hL b hb' with h | h
      · exact hb h
      · omega
    exact ⟨b, rfl, hnot S' hS, hB.keep K (hnot T hT)⟩
/-- The maker at block m: its map, the nonterminals' slice, what is wrong. -/
def MkB (S : List Nat) (w : World) (m mb : Nat) (pv : Value) (bad : Option Err) : Prop := ∃ bv, Blk w m #[.map (some mb), pv, bv] 106 ∧ BadAt S w bv bad
theorem MkB.move {S T S' : List Nat} {w w' : World} {m mb : Nat} {pv : Value} {bad : Option Err} (h : MkB S w m mb pv bad) (K : Keep T w w') (hT : ∀ x ∈ T, (x ∈ S ∧ x ≠ m) ∨ w.heap.size ≤ x) (hS : ∀ x ∈ S', x ∈ S ∨ w.heap.size ≤ x) : MkB S' w' m mb pv bad := by
  obtain ⟨bv, hB, hb⟩ := h
  refine ⟨bv, hB.keep K (fun hx => ?_), hb.move K (fun x hx => ?_) hS⟩
  · rcases hT m hx with ⟨_, h⟩ | h
    · exact h rfl
    · have := hB.lt; omega
  · rcases hT x hx with ⟨h, _⟩ | h
    · exact .inl h
    · exact .inr h
def failR (is : Bool) (x : Err) (bad : Option Err) : Option Err := if is = true ∧ bad = none then some x else bad

set_option maxHeartbeats 2000000 in
theorem ffail_any (S : List Nat) (m mb : Nat) (pv : Value) (bad : Option Err) (is : Bool) (e0 a0 : Int) (w : World) (H : MkB S w m mb pv bad) (hS : m ∈ S) (hSl : ∀ x ∈ S, x < w.heap.size) :
    Calls Tryz.prog 126 #[.pointer (some ⟨m, 0, none⟩), .bool is, .int .i64 e0, .int .i64 a0] w fun e w' => e = .returned (.bool is) ∧ MkB S w' m mb pv (failR is (e0, a0) bad) ∧ Keep [m] w w' := by
  have HH := H
  obtain ⟨bv, hB, hb⟩ := HH
  have hl := hB.lt
  have c2 := hB.cell 2
  have f2 := hB.frozen 2
  have f2' : w.frozen? ⟨m, 2, none⟩ = false := f2
  cases is with
  | false =>
    go_enter Tryz.func126, Tryz.ntmps126
    go_wp2
    go_ret
    exact ⟨rfl, by simpa [failR] using H, Keep.refl _ _⟩
  | true =>
    cases bad with
    | some x =>
      obtain ⟨b, rfl, hbS, hBB⟩ := hb
      have hq : ∀ (b : Nat) (w : World), (binOp .eql 104 (.pointer (some ⟨b, 0, none⟩)) (.pointer none)).run Tryz.prog w = .ok (.bool false) w := fun _ _ => by kernel_rfl
      go_enter Tryz.func126, Tryz.ntmps126
      go_wp2
      go_ret
      exact ⟨rfl, by simpa [failR] using H, Keep.refl _ _⟩
    | none =>
      have hb' : bv = .pointer none := hb
      subst hb'
      have hq : ∀ (w : World), (binOp .eql 104 (.pointer none) (.pointer none)).run Tryz.prog w = .ok (.bool true) w := fun _ => by kernel_rfl
      go_enter Tryz.func126, Tryz.ntmps126
      go_wp2
      go_ret
      have hsz : (w.setCell ⟨m, 2, none⟩ (.pointer (some ⟨w.heap.size, 0, none⟩))).heap.size = w.heap.size := by simp [World.setCell]
      refine ⟨rfl, ⟨.pointer (some ⟨w.heap.size, 0, none⟩), by simpa using (hB.set 2 (.pointer (some ⟨w.heap.size, 0, none⟩))).alloc (.cells #[.int .i64 e0, .int .i64 a0] 111), ?_⟩, ((Keep.refl _ _).setCell (by simp) _).alloc _⟩
      simp only [failR, and_self, if_true]
      exact ⟨w.heap.size, rfl, fun h => by have := hSl _ h; omega, Blk.new' _ _ _ hsz⟩
end Go.Proofs.YtacihjabkiedcaaGreatDoor
/- What the maker of nonterminals comes to, in plain words. -/
namespace Go.Proofs.YtacihjabkiedcaaGreatDoor
open Go Go.RowKit

/-- What the maker holds: the nonterminals, and what is wrong. -/
structure MkS where
  p : List ProdS
  bad : Option Err
def MkS.fail (st : MkS) (x : Err) : MkS := { st with bad := failR true x st.bad }
/-- The place of a name. -/
def nameAt (names : List ByteArray) (x : ByteArray) : Option Nat := names.idxOf? x
def PartS.l : PartS → List PartS | .mk _ _ _ l _ => l
/-- A child's symbols, one behind nothing. -/
def oneF (part : MkS → List SymS → PartS → MkS × List SymS) (st : MkS) (ch : List PartS) (i : Nat) : MkS × List SymS :=
  match ch[i]? with
  | none => (st, [])
  | some x => if st.bad = none then part st [] x else (st, [])
def altsF (part : MkS → List SymS → PartS → MkS × List SymS) (ch : List PartS) : Nat → MkS × List (List SymS) → MkS × List (List SymS)
  | 0, r => r
  | n + 1, r => let q := altsF part ch n r; let o := oneF part q.1 ch n; (o.1, q.2 ++ [o.2])
/-- A nonterminal's alternatives. -/
def fillF (part : MkS → List SymS → PartS → MkS × List SymS) (st : MkS) (n : Nat) (p : PartS) : MkS :=
  let self : SymS := ⟨2, [], n⟩
  let q : MkS × List (List SymS) :=
    if p.k = 5 then altsF part p.l p.l.length (st, [])
    else let o := oneF part st p.l 0
      if p.k = 6 then (o.1, [o.2 ++ [self], []]) else if p.k = 7 then (o.1, [o.2 ++ [self], o.2]) else (o.1, [o.2, []])
  let st2 : MkS := if q.2.length = 0 ∨ 8 < q.2.length ∨ q.2.any (fun l => decide (40 < l.length)) = true then q.1.fail (7, p.a) else q.1
  { st2 with p := st2.p.modify n (fun x => { x with a := q.2 }) }
/-- Symbols with a part behind; parts within one another at most d. -/
def pieceF (names : List ByteArray) : Nat → MkS → List SymS → PartS → MkS × List SymS
  | 0, st, l, _ => (st, l)
  | d + 1, st, l, .mk k t r ch a =>
    if k = 0 then (match nameAt names t with
      | none => (st.fail (5, a), l)
      | some n => (st, l ++ [⟨2, [], n⟩]))
    else if k = 1 then (st, l ++ t.data.toList.map fun c => ⟨0, [⟨c.toNat, c.toNat⟩], 0⟩)
    else if k = 2 then (st, l ++ [⟨1, r, 0⟩])
    else if k = 3 then (st, l ++ [⟨0, r, 0⟩])
    else if k = 4 then ch.foldl (fun q x => if q.1.bad = none then pieceF names d q.1 q.2 x else q) (st, l)
    else if (k < 0 ∨ 8 < k ∨ (k ≠ 5 ∧ ch.length ≠ 1)) ∨ st.p.length = 60 then (st.fail (7, a), l)
    else (fillF (pieceF names d) { st with p := st.p ++ [⟨[], 0, []⟩] } st.p.length (.mk k t r ch a), l ++ [⟨2, [], st.p.length⟩])
end Go.Proofs.YtacihjabkiedcaaGreatDoor
/- Words are copied. -/
namespace Go.Proofs.YtacihjabkiedcaaGreatDoor
open Go Go.RowKit

def strRow1 (s : ByteArray) : Array Value := #[.string s]
def Strs1 (S : List Nat) (w : World) (v : Value) (l : List ByteArray) : Prop := Sl S w 1 v (l.map strRow1)
theorem strs_back {S : List Nat} {w : World} {v : Value} {l : List ByteArray} (h : SlOf StrRow S w 1 v l) : Strs1 S w v l := by
  obtain ⟨rows, h1, h2, h3⟩ := h
  have e : rows = l.map strRow1 := by
    refine List.ext_getElem (by simp [h2]) (fun i hi hi' => ?_)
    have := h3 i (by omega) hi
    rw [List.getElem_map]
    exact this
  rw [e] at h1
  exact h1
set_option maxRecDepth 20000 in
set_option maxHeartbeats 2000000 in
theorem strClone_any (S : List Nat) (v : Value) (l : List ByteArray) (w : World) (H : Strs1 S w v l) (hN : l.length ≤ 1000000) :
    Calls Tryz.prog 72 #[v] w fun e w' => (∃ A C, e = .returned (.slice A l.length C) ∧ ∀ S', (∀ b ∈ S', b < w.heap.size) → Strs1 S' w' (.slice A l.length C) l) ∧ Keep [] w w' := by
  have HH := H
  obtain ⟨A, C, rfl, hm, hr⟩ := HH
  have qT : ∀ (w : World) (a : Option Addr) (n c n' c' : Nat), (binOp .eql 23 (.slice a n c) (.slice none n' c')).run Tryz.prog w = .ok (.bool a.isNone) w := fun w a n c n' c' => Lib.run_eql_slice_nil w _ _ a n c n' c' Tryz.underlying23
  simp only [List.length_map] at H hm hr ⊢
  cases l with
  | nil =>
    cases A with
    | none =>
      go_enter Tryz.func72, Tryz.ntmps72
      go_wp2
      go_ret
      exact ⟨⟨none, 0, rfl, fun S' _ => Sl.nil _ _ _⟩, Keep.refl _ _⟩
    | some ad =>
      go_enter Tryz.func72, Tryz.ntmps72
      go_wp2
      go_ret
      exact ⟨⟨some ⟨w.heap.size, 0, none⟩, 0, rfl, fun S' _ => ⟨_, 0, rfl, by simp, fun h => absurd h (by simp)⟩⟩, (Keep.refl _ _).alloc _⟩
  | cons r l =>
    obtain ⟨b, o, rfl, hb, hc⟩ := hr (by simp)
    have hnews := Sl.news (by omega) (by have h := H; unfold Strs1 at h; simpa using h : Sl S w 1 (.slice (some ⟨b, o, none⟩) ((r :: l).map strRow1).length C) ((r :: l).map strRow1))
    obtain ⟨i0, hi0, hz0, hz1, hz2⟩ := info_parts info_str
    have HN := Lib.hid hnews; clear hnews hc hr
    go_enter Tryz.func72, Tryz.ntmps72
    have hown : (w.alloc (.cells #[] 9)).ownsRow w.heap.size 9 1 (.slice (some ⟨w.heap.size, 0, none⟩) 0 0) 0 [] := ⟨rfl, .inr ⟨w.heap.size, 0, #[], rfl, Nat.le_refl _, Blk.new w #[] 9, by omega, by decide, rfl, rfl⟩⟩
    have hnl : (((r :: l).map strRow1).flatMap Array.toList).length = (l.length + 1) * 1 := by rw [flat_len 1 _ (fun i hi => by rw [List.getElem_map]; rfl)]; simp
    have hone : ∀ u ∈ ((r :: l).map strRow1).flatMap Array.toList, u.oneCell' = true := fun u hu => by
      obtain ⟨x, hx, hu⟩ := List.mem_flatMap.1 hu
      obtain ⟨y, _, rfl⟩ := List.mem_map.1 hx
      simp [strRow1] at hu
      subst hu; rfl
    have K0 := (Keep.refl [] w).alloc (.cells #[] 9)
    have HN2 : Hid (∀ j u, (((r :: l).map strRow1).flatMap Array.toList)[j]? = some u → (w.alloc (.cells #[] 9)).cell? ((⟨b, o, none⟩ : Addr).add j) = some u) := Lib.hid (fun j u h => K0.cell (HN.out j u h) (by simp))
    have HONE := Lib.hid hone; clear hone
    have HNL := Lib.hid hnl; clear hnl
    rw [List.length_cons] at hN
    go_wp2_with (at_builtin; go_loud (refine wpList_append_lies _ rfl _ _ 23 rfl w.heap.size 9 i0 (.string { data := #[] }) 1 16 Tryz.underlying23 hi0 hz0 hz1 hz2 rfl (by decide) _ 0 _ rfl hown ⟨b, o, none⟩ (l.length + 1) C (((r :: l).map strRow1).flatMap Array.toList) rfl HNL.out HN2.out HONE.out (by omega) (by unfold maxLen; omega) (by omega) (by simp) _ rfl ?_); intro g cap w5 O5 G5 W5 L5)
    have hOL : ∀ S', OwnL StrRow S' w5 w.heap.size 9 1 (.slice (some ⟨g, 0, none⟩) (0 + (l.length + 1)) cap) (r :: l) := fun S' => by
      refine ⟨(r :: l).map strRow1, by simp, ?_, fun i hi hi' => ⟨by rw [List.getElem_map]; rfl, by rw [List.getElem_map]; rfl⟩⟩
      simpa using O5
    have hv : (Value.slice (some ⟨g, 0, none⟩) (0 + (l.length + 1)) cap) = .slice (some ⟨g, 0, none⟩) (l.length + 1) cap := by rw [Nat.zero_add]
    rw [hv] at hOL
    have KF := K0.grown G5 (fun x hx => .inr (by have hx : some w.heap.size = some x := hx; simp at hx; omega))
    have HOL := Lib.hid hOL
    clear O5 G5 W5 L5 hOL hown
    go_wp2
    go_ret
    refine ⟨⟨some ⟨g, 0, none⟩, cap, rfl, fun S' hS' => ?_⟩, KF⟩
    exact strs_back ((HOL.out S').read strRow_stab (fun x hx => .inl hx) (fun x hx hx' => by have h1 := ((HOL.out S').base x hx).1; have := hS' x hx'; omega))
end Go.Proofs.YtacihjabkiedcaaGreatDoor
/- Symbols are copied. -/
namespace Go.Proofs.YtacihjabkiedcaaGreatDoor
open Go Go.RowKit

theorem info_sym : (Tryz.prog.info? 39).map (fun i => (i.zero, i.size, i.bytes)) = some (some (.agg #[.int .i64 0, .slice none 0 0, .int .i64 0]), 3, 40) := by kernel_rfl
set_option maxRecDepth 20000 in
set_option maxHeartbeats 2000000 in
theorem symClone_any (S : List Nat) (v : Value) (l : List SymS) (w : World) (H : Syms S w v l) (hN : l.length ≤ 1000000) (hS : ∀ b ∈ S, b < w.heap.size) :
    Calls Tryz.prog 124 #[v] w fun e w' => (∃ v', e = .returned v' ∧ OwnL SymRow S w' w.heap.size 39 3 v' l) ∧ Keep [] w w' := by
  obtain ⟨rows, h1, h2, h3⟩ := H
  have H1 := h1
  obtain ⟨A, C, rfl, hm, hr⟩ := h1
  have qT : ∀ (w : World) (a : Option Addr) (n c n' c' : Nat), (binOp .eql 40 (.slice a n c) (.slice none n' c')).run Tryz.prog w = .ok (.bool a.isNone) w := fun w a n c n' c' => Lib.run_eql_slice_nil w _ _ a n c n' c' Tryz.underlying40
  cases rows with
  | nil =>
    have : l = [] := List.eq_nil_of_length_eq_zero (by simpa using h2.symm)
    subst this
    cases A with
    | none =>
      go_enter Tryz.func124, Tryz.ntmps124
      go_wp2
      go_ret
      exact ⟨⟨_, rfl, OwnL.nil _ _ _ _ _⟩, Keep.refl _ _⟩
    | some ad =>
      have hO : OwnL SymRow S (w.alloc (.cells #[] 39)) w.heap.size 39 3 (.slice (some ⟨w.heap.size, 0, none⟩) 0 0) [] :=
        ⟨[], rfl, ⟨rfl, .inr ⟨w.heap.size, 0, #[], rfl, Nat.le_refl _, Blk.new w #[] 39, by simp, by decide, rfl, rfl⟩⟩, fun i hi => absurd hi (by simp)⟩
      have HO := Lib.hid hO; clear hO
      go_enter Tryz.func124, Tryz.ntmps124
      go_wp2
      go_ret
      exact ⟨⟨_, rfl, HO.out⟩, (Keep.refl _ _).alloc _⟩
  | cons r rows =>
    obtain ⟨b, o, rfl, hb, hc⟩ := hr (by simp)
    have hnews := Sl.news (by omega) H1
    have hrs : ∀ i (h : i < (r :: rows).length), (r :: rows)[i].size = 3 := fun i hi => (hc i hi).1
    obtain ⟨i0, hi0, hz0, hz1, hz2⟩ := info_parts info_sym
    have HN := Lib.hid hnews; clear hnews hc hr
    rw [← h2] at hN
    have hone : ∀ u ∈ (r :: rows).flatMap Array.toList, u.oneCell' = true := fun u hu => by
      obtain ⟨x, hx, hu⟩ := List.mem_flatMap.1 hu
      obtain ⟨i, hi, rfl⟩ := List.getElem_of_mem hx
      obtain ⟨A3, C3, hrow, _⟩ := h3 i (by omega) hi
      rw [hrow] at hu
      simp at hu
      rcases hu with rfl | rfl | rfl <;> rfl
    have hnl : ((r :: rows).flatMap Array.toList).length = (rows.length + 1) * 3 := by rw [flat_len 3 _ hrs]; simp
    have hown : (w.alloc (.cells #[] 39)).ownsRow w.heap.size 39 3 (.slice (some ⟨w.heap.size, 0, none⟩) 0 0) 0 [] := ⟨rfl, .inr ⟨w.heap.size, 0, #[], rfl, Nat.le_refl _, Blk.new w #[] 39, by omega, by decide, rfl, rfl⟩⟩
    have K0 := (Keep.refl [] w).alloc (.cells #[] 39)
    have HN2 : Hid (∀ j u, ((r :: rows).flatMap Array.toList)[j]? = some u → (w.alloc (.cells #[] 39)).cell? ((⟨b, o, none⟩ : Addr).add j) = some u) := Lib.hid (fun j u h => K0.cell (HN.out j u h) (by simp))
    have HONE := Lib.hid hone; clear hone
    have HNL := Lib.hid hnl; clear hnl
    have H3 := Lib.hid h3; clear h3
    have HRS := Lib.hid hrs; clear hrs
    have H2 := Lib.hid h2; clear h2
    rw [List.length_cons] at hN
    go_enter Tryz.func124, Tryz.ntmps124
    go_wp2_with (at_builtin; go_loud (refine wpList_append_lies _ rfl _ _ 40 rfl w.heap.size 39 i0 (.agg #[.int .i64 0, .slice none 0 0, .int .i64 0]) 3 40 Tryz.underlying40 hi0 hz0 hz1 hz2 rfl (by decide) _ 0 _ rfl hown ⟨b, o, none⟩ (rows.length + 1) C ((r :: rows).flatMap Array.toList) rfl HNL.out HN2.out HONE.out (by omega) (by unfold maxLen; omega) (by omega) (by simp) _ rfl ?_); intro g cap w5 O5 G5 W5 L5)
    have KF := K0.grown G5 (fun x hx => .inr (by have hx : some w.heap.size = some x := hx; simp at hx; omega))
    have hg : w.heap.size ≤ g := by
      have W5' : some w.heap.size = some g ∨ g = _ := W5
      rcases W5' with h | h
      · simp at h; omega
      · rw [h]; simp
    have hOL : OwnL SymRow S w5 w.heap.size 39 3 (.slice (some ⟨g, 0, none⟩) (0 + (rows.length + 1)) cap) l := by
      refine ⟨r :: rows, H2.out, ?_, fun i hi hi' => ⟨HRS.out i hi', symRow_stab _ _ _ _ _ _ _ (H3.out i hi hi') KF (by simp) (fun x hx => ?_)⟩⟩
      · have e : l.length = 0 + (rows.length + 1) := by rw [← H2.out]; simp
        rw [e]
        simpa using O5
      · rcases List.mem_append.1 hx with h | h
        · have : x = g := by simpa [ownB, Value.ownBlock, eq_comm] using h
          exact .inr (by omega)
        · exact .inl h
    rw [Nat.zero_add] at hOL
    have HOL := Lib.hid hOL
    clear O5 G5 W5 L5 hOL hown
    go_wp2
    go_ret
    exact ⟨⟨_, rfl, HOL.out⟩, KF⟩
end Go.Proofs.YtacihjabkiedcaaGreatDoor
/- The maker's state in memory. -/
namespace Go.Proofs.YtacihjabkiedcaaGreatDoor
open Go Go.RowKit Go.MapKept

/-- The map of names: each rule's place. -/
def nameE (names : List ByteArray) : Array MapEntry := (names.mapIdx fun i x => (⟨.string x, .int .i64 i, i⟩ : MapEntry)).toArray
/-- The maker at block m with map mb and slice pv; v is a slice of symbols in the making. -/
structure MkAt (S : List Nat) (w : World) (base m mb : Nat) (names : List ByteArray) (pv v : Value) (st : MkS) (l : List SymS) : Prop where
  box : MkB (ownB pv ++ ownB v ++ S) w m mb pv st.bad
  prods : OwnL ProdRow (ownB v ++ S) w base 37 3 pv st.p
  syms : OwnL SymRow (ownB pv ++ S) w base 39 3 v l
  map : MapB w mb (nameE names) names.length
  inS : m ∈ S
  mlow : m < base
  low : ∀ x ∈ S, x < w.heap.size
  base : base ≤ w.heap.size

theorem OwnL.type {α : Type} {R : List Nat → World → α → Array Value → Prop} {S : List Nat} {w : World} {base : Nat} {E : TypeId} {k : Nat} {v : Value} {xs : List α} (h : OwnL R S w base E k v xs) : ∀ b ∈ ownB v, ∃ cs, w.heap[b]? = some (.cells cs E (0, 0)) := by
  obtain ⟨rows, _, h1, _⟩ := h
  intro b hb
  rcases h1.2 with ⟨rfl, _⟩ | ⟨g, cap, cur, rfl, _, hg, _⟩
  · simp [ownB, Value.ownBlock] at hb
  · have e : b = g := by simpa [ownB, Value.ownBlock, eq_comm] using hb
    subst e
    exact ⟨cur, hg⟩
theorem OwnL.apart {α β : Type} {R : List Nat → World → α → Array Value → Prop} {Q : List Nat → World → β → Array Value → Prop} {S S' : List Nat} {w : World} {base base' : Nat} {E F : TypeId} {k k' : Nat} {v u : Value} {xs : List α} {ys : List β}
    (h : OwnL R S w base E k v xs) (h' : OwnL Q S' w base' F k' u ys) (hEF : E ≠ F) : ∀ b ∈ ownB v, b ∉ ownB u := by
  intro b hb hb'
  obtain ⟨cs, e1⟩ := h.type b hb
  obtain ⟨ds, e2⟩ := h'.type b hb'
  rw [e1] at e2
  simp only [Option.some.injEq, Obj.cells.injEq] at e2
  exact hEF e2.2.1
theorem MkAt.notOwn {S : List Nat} {w : World} {base m mb : Nat} {names : List ByteArray} {pv v : Value} {st : MkS} {l : List SymS} (h : MkAt S w base m mb names pv v st l) : m ∉ ownB pv ∧ m ∉ ownB v := by
  have h1 := h.mlow
  refine ⟨fun hm => ?_, fun hm => ?_⟩
  · have := (h.prods.base m hm).1; omega
  · have := (h.syms.base m hm).1; omega
/-- Where nothing of it turns. -/
theorem MkAt.keep {S : List Nat} {w w' : World} {base m mb : Nat} {names : List ByteArray} {pv v : Value} {st : MkS} {l : List SymS} (h : MkAt S w base m mb names pv v st l) (K : Keep [] w w') : MkAt S w' base m mb names pv v st l :=
  ⟨h.box.move K (by simp) (fun x hx => .inl hx), h.prods.move prodRow_stab K (by simp) (fun x hx => .inl hx), h.syms.move symRow_stab K (by simp) (fun x hx => .inl hx), h.map.keep K (by simp), h.inS, h.mlow, fun x hx => Nat.lt_of_lt_of_le (h.low x hx) K.size, Nat.le_trans h.base K.size⟩
/-- Where T turns, nothing of it among T, and it lies beside S' then. -/
theorem MkAt.move {S T S' : List Nat} {w w' : World} {base m mb : Nat} {names : List ByteArray} {pv v : Value} {st : MkS} {l : List SymS} (h : MkAt S w base m mb names pv v st l) (K : Keep T w w')
    (hT : ∀ b ∈ T, (b ∈ S ∧ b ≠ m ∧ b ≠ mb ∧ b ∉ ownB pv ∧ b ∉ ownB v) ∨ w.heap.size ≤ b) (hS : ∀ b ∈ S', b ∈ S ∨ (w.heap.size ≤ b ∧ b < w'.heap.size)) (hm : m ∈ S') : MkAt S' w' base m mb names pv v st l := by
  have hml := h.map.lt
  refine ⟨h.box.move K (fun x hx => ?_) (fun x hx => ?_), h.prods.move prodRow_stab K (fun x hx => ?_) (fun x hx => ?_), h.syms.move symRow_stab K (fun x hx => ?_) (fun x hx => ?_), h.map.keep K (fun hx => ?_), hm, h.mlow, fun x hx => ?_, Nat.le_trans h.base K.size⟩
  · rcases hT x hx with ⟨h1, h2, _⟩ | h1
    · exact .inl ⟨by simp [h1], h2⟩
    · exact .inr h1
  · rcases List.mem_append.1 hx with h1 | h1
    · exact .inl (List.mem_append.2 (.inl h1))
    · rcases hS x h1 with h2 | h2
      · exact .inl (by simp [h2])
      · exact .inr h2.1
  · rcases hT x hx with ⟨h1, _, _, h2, _⟩ | h1
    · exact .inl ⟨by simp [h1], h2⟩
    · exact .inr h1
  · rcases List.mem_append.1 hx with h1 | h1
    · exact .inl (List.mem_append.2 (.inl h1))
    · rcases hS x h1 with h2 | h2
      · exact .inl (by simp [h2])
      · exact .inr h2.1
  · rcases hT x hx with ⟨h1, _, _, _, h2⟩ | h1
    · exact .inl ⟨by simp [h1], h2⟩
    · exact .inr h1
  · rcases List.mem_append.1 hx with h1 | h1
    · exact .inl (List.mem_append.2 (.inl h1))
    · rcases hS x h1 with h2 | h2
      · exact .inl (by simp [h2])
      · exact .inr h2.1
  · rcases hT mb hx with ⟨_, _, h1, _⟩ | h1
    · exact h1 rfl
    · omega
  · rcases hS x hx with h1 | h1
    · exact Nat.lt_of_lt_of_le (h.low x h1) K.size
    · exact h1.2
/-- Behind an append of a symbol. -/
theorem MkAt.push {S : List Nat} {w w5 : World} {base m mb g cap : Nat} {names : List ByteArray} {pv v : Value} {st : MkS} {l : List SymS} {x : SymS} {row : Array Value} (h : MkAt S w base m mb names pv v st l) (rows : List (Array Value)) (hlr : rows.length = l.length)
    (hel : ∀ i (hi : i < l.length) (hi' : i < rows.length), rows[i].size = 3 ∧ SymRow (ownB v ++ (ownB pv ++ S)) w l[i] rows[i]) (hx : SymRow (ownB v ++ (ownB pv ++ S)) w x row) (hr : row.size = 3)
    (O : w5.ownsRow base 39 3 (.slice (some ⟨g, 0, none⟩) (l.length + 1) cap) (l.length + 1) (rows.flatMap Array.toList ++ row.toList)) (G : w.grownBy w5 v.ownBlock) (W : v.ownBlock = some g ∨ g = w.heap.size) :
    MkAt S w5 base m mb names pv (.slice (some ⟨g, 0, none⟩) (l.length + 1) cap) st (l ++ [x]) := by
  have KG := Keep.ofGrown (v := v) G
  have hno := h.notOwn
  have hap := h.syms.apart h.prods (by decide)
  refine ⟨h.box.move KG (fun y hy => .inl ⟨by simp [hy], fun e => hno.2 (e ▸ hy)⟩) (fun y hy => ?_), h.prods.move prodRow_stab KG (fun y hy => .inl ⟨by simp [hy], hap y hy⟩) (own_new W), OwnL.append rows hlr hel symRow_stab hx hr O G W, h.map.keep KG (fun hm => ?_), h.inS, h.mlow, fun x hx => Nat.lt_of_lt_of_le (h.low x hx) KG.size, Nat.le_trans h.base KG.size⟩
  · rcases List.mem_append.1 hy with hy | hy
    · rcases List.mem_append.1 hy with hy | hy
      · exact .inl (by simp [hy])
      · rcases own_new (S := []) W y (List.mem_append.2 (.inl hy)) with h1 | h1
        · exact .inl (by rcases List.mem_append.1 h1 with h2 | h2; exact List.mem_append.2 (.inl (List.mem_append.2 (.inr h2))); simp at h2)
        · exact .inr h1
    · exact .inl (by simp [hy])
  · obtain ⟨cs, e⟩ := h.syms.type mb hm
    have e2 : w.heap[mb]? = some (.map (nameE names) names.length) := h.map
    rw [e] at e2
    cases e2
end Go.Proofs.YtacihjabkiedcaaGreatDoor
/- The maker finds a name. -/
namespace Go.Proofs.YtacihjabkiedcaaGreatDoor
open Go Go.RowKit Go.MapKept

def nameL (names : List ByteArray) (i : Nat) : List (ByteArray × Value) := names.mapIdx fun j x => (x, .int .i64 (i + j : Nat))
theorem nameL_cons (x : ByteArray) (l : List ByteArray) (i : Nat) : nameL (x :: l) i = (x, .int .i64 (i : Nat)) :: nameL l (i + 1) := by
  simp [nameL, List.mapIdx_cons, Nat.add_assoc, Nat.add_comm 1]
theorem idxOf_cons (x y : ByteArray) (l : List ByteArray) : nameAt (y :: l) x = if y = x then some 0 else (nameAt l x).map (· + 1) := by
  unfold nameAt
  rw [List.idxOf?_cons]
  by_cases h : y = x
  · subst h
    have : (y == y) = true := by rw [bytes_beq]
    simp [this]
  · have : (y == x) = false := by
      cases hb : y == x
      · rfl
      · exact absurd ((bytes_beq _ _).1 hb) h
    simp [this, h]
theorem look_name (x : ByteArray) : ∀ (names : List ByteArray) (i : Nat), lookS (.int .i64 0) (nameL names i) x = (match nameAt names x with | some n => .int .i64 (i + n : Nat) | none => .int .i64 0) ∧ ((∃ v, (x, v) ∈ nameL names i) ↔ (nameAt names x).isSome = true)
  | [], i => by simp [nameL, lookS, nameAt]
  | y :: l, i => by
    obtain ⟨h1, h2⟩ := look_name x l (i + 1)
    rw [nameL_cons, idxOf_cons]
    by_cases h : y = x
    · subst h
      simp [lookS]
    · rw [if_neg h]
      constructor
      · rw [lookS]
        simp only [h, if_false]
        rw [h1]
        cases nameAt l x with
        | none => rfl
        | some n => simp [Nat.add_assoc, Nat.add_comm 1]
      · have e : (∃ v, (x, v) ∈ (y, Value.int .i64 (i : Nat)) :: nameL l (i + 1)) ↔ ∃ v, (x, v) ∈ nameL l (i + 1) := by
          constructor
          · rintro ⟨v, hv⟩
            rcases List.mem_cons.1 hv with h3 | h3
            · exact absurd (by simp at h3; exact h3.1.symm) h
            · exact ⟨v, h3⟩
          · rintro ⟨v, hv⟩; exact ⟨v, List.mem_cons_of_mem _ hv⟩
        rw [e, h2]
        cases nameAt l x <;> simp
theorem name_look (w : World) (mb : Nat) (names : List ByteArray) (clk : Nat) (x : ByteArray) (hb : MapB w mb (nameE names) clk) :
    (Instr.lookup 103 (.map (some mb)) (.string x) true).run Tryz.prog w = .ok (.tuple #[.int .i64 ((nameAt names x).getD 0 : Nat), .bool (nameAt names x).isSome]) w := by
  obtain ⟨r, hf, hr, hs⟩ := findS (.int .i64 0) x (nameE names).toList (nameL names 0) 0 (by
    refine List.ext_getElem (by simp [nameE, nameL]) (fun i h1 h2 => ?_)
    simp [nameE, nameL])
  obtain ⟨h1, h2⟩ := look_name x names 0
  rw [run_lookup_at Tryz.underlying103 Tryz.underlying9 (isKey_str x) hb hf (z := .int .i64 0) (by kernel_rfl) true]
  have e1 : (r.map (·.2)).getD (.int .i64 0) = .int .i64 ((nameAt names x).getD 0 : Nat) := by
    rw [hr, h1]
    cases nameAt names x <;> simp
  have e2 : r.isSome = (nameAt names x).isSome := by
    cases h3 : r.isSome <;> cases h4 : (nameAt names x).isSome <;> simp_all
  simp [e1, e2]
end Go.Proofs.YtacihjabkiedcaaGreatDoor
/- The maker: parts that are no nonterminals of their own. -/
namespace Go.Proofs.YtacihjabkiedcaaGreatDoor
open Go Go.RowKit Go.MapKept

def PiecePost (S : List Nat) (base m mb : Nat) (names : List ByteArray) (pv v : Value) (w : World) (r : MkS × List SymS) (e : Ending) (w' : World) : Prop :=
  Keep (m :: (ownB pv ++ ownB v)) w w' ∧ ∃ pv' v', e = .returned v' ∧ MkAt S w' base m mb names pv' v' r.1 r.2 ∧ (∀ b ∈ ownB pv', b ∈ ownB pv ∨ w.heap.size ≤ b) ∧ ∀ b ∈ ownB v', b ∈ ownB v ∨ w.heap.size ≤ b

/-- Behind a turn of the maker's own block. -/
theorem MkAt.turn {S : List Nat} {w w' : World} {base m mb : Nat} {names : List ByteArray} {pv v : Value} {st : MkS} {l : List SymS} {bad : Option Err} (h : MkAt S w base m mb names pv v st l) (hb : MkB (ownB pv ++ ownB v ++ S) w' m mb pv bad) (K : Keep [m] w w') : MkAt S w' base m mb names pv v { st with bad := bad } l := by
  have hno := h.notOwn
  refine ⟨hb, h.prods.move prodRow_stab K (fun x hx => ?_) (fun x hx => .inl hx), h.syms.move symRow_stab K (fun x hx => ?_) (fun x hx => .inl hx), h.map.keep K (fun hm => ?_), h.inS, h.mlow, fun x hx => Nat.lt_of_lt_of_le (h.low x hx) K.size, Nat.le_trans h.base K.size⟩
  · simp at hx; subst hx; exact .inl ⟨by simp [h.inS], hno.1⟩
  · simp at hx; subst hx; exact .inl ⟨by simp [h.inS], hno.2⟩
  · simp at hm
    subst hm
    obtain ⟨bv, hB, _⟩ := h.box
    have e1 : w.heap[mb]? = some (.map (nameE names) names.length) := h.map
    have e2 : w.heap[mb]? = some (.cells _ _ (0, 0)) := hB
    rw [e1] at e2
    cases e2
theorem MkAt.all {S : List Nat} {w : World} {base m mb : Nat} {names : List ByteArray} {pv v : Value} {st : MkS} {l : List SymS} (h : MkAt S w base m mb names pv v st l) : ∀ x ∈ ownB pv ++ ownB v ++ S, x < w.heap.size := by
  intro x hx
  rcases List.mem_append.1 hx with hx | hx
  · rcases List.mem_append.1 hx with hx | hx
    · exact (h.prods.base x hx).2
    · exact (h.syms.base x hx).2
  · exact h.low x hx

set_option maxRecDepth 20000 in
set_option maxHeartbeats 4000000 in
theorem pieceCall_any (S : List Nat) (base m mb : Nat) (names : List ByteArray) (pv v : Value) (st : MkS) (l : List SymS) (t : ByteArray) (r : List Rng) (ch : List PartS) (a : Int) (row : Array Value) (d : Nat) (w : World) (hN : l.length ≤ 1000000) (H : MkAt S w base m mb names pv v st l)
    (hp : PartAt (ownB pv ++ ownB v ++ S) w (.mk 0 t r ch a) row) :
    Calls Tryz.prog 123 #[.pointer (some ⟨m, 0, none⟩), v, .agg row] w (PiecePost S base m mb names pv v w (pieceF names (d + 1) st l (.mk 0 t r ch a))) := by
  cases hp with
  | mk _ _ _ _ _ rv lv rows hr hl hn hpp =>
    obtain ⟨A, C, rfl, _⟩ := hr
    obtain ⟨B, D, rfl, _⟩ := hl
    rw [List.length_map, hn]
    have hmf : ∀ (fn : Fn) (first cap : Array Value) (w : World), (Instr.makeFunc fn first cap).run Tryz.prog w = .ok (.func fn first cap) w := fun _ _ _ _ => rfl
    have K0 := (Keep.refl [] w).alloc (.cells #[.int .i64 0, .string t, .slice A r.length C, .slice B ch.length D, .int .i64 a] 98)
    have H0 := H.keep K0
    have HB := H0.box
    obtain ⟨bv, hB, hb⟩ := HB
    have c0 := hB.cell 0
    have hlk := fun n => name_look (World.drewN _ n) mb names _ t (H0.map.drewN n)
    have B0 := Blk.new w #[.int .i64 0, .string t, .slice A r.length C, .slice B ch.length D, .int .i64 a] 98
    go_enter Tryz.func123, Tryz.ntmps123
    go_wp2
    go_quiet (fail)
    go_wp2_with fail
    have H1 := H0.keep ((Keep.refl [] _).drewN nq)
    have K1 := K0.drewN nq
    refine (ffail_any (ownB pv ++ ownB v ++ S) m mb pv st.bad _ 5 a _ H1.box (by simp [H.inS]) H1.all).mono ?_
    rintro e w2 ⟨rfl, hb2, K2⟩
    have H2 := H1.turn hb2 K2
    have KF := (K1.mono (S' := m :: (ownB pv ++ ownB v)) (by simp)).trans (K2.mono (by simp))
    obtain ⟨A2, C2, hv⟩ := H2.syms.slice
    subst hv
    cases hn : nameAt names t with
    | none =>
      rw [hn] at H2
      go_wp2
      go_ret
      refine ⟨KF, pv, _, rfl, ?_, fun b hb => .inl hb, fun b hb => .inl hb⟩
      simpa [pieceF, hn, MkS.fail] using H2
    | some n =>
      rw [hn] at H2
      have H2' : MkAt S w2 base m mb names pv (.slice A2 l.length C2) st l := by simpa [failR] using H2
      have hsy := H2'.syms
      obtain ⟨rows2, hlr, hown, hel⟩ := hsy
      obtain ⟨i0, hi0, hz0, hz1, hz2⟩ := info_parts info_sym
      have HEL := Lib.hid hel; clear hel
      have hlen : l.length ≤ 1000000 := hN
      go_wp2_with (at_builtin; go_loud (refine wpList_append_lies _ rfl _ _ 40 rfl base 39 i0 (.agg #[.int .i64 0, .slice none 0 0, .int .i64 0]) 3 40 Tryz.underlying40 hi0 hz0 hz1 hz2 rfl (by decide) _ l.length _ rfl (hown.alloc _) ⟨w2.heap.size, 0, none⟩ 1 1 [.int .i64 2, .slice none 0 0, .int .i64 n] rfl rfl (World.news_of_block (Blk.new' _ _ _ (by simp))) (by simp [Value.oneCell']) (by decide) (by unfold maxLen; omega) (by omega) (by have := H2'.base; simp; omega) _ rfl ?_); intro g cap w5 O5 G5 W5 L5)
      have K3 := (Keep.refl [] w2).alloc (.cells #[.int .i64 2, .slice none 0 0, .int .i64 n] 39)
      have H3 := H2'.keep K3
      have hx : SymRow (ownB (.slice A2 l.length C2) ++ (ownB pv ++ S)) (w2.alloc (.cells #[.int .i64 2, .slice none 0 0, .int .i64 n] 39)) ⟨2, [], n⟩ #[.int .i64 2, .slice none 0 0, .int .i64 n] := ⟨none, 0, rfl, Sl.nil _ _ _⟩
      have H5 := H3.push rows2 hlr (fun i hi hi' => ⟨(HEL.out i hi hi').1, symRow_stab _ _ _ _ _ _ _ (HEL.out i hi hi').2 K3 (by simp) (fun x hx => .inl hx)⟩) hx rfl O5 G5 W5
      have KG := Keep.ofGrown (v := .slice A2 l.length C2) G5
      have W5' : (Value.slice A2 l.length C2).ownBlock = some g ∨ g = (w2.alloc (.cells #[.int .i64 2, .slice none 0 0, .int .i64 n] 39)).heap.size := W5
      clear O5 G5 L5
      go_wp2
      go_ret
      refine ⟨(KF.trans (K3.mono (by simp))).trans (KG.mono (fun x hx => .inl (by simp [hx]))), pv, _, rfl, ?_, fun b hb => .inl hb, fun b hb => ?_⟩
      · simpa [pieceF, hn] using H5
      · rcases own_new (S := []) W5' b (List.mem_append.2 (.inl hb)) with h | h
        · exact .inl (by simpa using h)
        · exact .inr (by have := KF.size; simp at h; omega)
end Go.Proofs.YtacihjabkiedcaaGreatDoor
