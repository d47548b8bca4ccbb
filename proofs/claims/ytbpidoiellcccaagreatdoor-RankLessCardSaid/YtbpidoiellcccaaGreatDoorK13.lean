/- The maker: fill's closure, one child's symbols. -/
import Derived.Test.YtbpidoiellcccaaGreatDoorK12
import Derived.StillTailTactics
import Derived.Laws.OwnMore
import Derived.Test.YtbpidoiellcccaaGreatDoorK11
import Derived.Deep.RegionLaw
set_option linter.unusedVariables false
set_option linter.unusedSimpArgs false
namespace Go.Proofs.YtbpidoiellcccaaGreatDoor
open Go Go.RowKit Go.MapKept

/-- Where no symbols are in the making. -/
theorem MkAt.forget {S : List Nat} {w : World} {base m mb : Nat} {names : List ByteArray} {pv v : Value} {st : MkS} {l : List SymS} (h : MkAt S w base m mb names pv v st l) : MkAt S w base m mb names pv (.slice none 0 0) st [] :=
  ⟨h.box.move (Keep.refl [] w) (by simp) (fun x hx => .inl (by simp [ownB, Value.ownBlock] at hx ⊢; rcases hx with h | h <;> simp [h])), h.prods.move prodRow_stab (Keep.refl [] w) (by simp) (fun x hx => .inl (by simp [ownB, Value.ownBlock] at hx ⊢; simp [hx])), OwnL.nil _ _ _ _ _, h.map, h.inS, h.mlow, h.low, h.base⟩

set_option maxRecDepth 20000 in
set_option maxHeartbeats 4000000 in
theorem fone_any (S : List Nat) (base m mb b3 b5 : Nat) (names : List ByteArray) (pv : Value) (st : MkS) (d : Nat) (k a : Int) (t : ByteArray) (rv : Value) (B : Option Addr) (D : Nat) (ch : List PartS) (i : Nat) (w : World) (hi : i ≤ 1000000) (H : MkAt S w base m mb names pv (.slice none 0 0) st [])
    (B3 : Blk w b3 #[.pointer (some ⟨m, 0, none⟩)] 89) (B5 : Blk w b5 #[.int .i64 k, .string t, rv, .slice B ch.length D, .int .i64 a] 85) (hch : SlOf PartAt (ownB pv ++ S) w 5 (.slice B ch.length D) ch)
    (ih : ∀ x ∈ ch, PieceAt S base m mb names d x) (hw : ∀ x ∈ ch, wtF d x ≤ 1000000) :
    Calls Tryz.prog 102 #[.int .i64 i, .pointer (some ⟨b3, 0, none⟩), .pointer (some ⟨b5, 0, none⟩)] w (PiecePost S base m mb names pv (.slice none 0 0) w (oneF (pieceF names d) st ch i)) := by
  have H' := H.box
  obtain ⟨bv, hB, hbad⟩ := H'
  have c2 := hB.cell 2
  have c2' : w.cell? ⟨m, 2, none⟩ = some bv := c2
  have c3 := B3.cell 0
  have c3' : w.cell? ⟨b3, 0, none⟩ = some (.pointer (some ⟨m, 0, none⟩)) := c3
  have c5 := B5.cell 3
  have c5' : w.cell? ⟨b5, 3, none⟩ = some (.slice B ch.length D) := c5
  clear c2 c3 c5
  have fin : ∀ bb : Option Addr, PiecePost S base m mb names pv (.slice none 0 0) w (st, []) (.returned (.slice none 0 0)) w := fun _ => ⟨Keep.refl _ _, pv, _, rfl, H, fun b hb => .inl hb, fun b hb => .inl hb⟩
  obtain ⟨_, _, hveq, hlen, hc⟩ := SlOf.at hch
  have hlen2 : ch.length ≤ 9223372036854775807 := hlen.1
  cases hbd : st.bad with
  | some x =>
    rw [hbd] at hbad
    obtain ⟨bb, rfl, _, _⟩ := hbad
    have hr : oneF (pieceF names d) st ch i = (st, []) := by unfold oneF; cases ch[i]? <;> simp [hbd]
    rw [hr]
    have hqq : ∀ (b : Nat) (w : World), (binOp .neq 91 (.pointer (some ⟨b, 0, none⟩)) (.pointer none)).run Tryz.prog w = .ok (.bool true) w := fun _ _ => by kernel_rfl
    clear hc hlen hveq hch H ih hw hbd
    go_enter Tryz.func102, Tryz.ntmps102
    go_wp2
    go_ret
    exact fin none
  | none =>
    rw [hbd] at hbad
    have hbv : bv = .pointer none := hbad
    subst hbv
    have hqq : ∀ (w : World), (binOp .neq 91 (.pointer none) (.pointer none)).run Tryz.prog w = .ok (.bool false) w := fun _ => by kernel_rfl
    by_cases hlt : i < ch.length
    · simp only [Value.slice.injEq, true_and] at hveq
      obtain ⟨rfl, rfl⟩ := hveq
      obtain ⟨b, o, rfl, hb, hcc⟩ := hc (by omega)
      obtain ⟨prow, hz, hcell, hR⟩ := hcc i hlt
      have hR' := hR
      obtain ⟨k', t', A', n', C', B', m', D', a', rfl, hk', ha'⟩ := PartAt.form hR'
      have e0 := hcell 0 (by omega)
      have e1 := hcell 1 (by omega)
      have e2 := hcell 2 (by omega)
      have e3 := hcell 3 (by omega)
      have e4 := hcell 4 (by omega)
      clear hcell hcc hc hR' hk' ha' hz
      simp at e0 e1 e2 e3 e4
      have hr : oneF (pieceF names d) st ch i = pieceF names d st [] ch[i] := by simp [oneF, hlt, hbd]
      rw [hr]
      have hlt' : (i : Int) < (ch.length : Int) := by omega
      have hmem : ch[i] ∈ ch := List.getElem_mem _
      generalize ch[i] = x at hR hr hmem ⊢
      have hcall := fun w' => (ih x hmem pv (.slice none 0 0) st [] #[.int .i64 k', .string t', .slice A' n' C', .slice B' m' D', .int .i64 a'] w' (by have := hw x hmem; simpa using this))
      have HC := Lib.hid hcall
      have HH := Lib.hid H
      have HR := Lib.hid hR
      have HLT := Lib.hid hlt
      clear hcall hch H ih hw hbd hr hR hlt fin hmem
      go_enter Tryz.func102, Tryz.ntmps102
      go_wp2
      go_still_tail 6, (by kernel_rfl)
      have KD := (Keep.refl [] w).drew
      go_wp2_with fail
      refine (HC.out _ (HH.out.keep KD) (by simpa [ownB, Value.ownBlock] using partAt_stab _ _ _ _ _ _ _ HR.out KD (by simp) (fun x hx => .inl hx))).1.mono ?_
      rintro e w3 ⟨K3, pv3, v3, rfl, H3, hp3, hv3⟩
      go_wp2
      go_ret
      exact ⟨(KD.mono (by simp)).trans K3, pv3, v3, rfl, H3, hp3, hv3⟩
    · have hr : oneF (pieceF names d) st ch i = (st, []) := by unfold oneF; rw [List.getElem?_eq_none (by omega)]
      rw [hr]
      have hlt' : (ch.length : Int) ≤ (i : Int) := by omega
      clear hc hlen hveq hch H ih hw hbd hr hlt
      go_enter Tryz.func102, Tryz.ntmps102
      go_wp2
      go_ret
      exact fin none
end Go.Proofs.YtbpidoiellcccaaGreatDoor
namespace Go.Proofs.YtbpidoiellcccaaGreatDoor
open Go Go.RowKit Go.MapKept

theorem flat_set (k : Nat) (u : Value) : ∀ (rows : List (Array Value)) (i j : Nat) (hi : i < rows.length) (_ : ∀ n (h : n < rows.length), rows[n].size = k) (_ : j < k),
    (rows.flatMap Array.toList).set (i * k + j) u = (rows.set i (rows[i].setIfInBounds j u)).flatMap Array.toList
  | [], i, j, hi, _, _ => absurd hi (by simp)
  | a :: rows, 0, j, hi, hs, hj => by
    have ha : a.size = k := hs 0 (by simp)
    simp only [List.flatMap_cons, Nat.zero_mul, Nat.zero_add, List.set_cons_zero, List.getElem_cons_zero, Array.toList_setIfInBounds]
    rw [List.set_append_left _ _ (by simp [ha, hj])]
  | a :: rows, i + 1, j, hi, hs, hj => by
    have ha : a.size = k := hs 0 (by simp)
    have ih := flat_set k u rows i j (by simpa using hi) (fun n h => hs (n + 1) (by simpa using h)) hj
    simp only [List.flatMap_cons, List.set_cons_succ, List.getElem_cons_succ]
    rw [List.set_append_right _ _ (by simp [ha, Nat.succ_mul]; omega), ← ih]
    congr 2
    simp [ha, Nat.succ_mul]; omega
theorem OwnL.poke {α : Type} {R : List Nat → World → α → Array Value → Prop} (st : Stab R) {S : List Nat} {w : World} {base : Nat} {E : TypeId} {k g n cap : Nat} {xs : List α} (h : OwnL R S w base E k (.slice (some ⟨g, 0, none⟩) n cap) xs) (i j : Nat) (hi : i < xs.length) (hj : j < k) (u : Value) (x' : α)
    (hx : ∀ row : Array Value, row.size = k → R (g :: S) w xs[i] row → R (g :: S) w x' (row.setIfInBounds j u)) :
    OwnL R S (w.setCell ⟨g, i * k + j, none⟩ u) base E k (.slice (some ⟨g, 0, none⟩) n cap) (xs.set i x') := by
  obtain ⟨A, C, hv⟩ := h.slice
  simp only [Value.slice.injEq] at hv
  obtain ⟨rfl, rfl, rfl⟩ := hv
  obtain ⟨rows, h1, h2, h3⟩ := h
  have hob : ownB (.slice (some ⟨g, 0, none⟩) xs.length cap) = [g] := rfl
  have K := (Keep.refl [g] w).setCell (p := ⟨g, i * k + j, none⟩) (by simp) u
  have hs := (h2.stored (i * k + j) u).1
  have hr : i < rows.length := by omega
  refine ⟨rows.set i (rows[i].setIfInBounds j u), by simp [h1], ?_, fun m hm hm' => ?_⟩
  · rw [← flat_set k u rows i j hr (fun m hm => (h3 m (by omega) hm).1) hj, List.length_set]
    exact hs
  · rw [hob]
    rw [hob] at h3
    by_cases e : i = m
    · subst e
      rw [List.getElem_set_self, List.getElem_set_self]
      exact ⟨by simp [(h3 i hi hr).1], st _ _ _ _ _ _ _ (hx rows[i] (h3 i hi hr).1 (h3 i hi hr).2) K (by simp) (fun x hx => .inl hx)⟩
    · rw [List.getElem_set_ne e, List.getElem_set_ne e]
      simp at hm hm'
      exact ⟨(h3 m hm hm').1, st _ _ _ _ _ _ _ (h3 m hm hm').2 K (by simp) (fun x hx => .inl hx)⟩
theorem modify_set {α : Type} (f : α → α) (xs : List α) (n : Nat) (h : n < xs.length) : xs.modify n f = xs.set n (f xs[n]) := by
  apply List.ext_getElem?
  intro i
  rw [List.getElem?_modify, List.getElem?_set]
  by_cases e : n = i
  · subst e; simp [h]
  · simp [e]

/-- The alternative is too long. -/
def longB (l : List SymS) : Bool := decide (40 < l.length)
set_option maxHeartbeats 1000000 in
theorem ftwo_any (A : Option Addr) (n C : Nat) (w : World) (hn : n ≤ 9223372036854775807) :
    Calls Tryz.prog 105 #[.slice A n C] w fun e w' => e = .returned (.bool (decide (40 < n))) ∧ w' = w := by
  go_enter Tryz.func105, Tryz.ntmps105
  go_wp2
  go_ret
  have e : decide ((40 : Int) < (n : Int)) = decide (40 < n) := by rw [Bool.eq_iff_iff]; simp; omega
  rw [e]
  exact ⟨rfl, rfl⟩
theorem ftwo_pred (S : List Nat) (w : World) : Pred AltRow S w 105 #[] (fun row => row.getD 0 undef) longB := by
  refine ⟨fun args w => by kernel_rfl, fun l row w' K h => ?_⟩
  obtain ⟨A, C, rfl, h1⟩ := h
  obtain ⟨_, _, he, hm, _⟩ := SlOf.at h1
  refine (ftwo_any A l.length C w' hm.1).mono ?_
  rintro e w2 ⟨rfl, rfl⟩
  exact ⟨rfl, Keep.refl _ _⟩
end Go.Proofs.YtbpidoiellcccaaGreatDoor
namespace Go.Proofs.YtbpidoiellcccaaGreatDoor
open Go Go.RowKit Go.MapKept

def FillPost (S : List Nat) (base m mb : Nat) (names : List ByteArray) (pv : Value) (w : World) (st : MkS) (e : Ending) (w' : World) : Prop :=
  Keep (m :: ownB pv) w w' ∧ ∃ pv', e = .returned (.tuple #[]) ∧ MkAt S w' base m mb names pv' (.slice none 0 0) st [] ∧ (∀ b ∈ ownB pv', b ∈ ownB pv ∨ w.heap.size ≤ b)
/-- The head of a round of fill's loop over the alternatives; n0 is where the call's own blocks begin. -/
def FillAt (S : List Nat) (base m mb : Nat) (names : List ByteArray) (pv : Value) (q : MkS × List (List SymS)) (cells : Array Value) (ch : List PartS) (cv : Value) (w : World) (av : Value) (wr : World) : Prop :=
  ∃ pvk, Keep (m :: ownB pv) w wr ∧ MkAt (ownB av ++ S) wr base m mb names pvk (.slice none 0 0) q.1 [] ∧ OwnL AltRow (ownB pvk ++ S) wr base 44 1 av q.2 ∧ (∀ b ∈ ownB pvk, b ∈ ownB pv ∨ w.heap.size ≤ b) ∧ (∀ b ∈ ownB av, w.heap.size ≤ b) ∧
    SlOf PartAt (ownB pvk ++ (ownB av ++ S)) wr 5 cv ch ∧ Blk wr w.heap.size #[.pointer (some ⟨m, 0, none⟩)] 89 ∧ Blk wr (w.heap.size + 1) cells 85
theorem altsF_len (part : MkS → List SymS → PartS → MkS × List SymS) (ch : List PartS) (r : MkS × List (List SymS)) : ∀ n, (altsF part ch n r).2.length = r.2.length + n
  | 0 => rfl
  | n + 1 => by simp [altsF, altsF_len part ch r n]; omega
theorem info_alt : (Tryz.prog.info? 44).map (fun i => (i.zero, i.size, i.bytes)) = some (some (.slice none 0 0), 1, 24) := by kernel_rfl

theorem OwnL.ofPos {α : Type} {R : List Nat → World → α → Array Value → Prop} {S : List Nat} {w : World} {base : Nat} {E : TypeId} {k : Nat} {v : Value} {xs : List α} (h : OwnL R S w base E k v xs) (h0 : 0 < xs.length) : ∃ g cap, v = .slice (some ⟨g, 0, none⟩) xs.length cap := by
  obtain ⟨rows, _, h1, _⟩ := h
  rcases h1.2 with ⟨_, h2⟩ | ⟨g, cap, cur, h, _⟩
  · omega
  · exact ⟨g, cap, h⟩
theorem OwnL.cellEx {α : Type} {R : List Nat → World → α → Array Value → Prop} {S : List Nat} {w : World} {base : Nat} {E : TypeId} {k g n cap : Nat} {xs : List α} (h : OwnL R S w base E k (.slice (some ⟨g, 0, none⟩) n cap) xs) (j : Nat) (hj : j < xs.length * k) :
    ∃ u, w.cell? ⟨g, j, none⟩ = some u ∧ w.frozen? ⟨g, j, none⟩ = false := by
  obtain ⟨A, C, hv⟩ := h.slice
  simp only [Value.slice.injEq] at hv
  obtain ⟨rfl, rfl, rfl⟩ := hv
  obtain ⟨rows, h1, h2, h3⟩ := h
  have hfl : (rows.flatMap Array.toList).length = xs.length * k := by rw [flat_len k _ (fun i hi => (h3 i (by omega) hi).1), h1]
  have cA := h2.cellAt j hj
  rw [List.getElem?_eq_getElem (by omega)] at cA
  exact ⟨_, cA, h2.frozenAt j⟩
theorem oneF_p (part : MkS → List SymS → PartS → MkS × List SymS) (ch : List PartS) (hp : ∀ x ∈ ch, ∀ st l, st.p.length ≤ (part st l x).1.p.length) (st : MkS) (i : Nat) : st.p.length ≤ (oneF part st ch i).1.p.length := by
  unfold oneF
  split
  · exact Nat.le_refl _
  · rename_i x hx
    have hm : x ∈ ch := List.mem_of_getElem? hx
    split
    · exact hp x hm _ _
    · exact Nat.le_refl _
theorem altsF_p (part : MkS → List SymS → PartS → MkS × List SymS) (ch : List PartS) (hp : ∀ x ∈ ch, ∀ st l, st.p.length ≤ (part st l x).1.p.length) (r : MkS × List (List SymS)) : ∀ n, r.1.p.length ≤ (altsF part ch n r).1.p.length
  | 0 => Nat.le_refl _
  | n + 1 => Nat.le_trans (altsF_p part ch hp r n) (oneF_p part ch hp _ n)
/-- What fill tells wrong of alternatives. -/
def badAlts (q : List (List SymS)) : Bool := decide (q.length = 0) || decide (8 < q.length) || q.any longB
/-- Behind the store of the alternatives. -/
theorem fill_fin (S : List Nat) (base m mb : Nat) (names : List ByteArray) (q1 : MkS) (q2 : List (List SymS)) (n gp capp : Nat) (A : Option Addr) (C : Nat) (a : Int) (w3 w4 : World) (hn : n < q1.p.length) (hm : m ∈ S) (hAS : ∀ x ∈ ownB (.slice A q2.length C), x ∉ S)
    (H3 : MkAt (ownB (.slice A q2.length C) ++ S) w3 base m mb names (.slice (some ⟨gp, 0, none⟩) q1.p.length capp) (.slice none 0 0) q1 []) (HO3 : OwnL AltRow (ownB (.slice (some ⟨gp, 0, none⟩) q1.p.length capp) ++ S) w3 base 44 1 (.slice A q2.length C) q2)
    (hb4 : MkB (ownB (.slice (some ⟨gp, 0, none⟩) q1.p.length capp) ++ ownB (.slice none 0 0) ++ (ownB (.slice A q2.length C) ++ S)) w4 m mb (.slice (some ⟨gp, 0, none⟩) q1.p.length capp) (failR (badAlts q2) (7, a) q1.bad)) (K4 : Keep [m] w3 w4) :
    MkAt S (w4.setCell ⟨gp, n * 3 + 0, none⟩ (.slice A q2.length C)) base m mb names (.slice (some ⟨gp, 0, none⟩) q1.p.length capp) (.slice none 0 0) { p := q1.p.modify n (fun x => { x with a := q2 }), bad := failR (badAlts q2) (7, a) q1.bad } [] := by
  have H4 := H3.turn hb4 K4
  have hmA : m ∉ ownB (.slice A q2.length C) := fun h => by have h1 := (HO3.base m h).1; have := H3.mlow; omega
  have hmp := H3.notOwn.1
  have HO4 := HO3.move altRow_stab (S' := ownB (.slice (some ⟨gp, 0, none⟩) q1.p.length capp) ++ S) K4 (fun x hx => by simp at hx; subst hx; exact .inl ⟨by simp [hm], hmA⟩) (fun x hx => .inl hx)
  have hob : ownB (.slice (some ⟨gp, 0, none⟩) q1.p.length capp) = [gp] := rfl
  have KS := (Keep.refl [gp] w4).setCell (p := ⟨gp, n * 3 + 0, none⟩) (by simp) (.slice A q2.length C)
  have hrd : Alts (gp :: S) w4 (.slice A q2.length C) q2 := HO4.read altRow_stab (fun x hx => .inl (by rw [hob]; simpa using hx)) (fun x hx hx' => by
    rcases List.mem_cons.1 hx' with rfl | h
    · exact HO4.apart H4.prods (by decide) _ hx (by rw [hob]; simp)
    · exact hAS x hx h)
  have hP : OwnL ProdRow S w4 base 41 3 (.slice (some ⟨gp, 0, none⟩) q1.p.length capp) q1.p := H4.prods.move prodRow_stab (Keep.refl [] w4) (by simp) (fun x hx => .inl (by simp [ownB, Value.ownBlock] at hx ⊢; simp [hx]))
  have hP2 := hP.poke prodRow_stab n 0 hn (by omega) (.slice A q2.length C) { q1.p[n] with a := q2 } (fun row hr h => by
    obtain ⟨A', C', N, F, rfl, h1, h2⟩ := h
    exact ⟨A, C, N, F, by simp, hrd, h2⟩)
  have hlen : (q1.p.set n { q1.p[n] with a := q2 }).length = q1.p.length := by simp
  rw [modify_set _ _ _ hn]
  refine ⟨hb4.move KS (fun x hx => ?_) (fun x hx => ?_), by simpa [ownB, Value.ownBlock] using hP2, OwnL.nil _ _ _ _ _, H4.map.keep KS (fun hx => ?_), hm, H4.mlow, fun x hx => ?_, Nat.le_trans H4.base KS.size⟩
  · simp at hx; subst hx
    exact .inl ⟨by simp [hob], fun e => hmp (by rw [hob]; simp [e])⟩
  · exact .inl (by simp at hx ⊢; rcases hx with h | h | h <;> simp [h])
  · simp at hx
    obtain ⟨cs, e1⟩ := H4.prods.type mb (by rw [hob]; simp [hx])
    have e2 := H4.map
    unfold MapB at e2
    rw [e1] at e2
    cases e2
  · exact Nat.lt_of_lt_of_le (H4.low x (by simp [hx])) KS.size

set_option maxRecDepth 20000 in
set_option maxHeartbeats 4000000 in
theorem fillOr_any (S : List Nat) (base m mb : Nat) (names : List ByteArray) (pv : Value) (st : MkS) (d n : Nat) (t : ByteArray) (r : List Rng) (ch : List PartS) (a : Int) (row : Array Value) (w : World) (hn : n < st.p.length) (hp60 : st.p.length ≤ 1000000) (hch : ch.length ≤ 1000000) (hpl : ∀ x ∈ ch, ∀ st l, st.p.length ≤ (pieceF names d st l x).1.p.length)
    (ih : ∀ S, ∀ x ∈ ch, PieceAt S base m mb names d x) (hw : ∀ x ∈ ch, wtF d x ≤ 1000000) (H : MkAt S w base m mb names pv (.slice none 0 0) st []) (hp : PartAt (ownB pv ++ S) w (.mk 5 t r ch a) row) :
    Calls Tryz.prog 72 #[.pointer (some ⟨m, 0, none⟩), .int .i64 n, .agg row] w (FillPost S base m mb names pv w (fillF (pieceF names d) st n (.mk 5 t r ch a))) := by
  cases hp with
  | mk _ _ _ _ _ rv lv rows hr hl hn' hpp =>
    have hch0 : SlOf PartAt (ownB pv ++ S) w 5 lv ch := ⟨rows, hl, hn', hpp⟩
    obtain ⟨A, C, rfl, _⟩ := hr
    obtain ⟨B, D, rfl, _⟩ := hl
    rw [List.length_map]
    rw [hn'] at hch0 ⊢
    have hmf : ∀ (fn : Fn) (first cap : Array Value) (w : World), (Instr.makeFunc fn first cap).run Tryz.prog w = .ok (.func fn first cap) w := fun _ _ _ _ => rfl
    have K0 := (((Keep.refl [] w).alloc (.cells #[.pointer (some ⟨m, 0, none⟩)] 89)).alloc (.cells #[.int .i64 5, .string t, .slice A r.length C, .slice B ch.length D, .int .i64 a] 85)).alloc (.cells #[.int .i64 2, .slice none 0 0, .int .i64 n] 43)
    have B3 := ((Blk.new w #[.pointer (some ⟨m, 0, none⟩)] 89).alloc (.cells #[.int .i64 5, .string t, .slice A r.length C, .slice B ch.length D, .int .i64 a] 85)).alloc (.cells #[.int .i64 2, .slice none 0 0, .int .i64 n] 43)
    have B5 := (Blk.new' (w.alloc (.cells #[.pointer (some ⟨m, 0, none⟩)] 89)) #[.int .i64 5, .string t, .slice A r.length C, .slice B ch.length D, .int .i64 a] 85 (b := w.heap.size + 1) (by simp)).alloc (.cells #[.int .i64 2, .slice none 0 0, .int .i64 n] 43)
    have hT0 : FillAt S base m mb names pv (altsF (pieceF names d) ch 0 (st, [])) #[.int .i64 5, .string t, .slice A r.length C, .slice B ch.length D, .int .i64 a] ch (.slice B ch.length D) w (.slice none 0 0) _ :=
      ⟨pv, K0.mono (by simp), H.keep K0, OwnL.nil _ _ _ _ _, fun b hb => .inl hb, fun b hb => by simp [ownB, Value.ownBlock] at hb, SlOf.move hch0 partAt_stab (by omega) K0 (by simp) (fun x hx => .inl (by simpa [ownB, Value.ownBlock] using hx)), B3, B5⟩
    have HT0 := Lib.hid hT0
    have hbw := H.base
    have hlen2 : ch.length ≤ 9223372036854775807 := by omega
    have IH := Lib.hid ih
    have HW := Lib.hid hw
    have HML := Lib.hid H.mlow
    have HIN := Lib.hid H.inS
    have HLOW := Lib.hid H.low
    have HMW : Hid (m < w.heap.size) := Lib.hid (Nat.lt_of_lt_of_le H.mlow H.base)
    have HPL := Lib.hid hpl
    clear hT0 hpp hn' hch0 H K0 ih hw B3 B5 hpl
    go_enter Tryz.func72, Tryz.ntmps72
    go_wp2
    go_loopw [6, 26] (fun av i wr => ∃ k : Nat, k ≤ ch.length ∧ i = .int .i64 k ∧ FillAt S base m mb names pv (altsF (pieceF names d) ch k (st, [])) #[.int .i64 5, .string t, .slice A r.length C, .slice B ch.length D, .int .i64 a] ch (.slice B ch.length D) w av wr) (fun _ i _ => ch.length - (intOf i).toNat)
    case atStart => exact ⟨0, by omega, rfl, HT0.out⟩
    case round =>
      obtain ⟨k, hk, rfl, pvk, K1, H1, HO1, hop, hoa, hc1, B3, B5⟩ := hrel
      clear HT0
      have hql := altsF_len (pieceF names d) ch (st, []) k
      have HQS : Hid (altsF (pieceF names d) ch (k + 1) (st, []) = ((oneF (pieceF names d) (altsF (pieceF names d) ch k (st, [])).1 ch k).1, (altsF (pieceF names d) ch k (st, [])).2 ++ [(oneF (pieceF names d) (altsF (pieceF names d) ch k (st, [])).1 ch k).2])) := Lib.hid rfl
      generalize hq : altsF (pieceF names d) ch k (st, []) = q at H1 HO1 hql HQS
      obtain ⟨q1, q2⟩ := q
      have hql2 : q2.length ≤ 1000000 := by simp at hql; omega
      have HQ := Lib.hid hq; clear hq hql
      by_cases hlt : k < ch.length
      · have hlt' : (k : Int) < (ch.length : Int) := by omega
        have HLT := Lib.hid hlt
        have hcall := fone_any (ownB u6 ++ S) base m mb w.heap.size (w.heap.size + 1) names pvk q1 d 5 a t (.slice A r.length C) B D ch k wr (by omega) H1 B3 B5 hc1 (IH.out _) HW.out
        have HC := Lib.hid hcall; clear hcall
        go_wp2_with fail
        refine HC.out.mono ?_
        rintro e w3 ⟨K3, pv3, v3, rfl, H3, hp3, hv3⟩
        clear HC
        generalize ho : oneF (pieceF names d) q1 ch k = o at H3 HQS
        obtain ⟨o1, o2⟩ := o
        have HO := Lib.hid ho; clear ho
        have hmb : m ∉ ownB u6 := fun h => by have h1 := (HO1.base m h).1; have := HML.out; omega
        have hap1 := H1.prods.apart HO1 (by decide)
        have HO3 : OwnL AltRow (ownB pv3 ++ S) w3 base 44 1 u6 q2 := HO1.move altRow_stab K3 (fun b hb => by
            rcases List.mem_cons.1 hb with rfl | hb
            · exact .inl ⟨by simp [HIN.out], hmb⟩
            · have hb : b ∈ ownB pvk := by simpa [ownB, Value.ownBlock] using hb
              exact .inl ⟨by simp [hb], hap1 b hb⟩) (fun b hb => by
            rcases List.mem_append.1 hb with hb | hb
            · rcases hp3 b hb with h | h
              · exact .inl (by simp [h])
              · exact .inr h
            · exact .inl (by simp [hb]))
        have B33 := B3.keep K3 (fun hb => by
          have hl := B3.lt
          rcases List.mem_cons.1 hb with hb | hb
          · have := HML.out; omega
          · have hb : w.heap.size ∈ ownB pvk := by simpa [ownB, Value.ownBlock] using hb
            obtain ⟨cs, e⟩ := H1.prods.type _ hb
            have e2 : wr.heap[w.heap.size]? = some (.cells _ _ (0, 0)) := B3
            rw [e] at e2
            simp at e2)
        have B53 := B5.keep K3 (fun hb => by
          have hl := B5.lt
          rcases List.mem_cons.1 hb with hb | hb
          · have := HML.out; omega
          · have hb : w.heap.size + 1 ∈ ownB pvk := by simpa [ownB, Value.ownBlock] using hb
            obtain ⟨cs, e⟩ := H1.prods.type _ hb
            have e2 : wr.heap[w.heap.size + 1]? = some (.cells _ _ (0, 0)) := B5
            rw [e] at e2
            simp at e2)
        have hc3 : SlOf PartAt (ownB pv3 ++ (ownB u6 ++ S)) w3 5 (.slice B ch.length D) ch := SlOf.move hc1 partAt_stab (by omega) K3 (fun b hb => by
            rcases List.mem_cons.1 hb with rfl | hb
            · exact .inl (by simp [HIN.out])
            · exact .inl (by simp [ownB, Value.ownBlock] at hb ⊢; simp [hb])) (fun b hb => by
            rcases List.mem_append.1 hb with hb | hb
            · rcases hp3 b hb with h | h
              · exact .inl (by simp [h])
              · exact .inr h
            · exact .inl (by simp at hb ⊢; rcases hb with h | h <;> simp [h]))
        have hsz1 := K1.size
        have hsz3 := K3.size
        have hrd : Syms (ownB u6 ++ (ownB pv3 ++ S)) w3 v3 o2 := H3.syms.read symRow_stab (fun b hb => .inl (by simp at hb ⊢; rcases hb with h | h | h <;> simp [h])) (fun b hb hb' => by
          have hnew : wr.heap.size ≤ b := by
            rcases hv3 b hb with h | h
            · simp [ownB, Value.ownBlock] at h
            · exact h
          rcases List.mem_append.1 hb' with h | h
          · have := (HO1.base b h).2; omega
          · rcases List.mem_append.1 h with h | h
            · exact H3.syms.apart H3.prods (by decide) b hb h
            · have := H1.low b (by simp [h]); omega)
        have HF := H3.forget
        obtain ⟨A3, C3, hv3'⟩ := H3.syms.slice
        subst hv3'
        have hx : AltRow (ownB u6 ++ (ownB pv3 ++ S)) w3 o2 #[.slice A3 o2.length C3] := ⟨A3, C3, rfl, hrd⟩
        obtain ⟨A6, C6, hv6⟩ := HO3.slice
        subst hv6
        have HO3' := HO3
        obtain ⟨rows2, hlr, hown, hel⟩ := HO3'
        obtain ⟨i0, hi0, hz0, hz1, hz2⟩ := info_parts info_alt
        have HEL := Lib.hid hel; clear hel
        simp only at hx ⊢
        clear hrd
        go_wp2_with (at_builtin; go_loud (refine wpList_append_lies _ rfl _ _ 38 rfl base 44 i0 (.slice none 0 0) 1 24 Tryz.underlying38 hi0 hz0 hz1 hz2 rfl (by decide) _ q2.length _ rfl (hown.alloc _) ⟨w3.heap.size, 0, none⟩ 1 1 [.slice A3 o2.length C3] rfl rfl (World.news_of_block (Blk.new' _ _ _ (by simp))) (by simp [Value.oneCell']) (by decide) (by unfold maxLen; omega) (by omega) (by have := H3.base; simp; omega) _ rfl ?_); intro g cap w5 O5 G5 W5 L5)
        have K34 := (Keep.refl [] w3).alloc (.cells #[.slice A3 o2.length C3] 44)
        have KG := Keep.ofGrown (v := .slice A6 q2.length C6) G5
        have W5' : (Value.slice A6 q2.length C6).ownBlock = some g ∨ g = (w3.alloc (.cells #[.slice A3 o2.length C3] 44)).heap.size := W5
        have HO5 : OwnL AltRow (ownB pv3 ++ S) w5 base 44 1 (.slice (some ⟨g, 0, none⟩) (q2.length + 1) cap) (q2 ++ [o2]) :=
          OwnL.append (w := w3.alloc (.cells #[.slice A3 o2.length C3] 44)) rows2 hlr (fun i hi hi' => ⟨(HEL.out i hi hi').1, altRow_stab _ _ _ _ _ _ _ (HEL.out i hi hi').2 K34 (by simp) (fun x hx => .inl hx)⟩) altRow_stab (altRow_stab _ _ _ _ _ _ _ hx K34 (by simp) (fun x hx => .inl hx)) rfl O5 G5 W5
        have HF4 := HF.keep K34
        have HO4 := HO3.move altRow_stab (S' := ownB pv3 ++ S) K34 (by simp) (fun x hx => .inl hx)
        have hap3 := HO4.apart HF4.prods (by decide)
        have H5 : MkAt (ownB (.slice (some ⟨g, 0, none⟩) (q2.length + 1) cap) ++ S) w5 base m mb names pv3 (.slice none 0 0) o1 [] := HF4.move KG (fun b hb => .inl ⟨by simp [hb], fun e => hmb (e ▸ hb), (fun e => by
            subst e
            obtain ⟨cs, e1⟩ := HO4.type b hb
            have e2 := HF4.map
            unfold MapB at e2
            rw [e1] at e2
            cases e2), hap3 b hb, by simp [ownB, Value.ownBlock]⟩) (fun b hb => by
            rcases List.mem_append.1 hb with h | h
            · rcases own_new (S := []) W5' b (List.mem_append.2 (.inl h)) with h1 | h1
              · exact .inl (List.mem_append.2 (.inl (by simpa using h1)))
              · exact .inr ⟨h1, (HO5.base b h).2⟩
            · exact .inl (by simp [h])) (by simp [HIN.out])
        have hnew : ∀ b ∈ ownB (.slice (some ⟨g, 0, none⟩) (q2.length + 1) cap), b ∈ ownB (.slice A6 q2.length C6) ∨ w3.heap.size + 1 ≤ b := fun b hb => by
          rcases own_new (S := []) W5' b (List.mem_append.2 (.inl hb)) with h1 | h1
          · exact .inl (by simpa using h1)
          · exact .inr (by simpa using h1)
        have hc5 := SlOf.move (S' := ownB pv3 ++ (ownB (.slice (some ⟨g, 0, none⟩) (q2.length + 1) cap) ++ S)) (SlOf.move (S' := ownB pv3 ++ (ownB (.slice A6 q2.length C6) ++ S)) hc3 partAt_stab (by omega) K34 (by simp) (fun x hx => .inl hx)) partAt_stab (by omega) KG (fun x hx => .inl (by simp [hx])) (fun b hb => by
          rcases List.mem_append.1 hb with h | h
          · exact .inl (by simp [h])
          · rcases List.mem_append.1 h with h | h
            · rcases hnew b h with h | h
              · exact .inl (by simp [h])
              · exact .inr (by simpa using h)
            · exact .inl (by simp [h]))
        have B35 := (B33.keep K34 (by simp)).keep KG (fun hb => by
          obtain ⟨cs, e⟩ := HO4.type _ hb
          have e2 := B33.keep K34 (by simp)
          unfold Blk at e2
          rw [e] at e2
          simp at e2)
        have B55 := (B53.keep K34 (by simp)).keep KG (fun hb => by
          obtain ⟨cs, e⟩ := HO4.type _ hb
          have e2 := B53.keep K34 (by simp)
          unfold Blk at e2
          rw [e] at e2
          simp at e2)
        go_roundw
        case rel =>
          refine ⟨k + 1, by have := HLT.out; omega, by go_num, pv3, ((K1.then K3 (fun b hb => ?_)).then K34 (by simp)).then KG (fun b hb => .inr (hoa b hb)), ?_, ?_, fun b hb => ?_, fun b hb => ?_, hc5, B35, B55⟩
          · rcases List.mem_cons.1 hb with rfl | hb
            · exact .inl (by simp)
            · rcases hop b (by simpa [ownB, Value.ownBlock] using hb) with h | h
              · exact .inl (by simp [h])
              · exact .inr h
          · rw [HQS.out]; exact H5
          · rw [HQS.out]; exact HO5
          · rcases hp3 b hb with h | h
            · exact hop b h
            · exact .inr (by omega)
          · rcases hnew b hb with h | h
            · exact hoa b h
            · omega
        case measure => simp [intOf]; have := HLT.out; omega
      · have hk' : k = ch.length := by omega
        subst hk'
        clear HQS
        have hnq : n < q1.p.length := by
          have h1 := altsF_p (pieceF names d) ch HPL.out (st, []) ch.length
          rw [HQ.out] at h1
          simp only at h1
          omega
        have hn60 : n ≤ 1000000 := by omega
        have hfin : fillF (pieceF names d) st n (.mk 5 t r ch a) = { p := q1.p.modify n (fun x => { x with a := q2 }), bad := failR (badAlts q2) (7, a) q1.bad } := by
          have h1 := HQ.out
          simp only [fillF, PartS.k, PartS.l, PartS.a, if_true, h1]
          have hb : (badAlts q2 = true) ↔ (q2.length = 0 ∨ 8 < q2.length ∨ q2.any (fun l => decide (40 < l.length)) = true) := by
            unfold badAlts longB
            simp [or_assoc]
          by_cases hc : badAlts q2 = true
          · rw [if_pos (hb.1 hc)]
            simp [MkS.fail, hc]
          · rw [if_neg (fun h => hc (hb.2 h))]
            simp only [Bool.not_eq_true] at hc
            simp [hc, failR]
        have HFE := Lib.hid hfin
        dsimp only at H1 HO1
        obtain ⟨gp, capp, hpv⟩ := H1.prods.ofPos (by omega)
        subst hpv
        have hrd := HO1.read (S' := []) altRow_stab (by simp) (by simp)
        have hcall := altContains_any [] u6 q2 105 #[] longB wr hrd (ftwo_pred _ _)
        have HC := Lib.hid hcall; clear hcall
        obtain ⟨A6, C6, hv6⟩ := HO1.slice
        subst hv6
        have hAS : ∀ x ∈ ownB (.slice A6 q2.length C6), x ∉ S := fun x hx hx' => by have h1 := hoa x hx; have h2 := HLOW.out x hx'; omega
        have HAS := Lib.hid hAS; clear hAS
        have HHN := Lib.hid hnq
        clear hfin
        cases hbz : ((q2.length : Int) == 0) <;> cases hb8 : decide ((8 : Int) < (q2.length : Int)) <;> cases hbl : q2.any longB
        all_goals
          have hbA : badAlts q2 = ((q2.length : Int) == 0 || decide ((8 : Int) < (q2.length : Int)) || q2.any longB) := by
            unfold badAlts
            congr 2
            · rw [Bool.eq_iff_iff]; simp
            · rw [Bool.eq_iff_iff]; simp; omega
          rw [hbz, hb8, hbl] at hbA
          simp only [Bool.or_true, Bool.or_false, Bool.true_or, Bool.false_or] at hbA
          have HBA := Lib.hid hbA; clear hbA
          have HBL := Lib.hid hbl; clear hbl
          go_wp2_with fail
          refine HC.out.mono ?_
          rintro e w3 ⟨rfl, K3⟩
          have hbl := HBL.out
          rw [hbl]
          clear hbl
          have H3 := H1.keep K3
          have HO3 := HO1.move altRow_stab (S' := ownB (.slice (some ⟨gp, 0, none⟩) q1.p.length capp) ++ S) K3 (by simp) (fun x hx => .inl hx)
          have B33 := B3.keep K3 (by simp)
          have B53 := B5.keep K3 (by simp)
          have c30 := B33.cell 0
          have c30' : w3.cell? ⟨w.heap.size, 0, none⟩ = some (.pointer (some ⟨m, 0, none⟩)) := c30
          have c54 := B53.cell 4
          have c54' : w3.cell? ⟨w.heap.size + 1, 4, none⟩ = some (.int .i64 a) := c54
          clear c30 c54
          go_wp2_with fail
          refine (ffail_any (ownB (.slice (some ⟨gp, 0, none⟩) q1.p.length capp) ++ ownB (.slice none 0 0) ++ (ownB (.slice A6 q2.length C6) ++ S)) m mb _ q1.bad _ 7 a _ H3.box (by simp [HIN.out]) H3.all).mono ?_
          rintro e w4 ⟨rfl, hb4, K4⟩
          rw [← HBA.out] at hb4
          have hfin := fill_fin S base m mb names q1 q2 n gp capp A6 C6 a w3 w4 HHN.out HIN.out HAS.out H3 HO3 hb4 K4
          have B34 := B33.keep K4 (by have := HMW.out; simp; omega)
          have c40 := B34.cell 0
          have c40' : w4.cell? ⟨w.heap.size, 0, none⟩ = some (.pointer (some ⟨m, 0, none⟩)) := c40
          have H4 := H3.turn hb4 K4
          obtain ⟨u0, cA, fA⟩ := H4.prods.cellEx (n * 3) (by have := HHN.out; show n * 3 < q1.p.length * 3; omega)
          obtain ⟨bv, hB4, _⟩ := hb4
          have cm := hB4.cell 1
          have cm' : w4.cell? ⟨m, 1, none⟩ = some (.slice (some ⟨gp, 0, none⟩) q1.p.length capp) := cm
          clear c40 cm
          have KF : Keep (m :: ownB pv) w (w4.setCell ⟨gp, n * 3 + 0, none⟩ (.slice A6 q2.length C6)) := ((K1.trans (K3.mono (by simp))).then K4 (fun b hb => .inl (by simp at hb; simp [hb]))).setCell (by
            rcases hop gp (by simp [ownB, Value.ownBlock]) with h | h
            · exact .inl (by simp [h])
            · exact .inr h) _
          have HFIN := Lib.hid hfin; clear hfin
          have HKF := Lib.hid KF; clear KF H4
          go_wp2
          go_end0
          rw [HFE.out]
          exact ⟨HKF.out, _, rfl, HFIN.out, hop⟩
end Go.Proofs.YtbpidoiellcccaaGreatDoor
namespace Go.Proofs.YtbpidoiellcccaaGreatDoor
open Go Go.RowKit Go.MapKept

/-- A rule's alternatives. -/
def altP (p : PartS) : List PartS := if p.k = 5 then p.l else [p]
def ruleF (part : MkS → List SymS → PartS → MkS × List SymS) (st : MkS) (n : Nat) (p : PartS) : MkS := fillF part st n (.mk 5 ⟨#[]⟩ [] (altP p) p.a)
theorem fillF_or (part : MkS → List SymS → PartS → MkS × List SymS) (st : MkS) (n : Nat) (t : ByteArray) (r : List Rng) (ch : List PartS) (a : Int) : fillF part st n (.mk 5 t r ch a) = fillF part st n (.mk 5 ⟨#[]⟩ [] ch a) := rfl

set_option maxRecDepth 20000 in
set_option maxHeartbeats 4000000 in
theorem frule_any (S : List Nat) (base m mb : Nat) (names : List ByteArray) (pv : Value) (st : MkS) (d n : Nat) (p : PartS) (row : Array Value) (w : World) (hn : n < st.p.length) (hp60 : st.p.length ≤ 1000000) (hch : (altP p).length ≤ 1000000) (hpl : ∀ x ∈ altP p, ∀ st l, st.p.length ≤ (pieceF names d st l x).1.p.length)
    (ih : ∀ S, ∀ x ∈ altP p, PieceAt S base m mb names d x) (hw : ∀ x ∈ altP p, wtF d x ≤ 1000000) (H : MkAt S w base m mb names pv (.slice none 0 0) st []) (hp : PartAt (ownB pv ++ S) w p row) :
    Calls Tryz.prog 47 #[.pointer (some ⟨m, 0, none⟩), .int .i64 n, .agg row] w (FillPost S base m mb names pv w (ruleF (pieceF names d) st n p)) := by
  obtain ⟨k, t, A, n', C, B, m', D, a, rfl, hk, ha⟩ := PartAt.form hp
  by_cases h5 : k = 5
  · subst h5
    have K0 := (Keep.refl [] w).alloc (.cells #[.int .i64 5, .string t, .slice A n' C, .slice B m' D, .int .i64 a] 85)
    have hp0 := partAt_stab _ _ _ _ _ _ _ hp K0 (by simp) (fun x hx => .inl hx)
    obtain ⟨k', t', r', ch, a'⟩ := p
    have hk' : k' = 5 := hk.symm
    subst hk'
    have hal : altP (.mk 5 t' r' ch a') = ch := by simp [altP, PartS.k, PartS.l]
    rw [hal] at hch hpl ih hw
    have hcall := fillOr_any S base m mb names pv st d n t' r' ch a' _ _ hn hp60 hch hpl ih hw (H.keep K0) hp0
    rw [fillF_or] at hcall
    have hr : ruleF (pieceF names d) st n (.mk 5 t' r' ch a') = fillF (pieceF names d) st n (.mk 5 ⟨#[]⟩ [] ch a') := by unfold ruleF; rw [hal]; rfl
    rw [hr]
    have HC := Lib.hid hcall; clear hcall hr hal hch hpl ih hw hp hp0 hk ha
    go_enter Tryz.func47, Tryz.ntmps47
    go_wp2_with fail
    refine HC.out.mono ?_
    rintro e w1 ⟨K1, pv1, rfl, H1, hp1⟩
    go_wp2
    go_end0
    exact ⟨(K0.mono (by simp)).trans K1, pv1, rfl, H1, fun b hb => by
      rcases hp1 b hb with h | h
      · exact .inl h
      · exact .inr (by have := K0.size; omega)⟩
  · have h5i : (k == 5) = false := by simpa using h5
    have h5n : (k != 5) = true := by simpa using h5
    have hal : altP p = [p] := by simp [altP, ← hk, h5]
    rw [hal] at hch hpl ih hw
    have hr : ruleF (pieceF names d) st n p = fillF (pieceF names d) st n (.mk 5 ⟨#[]⟩ [] [p] p.a) := by unfold ruleF; rw [hal]
    rw [hr]
    subst hk ha
    have K0 := ((Keep.refl [] w).alloc (.cells #[.int .i64 5, .string { data := #[] }, .slice none 0 0, .slice (some ⟨w.heap.size + 1, 0, none⟩) 1 1, .int .i64 p.a] 85)).alloc (.cells #[.int .i64 p.k, .string t, .slice A n' C, .slice B m' D, .int .i64 p.a] 85)
    have hp0 := partAt_stab _ _ _ _ _ _ _ hp K0 (by simp) (fun x hx => .inl hx)
    have B1 := Blk.new' (w.alloc (.cells #[.int .i64 5, .string { data := #[] }, .slice none 0 0, .slice (some ⟨w.heap.size + 1, 0, none⟩) 1 1, .int .i64 p.a] 85)) #[.int .i64 p.k, .string t, .slice A n' C, .slice B m' D, .int .i64 p.a] 85 (b := w.heap.size + 1) (by simp)
    have hp1 : PartAt (ownB pv ++ S) _ (.mk 5 { data := #[] } [] [p] p.a) #[.int .i64 5, .string { data := #[] }, .slice none 0 0, .slice (some ⟨w.heap.size + 1, 0, none⟩) 1 1, .int .i64 p.a] :=
      PartAt.of (Sl.nil _ _ _) ⟨[#[.int .i64 p.k, .string t, .slice A n' C, .slice B m' D, .int .i64 p.a]], Sl.of_blk (xs := [#[.int .i64 p.k, .string t, .slice A n' C, .slice B m' D, .int .i64 p.a]]) 1 B1 (fun hb => by
        have := H.all (w.heap.size + 1) (by simp [ownB, Value.ownBlock] at hb ⊢; rcases hb with h | h <;> simp [h]); omega) ⟨by simp, by simp⟩ (fun i hi => by
          obtain rfl : i = 0 := by simp at hi; omega
          exact ⟨rfl, fun j hj => by simp⟩), rfl, fun i hi hi' => by
          obtain rfl : i = 0 := by simp at hi; omega
          exact hp0⟩
    have hcall := fillOr_any S base m mb names pv st d n ⟨#[]⟩ [] [p] p.a _ _ hn hp60 hch hpl ih hw (H.keep K0) hp1
    have HC := Lib.hid hcall; clear hcall hr hal hch hpl ih hw hp hp0 hp1 B1 h5
    go_enter Tryz.func47, Tryz.ntmps47
    go_wp2_with fail
    refine HC.out.mono ?_
    rintro e w1 ⟨K1, pv1, rfl, H1, hp1⟩
    go_wp2
    go_end0
    exact ⟨(K0.mono (by simp)).trans K1, pv1, rfl, H1, fun b hb => by
      rcases hp1 b hb with h | h
      · exact .inl h
      · exact .inr (by have := K0.size; omega)⟩
end Go.Proofs.YtbpidoiellcccaaGreatDoor
namespace Go.Proofs.YtbpidoiellcccaaGreatDoor
open Go Go.RowKit Go.MapKept

theorem nameE_snoc (names : List ByteArray) (x : ByteArray) : (nameE names).push ⟨.string x, .int .i64 names.length, names.length⟩ = nameE (names ++ [x]) := by
  unfold nameE
  apply Array.ext'
  simp [List.mapIdx_append]
theorem name_new (names : List ByteArray) (x : ByteArray) (h : nameAt names x = none) : Instr.findNow (.string) (.string x) (nameE names).toList 0 = some none := by
  obtain ⟨r, hf, hr, hs⟩ := findS (.int .i64 0) x (nameE names).toList (nameL names 0) 0 (by
    refine List.ext_getElem (by simp [nameE, nameL]) (fun i h1 h2 => ?_)
    simp [nameE, nameL])
  obtain ⟨h1, h2⟩ := look_name x names 0
  have : r.isSome = false := by
    cases h3 : r.isSome
    · rfl
    · rw [h] at h2; simp at h2; simp_all
  cases r with
  | none => exact hf
  | some y => simp at this
theorem nupd (w : World) (mb : Nat) (names : List ByteArray) (x : ByteArray) (hb : MapB w mb (nameE names) names.length) (h : nameAt names x = none) :
    ∃ w1, (Instr.mapUpdate 90 (.map (some mb)) (.string x) (.int .i64 names.length)).run Tryz.prog w = .ok () w1 ∧ MapB w1 mb (nameE (names ++ [x])) (names ++ [x]).length ∧ Keep [mb] w w1 := by
  refine ⟨_, run_mapUpdate_new Tryz.underlying90 Tryz.underlying9 (isKey_str x) hb (name_new names x h) _, ?_, setMap_keep (Keep.refl _ _) (by simp) _ _⟩
  rw [nameE_snoc, List.length_append]
  exact setMap_at hb _ _
/-- With a name more. -/
theorem MkAt.named {S : List Nat} {w w1 : World} {base m mb : Nat} {names names' : List ByteArray} {pv : Value} {st : MkS} (h : MkAt S w base m mb names pv (.slice none 0 0) st []) (hb : MapB w1 mb (nameE names') names'.length) (K : Keep [mb] w w1) (hS : mb ∈ S) (hml : mb < base) : MkAt S w1 base m mb names' pv (.slice none 0 0) st [] := by
  have hmap : ∀ b, b ∈ ownB pv → b ≠ mb := fun b hx e => by have := (h.prods.base b hx).1; omega
  obtain ⟨bv, hB, hbad⟩ := h.box
  refine ⟨⟨bv, hB.keep K (fun hx => ?_), ?_⟩, ?_, OwnL.nil _ _ _ _ _, hb, h.inS, h.mlow, fun x hx => Nat.lt_of_lt_of_le (h.low x hx) K.size, Nat.le_trans h.base K.size⟩
  · simp at hx
    subst hx
    have e2 := h.map
    unfold MapB at e2
    unfold Blk at hB
    rw [e2] at hB
    cases hB
  · cases hst : st.bad with
    | none => rw [hst] at hbad; exact hbad
    | some x =>
      rw [hst] at hbad
      obtain ⟨b, rfl, hb1, hB1⟩ := hbad
      refine ⟨b, rfl, hb1, hB1.keep K (fun hx => ?_)⟩
      simp at hx
      subst hx
      have e2 := h.map
      unfold MapB at e2
      unfold Blk at hB1
      rw [e2] at hB1
      cases hB1
  · exact h.prods.move prodRow_stab K (fun x hx => .inl (by simp at hx; subst hx; exact ⟨by simp [hS], fun hx => hmap _ hx rfl⟩)) (fun x hx => .inl hx)
end Go.Proofs.YtbpidoiellcccaaGreatDoor
namespace Go.Proofs.YtbpidoiellcccaaGreatDoor
open Go Go.RowKit Go.MapKept

def prod0 (r : RuleS) : ProdS := ⟨[], r.marks, r.nt⟩
/-- The nonterminals of rules, one behind the other. -/
def rulesF (part : MkS → List SymS → PartS → MkS × List SymS) (rs : List RuleS) : Nat → MkS → MkS
  | 0, st => st
  | n + 1, st => let q := rulesF part rs n st
    match rs[n]? with
    | none => q
    | some r => if q.bad = none then ruleF part q n r.e else q
def gramZ : Array Value := #[.slice none 0 0, .slice none 0 0]
/-- The head of a round of Of's first loop: n0 is where the call begins. -/
def OfAt (S0 : List Nat) (f : FileS) (A B : Option Addr) (C D : Nat) (w : World) (k : Nat) (wr : World) : Prop :=
  ∃ pvk, Keep [] w wr ∧ MkAt ((w.heap.size + 1 + 1 + 1) :: (w.heap.size + 1 + 1) :: (w.heap.size + 1) :: w.heap.size :: S0) wr (w.heap.size + 1 + 1 + 1 + 1) (w.heap.size + 1 + 1 + 1) (w.heap.size + 1 + 1) ((f.rules.take k).map RuleS.name) pvk (.slice none 0 0) ⟨(f.rules.take k).map prod0, none⟩ [] ∧
    SlOf StrRow (ownB pvk ++ ((w.heap.size + 1 + 1 + 1) :: (w.heap.size + 1 + 1) :: (w.heap.size + 1) :: w.heap.size :: S0)) wr 1 (.slice A f.keys.length C) f.keys ∧ SlOf RuleAt (ownB pvk ++ ((w.heap.size + 1 + 1 + 1) :: (w.heap.size + 1 + 1) :: (w.heap.size + 1) :: w.heap.size :: S0)) wr 9 (.slice B f.rules.length D) f.rules ∧
    Blk wr w.heap.size #[.slice A f.keys.length C, .slice B f.rules.length D] 49 ∧ Blk wr (w.heap.size + 1) gramZ 25
def ofW1 (f : FileS) (A B : Option Addr) (C D : Nat) (w : World) : World := (w.alloc (.cells #[.slice A f.keys.length C, .slice B f.rules.length D] 49)).alloc (.cells gramZ 25)
def ofW0 (f : FileS) (A B : Option Addr) (C D : Nat) (w : World) : World := ((ofW1 f A B C D w).alloc (.map #[] 0)).alloc (.cells #[.map (some (w.heap.size + 1 + 1)), .slice none 0 0, .pointer none] 93)
theorem ofW1_size (f : FileS) (A B : Option Addr) (C D : Nat) (w : World) : (ofW1 f A B C D w).heap.size = w.heap.size + 1 + 1 := by simp [ofW1]
theorem nameAt_not (x : ByteArray) : ∀ (l : List ByteArray), x ∉ l → nameAt l x = none
  | [], _ => rfl
  | y :: l, h => by
    simp only [List.mem_cons, not_or] at h
    rw [idxOf_cons, if_neg (fun e => h.1 e.symm), nameAt_not x l h.2]
    rfl
theorem nameAt_none (l : List ByteArray) (k : Nat) (hk : k < l.length) (h : l.Nodup) : nameAt (l.take k) l[k] = none := by
  apply nameAt_not
  intro hm
  obtain ⟨i, hi, he⟩ := List.getElem_of_mem hm
  rw [List.length_take] at hi
  rw [List.getElem_take] at he
  have hil : i < l.length := by omega
  have := (List.getElem?_inj (i := i) (j := k) hil h).1 (by rw [List.getElem?_eq_getElem hil, List.getElem?_eq_getElem hk, he])
  omega
theorem info_prod : (Tryz.prog.info? 41).map (fun i => (i.zero, i.size, i.bytes)) = some (some (.agg #[.slice none 0 0, .int .i64 0, .slice none 0 0]), 3, 56) := by kernel_rfl

/-- Behind an append of a nonterminal, and the store into the maker. -/
theorem MkAt.pushProd {S : List Nat} {w w5 : World} {base m mb g cap : Nat} {names : List ByteArray} {pv v : Value} {st : MkS} {l : List SymS} {x : ProdS} {row : Array Value} (h : MkAt S w base m mb names pv v st l) (rows : List (Array Value)) (hlr : rows.length = st.p.length)
    (hel : ∀ i (hi : i < st.p.length) (hi' : i < rows.length), rows[i].size = 3 ∧ ProdRow (ownB pv ++ (ownB v ++ S)) w st.p[i] rows[i]) (hx : ProdRow (ownB pv ++ (ownB v ++ S)) w x row) (hr : row.size = 3)
    (O : w5.ownsRow base 41 3 (.slice (some ⟨g, 0, none⟩) (st.p.length + 1) cap) (st.p.length + 1) (rows.flatMap Array.toList ++ row.toList)) (G : w.grownBy w5 pv.ownBlock) (W : pv.ownBlock = some g ∨ g = w.heap.size) :
    MkAt S (w5.setCell ⟨m, 1, none⟩ (.slice (some ⟨g, 0, none⟩) (st.p.length + 1) cap)) base m mb names (.slice (some ⟨g, 0, none⟩) (st.p.length + 1) cap) v { st with p := st.p ++ [x] } l ∧ Keep (m :: ownB pv) w (w5.setCell ⟨m, 1, none⟩ (.slice (some ⟨g, 0, none⟩) (st.p.length + 1) cap)) ∧
      (∀ b ∈ ownB (.slice (some ⟨g, 0, none⟩) (st.p.length + 1) cap), b ∈ ownB pv ∨ w.heap.size ≤ b) := by
  have KG := Keep.ofGrown (v := pv) G
  have hno := h.notOwn
  have hap := h.prods.apart h.syms (by decide)
  have KS := (Keep.refl [m] w5).setCell (p := ⟨m, 1, none⟩) (by simp) (.slice (some ⟨g, 0, none⟩) (st.p.length + 1) cap)
  have hnew : ∀ b ∈ ownB (.slice (some ⟨g, 0, none⟩) (st.p.length + 1) cap), b ∈ ownB pv ∨ w.heap.size ≤ b := fun b hb => by
    rcases own_new (S := []) W b (List.mem_append.2 (.inl hb)) with h | h
    · exact .inl (by simpa using h)
    · exact .inr h
  have hmm : m < w.heap.size := Nat.lt_of_lt_of_le h.mlow h.base
  have hmn : m ∉ ownB (.slice (some ⟨g, 0, none⟩) (st.p.length + 1) cap) := fun hm => by
    rcases hnew m hm with h1 | h1
    · exact hno.1 h1
    · omega
  have hml := h.map.lt
  obtain ⟨bv, hB, hbad⟩ := h.box
  have hap2 := OwnL.append rows hlr hel prodRow_stab hx hr O G W
  refine ⟨⟨⟨bv, ?_, ?_⟩, ?_, ?_, (h.map.keep KG (fun hb => ?_)).keep KS (fun hb => ?_), h.inS, h.mlow, fun x hx => ?_, ?_⟩, ?_, hnew⟩
  · have h1 := (hB.keep KG hno.1).set 1 (.slice (some ⟨g, 0, none⟩) (st.p.length + 1) cap)
    simpa using h1
  · have h1 : BadAt (ownB (.slice (some ⟨g, 0, none⟩) (st.p.length + 1) cap) ++ ownB v ++ S) w5 bv st.bad := hbad.move KG (fun x hx => .inl (by simp [hx])) (fun x hx => by
      rcases List.mem_append.1 hx with hx | hx
      · rcases List.mem_append.1 hx with hx | hx
        · rcases hnew x hx with h | h
          · exact .inl (by simp [h])
          · exact .inr h
        · exact .inl (by simp [hx])
      · exact .inl (by simp [hx]))
    exact h1.move KS (fun x hx => .inl (by simp at hx; subst hx; simp [h.inS])) (fun x hx => .inl hx)
  · have h1 := hap2.move prodRow_stab (S' := ownB v ++ S) KS (fun x hx => by simp at hx; subst hx; exact .inl ⟨by simp [h.inS], hmn⟩) (fun x hx => .inl hx)
    have e : (st.p ++ [x]).length = st.p.length + 1 := by simp
    exact h1
  · have h1 := h.syms.move symRow_stab (S' := ownB (.slice (some ⟨g, 0, none⟩) (st.p.length + 1) cap) ++ S) KG (fun x hx => .inl ⟨by simp [hx], hap x hx⟩) (fun x hx => by
      rcases List.mem_append.1 hx with hx | hx
      · rcases hnew x hx with h | h
        · exact .inl (by simp [h])
        · exact .inr h
      · exact .inl (by simp [hx]))
    exact h1.move symRow_stab KS (fun x hx => by simp at hx; subst hx; exact .inl ⟨by simp [h.inS], hno.2⟩) (fun x hx => .inl hx)
  · obtain ⟨cs, e⟩ := h.prods.type mb hb
    have e2 := h.map
    unfold MapB at e2
    rw [e] at e2
    cases e2
  · simp at hb
    subst hb
    have e2 := h.map
    unfold MapB at e2
    unfold Blk at hB
    rw [e2] at hB
    cases hB
  · exact Nat.lt_of_lt_of_le (h.low x hx) (Nat.le_trans KG.size KS.size)
  · exact Nat.le_trans h.base (Nat.le_trans KG.size KS.size)
  · exact (KG.mono (fun x hx => .inl (by simp [hx]))).trans (KS.mono (by simp))
/-- A round of Of's first loop is over. -/
theorem of_push (S0 : List Nat) (f : FileS) (A B : Option Addr) (C D : Nat) (w wr w4 w8 : World) (k : Nat) (pvk pv8 : Value) (T : List Nat) (hT : ∀ x ∈ T, x = w.heap.size + 1 + 1 + 1 ∨ x = w.heap.size + 1 + 1 ∨ x ∈ ownB pvk ∨ wr.heap.size ≤ x) (K1 : Keep [] w wr) (KT : Keep T wr w8) (hpv : ∀ b ∈ ownB pvk, w.heap.size + 1 + 1 + 1 + 1 ≤ b) (hbs : w.heap.size + 1 + 1 + 1 + 1 ≤ wr.heap.size)
    (hk : SlOf StrRow (ownB pvk ++ ((w.heap.size + 1 + 1 + 1) :: (w.heap.size + 1 + 1) :: (w.heap.size + 1) :: w.heap.size :: S0)) wr 1 (.slice A f.keys.length C) f.keys) (hr : SlOf RuleAt (ownB pvk ++ ((w.heap.size + 1 + 1 + 1) :: (w.heap.size + 1 + 1) :: (w.heap.size + 1) :: w.heap.size :: S0)) wr 9 (.slice B f.rules.length D) f.rules)
    (hF : Blk wr w.heap.size #[.slice A f.keys.length C, .slice B f.rules.length D] 49) (hG : Blk wr (w.heap.size + 1) gramZ 25) (hp8 : ∀ b ∈ ownB pv8, b ∈ ownB pvk ∨ wr.heap.size ≤ b)
    (H8 : MkAt ((w.heap.size + 1 + 1 + 1) :: (w.heap.size + 1 + 1) :: (w.heap.size + 1) :: w.heap.size :: S0) w8 (w.heap.size + 1 + 1 + 1 + 1) (w.heap.size + 1 + 1 + 1) (w.heap.size + 1 + 1) ((f.rules.take (k + 1)).map RuleS.name) pv8 (.slice none 0 0) ⟨(f.rules.take (k + 1)).map prod0, none⟩ []) : OfAt S0 f A B C D w (k + 1) w8 := by
  have hw := K1.size
  have hS : ∀ b ∈ ownB pv8 ++ ((w.heap.size + 1 + 1 + 1) :: (w.heap.size + 1 + 1) :: (w.heap.size + 1) :: w.heap.size :: S0), b ∈ ownB pvk ++ ((w.heap.size + 1 + 1 + 1) :: (w.heap.size + 1 + 1) :: (w.heap.size + 1) :: w.heap.size :: S0) ∨ wr.heap.size ≤ b := fun b hb => by
    rcases List.mem_append.1 hb with h | h
    · rcases hp8 b h with h | h
      · exact .inl (List.mem_append.2 (.inl h))
      · exact .inr h
    · exact .inl (List.mem_append.2 (.inr h))
  have hTS : ∀ b ∈ T, b ∈ ownB pvk ++ ((w.heap.size + 1 + 1 + 1) :: (w.heap.size + 1 + 1) :: (w.heap.size + 1) :: w.heap.size :: S0) ∨ wr.heap.size ≤ b := fun b hb => by
    rcases hT b hb with h | h | h | h
    · exact .inl (by simp [h])
    · exact .inl (by simp [h])
    · exact .inl (by simp [h])
    · exact .inr h
  refine ⟨pv8, K1.then KT (fun x hx => .inr ?_), H8, SlOf.move hk strRow_stab (by omega) KT hTS hS, SlOf.move hr ruleAt_stab (by omega) KT hTS hS, hF.keep KT (fun hx => ?_), hG.keep KT (fun hx => ?_)⟩
  · rcases hT x hx with h | h | h | h
    · omega
    · omega
    · have := hpv x h; omega
    · omega
  · rcases hT _ hx with h | h | h | h
    · omega
    · omega
    · have := hpv _ h; omega
    · omega
  · rcases hT _ hx with h | h | h | h
    · omega
    · omega
    · have := hpv _ h; omega
    · omega
theorem strs_fwd {S : List Nat} {w : World} {v : Value} {l : List ByteArray} (h : Strs1 S w v l) : SlOf StrRow S w 1 v l := ⟨_, h, by simp, fun i hi hi' => by rw [List.getElem_map]; rfl⟩
/-- The head of a round of Of's second loop. -/
def OfAt2 (S0 : List Nat) (d : Nat) (f : FileS) (A B : Option Addr) (C D : Nat) (w : World) (k : Nat) (wr : World) : Prop :=
  ∃ pvk, Keep [] w wr ∧ MkAt ((w.heap.size + 1 + 1 + 1) :: (w.heap.size + 1 + 1) :: (w.heap.size + 1) :: w.heap.size :: S0) wr (w.heap.size + 1 + 1 + 1 + 1) (w.heap.size + 1 + 1 + 1) (w.heap.size + 1 + 1) (f.rules.map RuleS.name) pvk (.slice none 0 0) (rulesF (pieceF (f.rules.map RuleS.name) d) f.rules k ⟨f.rules.map prod0, none⟩) [] ∧
    SlOf StrRow (ownB pvk ++ ((w.heap.size + 1 + 1 + 1) :: (w.heap.size + 1 + 1) :: (w.heap.size + 1) :: w.heap.size :: S0)) wr 1 (.slice A f.keys.length C) f.keys ∧ SlOf RuleAt (ownB pvk ++ ((w.heap.size + 1 + 1 + 1) :: (w.heap.size + 1 + 1) :: (w.heap.size + 1) :: w.heap.size :: S0)) wr 9 (.slice B f.rules.length D) f.rules ∧
    Blk wr w.heap.size #[.slice A f.keys.length C, .slice B f.rules.length D] 49 ∧ Blk wr (w.heap.size + 1) gramZ 25
structure GramS where
  p : List ProdS
  keys : List ByteArray
def GramAt (S : List Nat) (w : World) (g : GramS) (row : Array Value) : Prop := ∃ A C B D, row = #[.slice A g.p.length C, .slice B g.keys.length D] ∧ Prods S w (.slice A g.p.length C) g.p ∧ SlOf StrRow S w 1 (.slice B g.keys.length D) g.keys
theorem gramAt_stab : Stab GramAt := by
  rintro S T S' w w' x row ⟨A, C, B, D, h1, h2, h3⟩ K hT hS
  exact ⟨A, C, B, D, h1, SlOf.move h2 prodRow_stab (by omega) K hT hS, SlOf.move h3 strRow_stab (by omega) K hT hS⟩
def OfPost (S0 : List Nat) (w : World) (g : GramS) (e : Ending) (w' : World) : Prop :=
  ∃ row, e = .returned (.tuple #[.agg row, .int .i64 0, .int .i64 0]) ∧ GramAt S0 w' g row ∧ Keep [] w w'
theorem fillF_p (part : MkS → List SymS → PartS → MkS × List SymS) (hp : ∀ st l x, st.p.length ≤ (part st l x).1.p.length) (st : MkS) (n : Nat) (p : PartS) : st.p.length ≤ (fillF part st n p).p.length := by
  have h1 := altsF_p part p.l (fun x _ st l => hp st l x) (st, []) p.l.length
  have h2 := oneF_p part p.l (fun x _ st l => hp st l x) st 0
  simp only at h1
  have e : ∀ (q : MkS) (x : Err), (q.fail x).p = q.p := fun _ _ => rfl
  simp only [fillF, List.length_modify]
  repeat' split
  all_goals first
    | exact h1
    | exact h2
theorem pieceF_p (names : List ByteArray) : ∀ (d : Nat) (st : MkS) (l : List SymS) (x : PartS), st.p.length ≤ (pieceF names d st l x).1.p.length
  | 0, st, l, x => by simp [pieceF]
  | d + 1, st, l, .mk k t r ch a => by
    have ih := pieceF_p names d
    simp only [pieceF]
    split
    · split
      · exact Nat.le_refl _
      · exact Nat.le_refl _
    · split
      · exact Nat.le_refl _
      · split
        · exact Nat.le_refl _
        · split
          · exact Nat.le_refl _
          · split
            · have : ∀ (ch : List PartS) (q : MkS × List SymS), q.1.p.length ≤ (ch.foldl (fun q x => if q.1.bad = none then pieceF names d q.1 q.2 x else q) q).1.p.length := by
                intro ch
                induction ch with
                | nil => intro q; exact Nat.le_refl _
                | cons x ch ihc =>
                  intro q
                  simp only [List.foldl_cons]
                  refine Nat.le_trans ?_ (ihc _)
                  split
                  · exact ih _ _ _
                  · exact Nat.le_refl _
              exact this ch (st, l)
            · split
              · exact Nat.le_refl _
              · have h1 := fillF_p (pieceF names d) ih { st with p := st.p ++ [⟨[], 0, []⟩] } st.p.length (.mk k t r ch a)
                simp at h1
                simp only
                omega
theorem rulesF_p (names : List ByteArray) (d : Nat) (rs : List RuleS) (st : MkS) : ∀ n, st.p.length ≤ (rulesF (pieceF names d) rs n st).p.length
  | 0 => Nat.le_refl _
  | n + 1 => by
    refine Nat.le_trans (rulesF_p names d rs st n) ?_
    simp only [rulesF]
    split
    · exact Nat.le_refl _
    · split
      · exact fillF_p _ (pieceF_p names d) _ _ _
      · exact Nat.le_refl _
theorem oneF_60 (part : MkS → List SymS → PartS → MkS × List SymS) (hp : ∀ st l x, st.p.length ≤ 60 → (part st l x).1.p.length ≤ 60) (ch : List PartS) (st : MkS) (h : st.p.length ≤ 60) (i : Nat) : (oneF part st ch i).1.p.length ≤ 60 := by
  unfold oneF
  split
  · exact h
  · split
    · exact hp _ _ _ h
    · exact h
theorem altsF_60 (part : MkS → List SymS → PartS → MkS × List SymS) (hp : ∀ st l x, st.p.length ≤ 60 → (part st l x).1.p.length ≤ 60) (ch : List PartS) (r : MkS × List (List SymS)) (h : r.1.p.length ≤ 60) : ∀ n, (altsF part ch n r).1.p.length ≤ 60
  | 0 => h
  | n + 1 => oneF_60 part hp ch _ (altsF_60 part hp ch r h n) n
theorem fillF_60 (part : MkS → List SymS → PartS → MkS × List SymS) (hp : ∀ st l x, st.p.length ≤ 60 → (part st l x).1.p.length ≤ 60) (st : MkS) (h : st.p.length ≤ 60) (n : Nat) (p : PartS) : (fillF part st n p).p.length ≤ 60 := by
  have h1 := altsF_60 part hp p.l (st, []) h p.l.length
  have h2 := oneF_60 part hp p.l st h 0
  have e : ∀ (q : MkS) (x : Err), (q.fail x).p = q.p := fun _ _ => rfl
  simp only [fillF, List.length_modify]
  repeat' split
  all_goals first
    | exact h1
    | exact h2
theorem pieceF_60 (names : List ByteArray) : ∀ (d : Nat) (st : MkS) (l : List SymS) (x : PartS), st.p.length ≤ 60 → (pieceF names d st l x).1.p.length ≤ 60
  | 0, st, l, x, h => by simpa [pieceF] using h
  | d + 1, st, l, .mk k t r ch a, h => by
    have ih := pieceF_60 names d
    simp only [pieceF]
    split
    · split
      · exact h
      · exact h
    · split
      · exact h
      · split
        · exact h
        · split
          · exact h
          · split
            · have : ∀ (ch : List PartS) (q : MkS × List SymS), q.1.p.length ≤ 60 → (ch.foldl (fun q x => if q.1.bad = none then pieceF names d q.1 q.2 x else q) q).1.p.length ≤ 60 := by
                intro ch
                induction ch with
                | nil => intro q h; exact h
                | cons x ch ihc =>
                  intro q h
                  simp only [List.foldl_cons]
                  refine ihc _ ?_
                  split
                  · exact ih _ _ _ h
                  · exact h
              exact this ch (st, l) h
            · split
              · exact h
              · rename_i hc
                exact fillF_60 (pieceF names d) ih { st with p := st.p ++ [⟨[], 0, []⟩] } (by simp; omega) st.p.length (.mk k t r ch a)
theorem rulesF_60 (names : List ByteArray) (d : Nat) (rs : List RuleS) (st : MkS) (h : st.p.length ≤ 60) : ∀ n, (rulesF (pieceF names d) rs n st).p.length ≤ 60
  | 0 => h
  | n + 1 => by
    have h1 := rulesF_60 names d rs st h n
    simp only [rulesF]
    split
    · exact h1
    · split
      · exact fillF_60 _ (pieceF_60 names d) _ h1 _ _
      · exact h1
end Go.Proofs.YtbpidoiellcccaaGreatDoor
