/- Copies of slices of data that a law makes, and changes in one element. -/
import Derived.Test.YtacihjabkiedcaaGreatDoorH16
set_option linter.unusedVariables false
set_option linter.unusedSimpArgs false
namespace Go.Proofs.YtacihjabkiedcaaGreatDoor
open Go Go.RowKit

/-- append(nil, src...). -/
theorem wp_append_new {α : Type} {R : List Nat → World → α → Array Value → Prop} (st : Stab R) (hone : OneC R) {o : Oper} {a : Act} {K : Act → World → Prop} {Q : Exit → Act → World → Prop} (s x : Operand) (t : TypeId)
    (ho : o.op = .call { callee := .builtin .append, args := #[s, x], argTypes := #[t, t] }) {e : TypeId} {i : TypeInfo} {z : Value} {k bytes : Nat} (ht : Tryz.prog.underlying t = some (.slice e)) (hi : Tryz.prog.info? e = some i) (hz : i.zero = some z)
    (hsz : i.size = k) (hby : i.bytes = bytes) (hzk : z.cells.size = k) (hk : 0 < k) (S : List Nat) {w : World} (base : Nat) {ys : List α} (A : Option Addr) (m C : Nat) (hs : a.eval s = .slice none 0 0) (hx : a.eval x = .slice A m C)
    (hy : SlOf R S w k (.slice A m C) ys) (hl : ys.length ≤ 1000000) (hb : ys.length * bytes ≤ 140737488355328) (hbase : base ≤ w.heap.size)
    (hK : ∀ A' C' w', OwnL R S w' base e k (.slice A' ys.length C') ys → Keep [] w w' → (∀ b ∈ ownB (.slice A' ys.length C'), b = w.heap.size) → K (a.put o.dst (.slice A' ys.length C')) w') : o.wp Tryz.prog a w K Q := by
  refine wp_append_data st hone s x t ho ht hi hz hsz hby hzk hk (S := S) (base := base) (v := .slice none 0 0) (xs := []) hs hx (OwnL.nil _ _ _ _ _) hy (by simpa using hl) (by simpa using hb) hbase (fun A' C' w' h1 h2 h3 => ?_)
  simp only [List.length_nil, Nat.zero_add, List.nil_append] at h1 h3 ⊢
  exact hK A' C' w' h1 (h2.mono (by simp [ownB, Value.ownBlock])) (fun b hb => by
    rcases h3 b hb with h | h
    · simp [ownB, Value.ownBlock] at h
    · exact h)
theorem wpList_append_new {α : Type} {R : List Nat → World → α → Array Value → Prop} (st : Stab R) (hone : OneC R) {ops : Array Oper} {rest : List Oper} {o : Oper} {a : Act} {Q : Exit → Act → World → Prop} (hgd : o.guard = none) (s x : Operand) (t : TypeId)
    (ho : o.op = .call { callee := .builtin .append, args := #[s, x], argTypes := #[t, t] }) {e : TypeId} {i : TypeInfo} {z : Value} {k bytes : Nat} (ht : Tryz.prog.underlying t = some (.slice e)) (hi : Tryz.prog.info? e = some i) (hz : i.zero = some z)
    (hsz : i.size = k) (hby : i.bytes = bytes) (hzk : z.cells.size = k) (hk : 0 < k) (S : List Nat) {w : World} (base : Nat) {ys : List α} (A : Option Addr) (m C : Nat) (hs : a.eval s = .slice none 0 0) (hx : a.eval x = .slice A m C)
    (hy : SlOf R S w k (.slice A m C) ys) (hl : ys.length ≤ 1000000) (hb : ys.length * bytes ≤ 140737488355328) (hbase : base ≤ w.heap.size)
    (hK : ∀ A' C' w', OwnL R S w' base e k (.slice A' ys.length C') ys → Keep [] w w' → (∀ b ∈ ownB (.slice A' ys.length C'), b = w.heap.size) → wpList Tryz.prog ops Q rest (a.put o.dst (.slice A' ys.length C')) w') : wpList Tryz.prog ops Q (o :: rest) a w :=
  wpList_plain hgd fun _ hk2 => wp_append_new st hone s x t ho ht hi hz hsz hby hzk hk S base A m C hs hx hy hl hb hbase fun A' C' w' h2 h3 h4 => hk2 _ _ (hK A' C' w' h2 h3 h4)
theorem step_append_new {α : Type} {R : List Nat → World → α → Array Value → Prop} (st : Stab R) (hone : OneC R) {ops : Array Oper} {o : Oper} {a : Act} {K : Act → World → Prop} {Q : Exit → Act → World → Prop} {Z : Prop} (hgd : o.guard = none) (s x : Operand) (t : TypeId)
    (ho : o.op = .call { callee := .builtin .append, args := #[s, x], argTypes := #[t, t] }) {e : TypeId} {i : TypeInfo} {z : Value} {k bytes : Nat} (ht : Tryz.prog.underlying t = some (.slice e)) (hi : Tryz.prog.info? e = some i) (hz : i.zero = some z)
    (hsz : i.size = k) (hby : i.bytes = bytes) (hzk : z.cells.size = k) (hk : 0 < k) (S : List Nat) {w : World} (base : Nat) {ys : List α} (A : Option Addr) (m C : Nat) (hs : a.eval s = .slice none 0 0) (hx : a.eval x = .slice A m C)
    (hy : SlOf R S w k (.slice A m C) ys) (hl : ys.length ≤ 1000000) (hb : ys.length * bytes ≤ 140737488355328) (hbase : base ≤ w.heap.size)
    (hK : ∀ A' C' w', OwnL R S w' base e k (.slice A' ys.length C') ys → Keep [] w w' → (∀ b ∈ ownB (.slice A' ys.length C'), b = w.heap.size) → K (a.put o.dst (.slice A' ys.length C')) w') :
    if Region.wanted o (yielded ops a.tmps) = true then Oper.wp Tryz.prog o a w K Q else Z := by
  have hw : Region.wanted o (yielded ops a.tmps) = true := by simp [Region.wanted, hgd]
  rw [if_pos hw]
  exact wp_append_new st hone s x t ho ht hi hz hsz hby hzk hk S base A m C hs hx hy hl hb hbase hK
/-- Where a slice of the call's own lies that is not empty. -/
theorem OwnL.form {α : Type} {R : List Nat → World → α → Array Value → Prop} {S : List Nat} {w : World} {base : Nat} {E : TypeId} {k n C : Nat} {A : Option Addr} {xs : List α} (h : OwnL R S w base E k (.slice A n C) xs) (h0 : 0 < xs.length) :
    ∃ g, A = some ⟨g, 0, none⟩ ∧ base ≤ g ∧ g < w.heap.size := by
  obtain ⟨rows, h1, h2, _⟩ := h
  obtain ⟨g, cap, hv, hb, hg⟩ := h2.form h0
  simp only [Value.slice.injEq] at hv
  exact ⟨g, hv.1, hb, hg⟩
theorem OwnL.frozen {α : Type} {R : List Nat → World → α → Array Value → Prop} {S : List Nat} {w : World} {base : Nat} {E : TypeId} {k n C g : Nat} {xs : List α} (h : OwnL R S w base E k (.slice (some ⟨g, 0, none⟩) n C) xs) (h0 : 0 < xs.length) (j : Nat) : w.frozen? ⟨g, j, none⟩ = false := by
  obtain ⟨rows, h1, h2, _⟩ := h
  rcases h2.2 with ⟨_, h3⟩ | ⟨g', cap, cur, hv, _, hg, _⟩
  · omega
  · simp only [Value.slice.injEq, Option.some.injEq, Addr.mk.injEq, and_true] at hv
    obtain ⟨rfl, _, _⟩ := hv
    simp [World.frozen?, hg]
theorem gmay_alt {ps : List ProdS} (h : gmay ps = true) : ∀ p ∈ ps, 0 < p.a.length ∧ p.a.length ≤ 8 ∧ ∀ a ∈ p.a, a.length ≤ 40 := by
  unfold gmay at h
  simp only [Bool.and_eq_true, Bool.not_eq_true', List.any_eq_false] at h
  intro p hp
  have h1 := h.1.1 p hp
  unfold prodBad at h1
  simp only [Bool.not_eq_true, Bool.or_eq_false_iff, List.any_eq_false, decide_eq_false_iff_not] at h1
  refine ⟨by omega, by omega, fun a ha => ?_⟩
  have h2 := h1.2 a ha
  unfold altOdd at h2
  simp only [Bool.not_eq_true, Bool.or_eq_false_iff, decide_eq_false_iff_not] at h2
  omega
/-- One alternative, in a block of one cell. -/
theorem one_alt {S : List Nat} {w : World} {b n C : Nat} {A : Option Addr} {T : TypeId} {a : List SymS} (B : Blk w b #[.slice A n C] T) (hb : b ∉ S) (hn : n = a.length) (H : Syms S w (.slice A n C) a) : Alts S w (.slice (some ⟨b, 0, none⟩) 1 1) [a] := by
  subst hn
  have h := Sl.of_blk (S := S) (k := 1) (xs := [#[.slice A a.length C]]) 1 B hb (by simp) (fun i hi => by
    obtain rfl : i = 0 := by simpa using hi
    exact ⟨rfl, fun j hj => by simp⟩)
  refine ⟨[#[.slice A a.length C]], h, rfl, fun i hi hi' => ?_⟩
  obtain rfl : i = 0 := by simpa using hi
  exact ⟨A, C, rfl, H⟩
/-- With an alternative more. -/
def moreP (ps : List ProdS) (n : Nat) (l : List SymS) : List ProdS := match ps[n]? with
  | some p => ps.set n ⟨p.a ++ [l], p.marks, p.nt⟩
  | none => ps
theorem moreP_eq (ps : List ProdS) (n : Nat) (l : List SymS) (h : n < ps.length) : moreP ps n l = ps.set n ⟨ps[n].a ++ [l], ps[n].marks, ps[n].nt⟩ := by
  simp [moreP, h]
theorem moreP_len (ps : List ProdS) (n : Nat) (l : List SymS) : (moreP ps n l).length = ps.length := by
  unfold moreP
  split <;> simp
/-- The alternatives of one nonterminal of the copy are stored. -/
theorem own_alts {w : World} {S : List Nat} {base base2 g C C9 n : Nat} {A9 : Option Addr} {E : TypeId} {ps : List ProdS} {al : List (List SymS)} (OX : OwnL ProdRow S w base 37 3 (.slice (some ⟨g, 0, none⟩) ps.length C) ps) (hn : n < ps.length)
    (OA : OwnL AltRow (g :: S) w base2 E 1 (.slice A9 al.length C9) al) (hb2 : ∀ b ∈ g :: S, b < base2) :
    OwnL ProdRow S (w.setCell ⟨g, n * 3, none⟩ (.slice A9 al.length C9)) base 37 3 (.slice (some ⟨g, 0, none⟩) ps.length C) (ps.set n ⟨al, ps[n].marks, ps[n].nt⟩) := by
  have hA := OA.read (S' := g :: S) altRow_stab (fun b hb => .inl hb) (fun b hb hb' => by have h1 := (OA.base b hb).1; have := hb2 b hb'; omega)
  refine OwnL.store prodRow_stab OX n 0 _ _ hn (by omega) (fun row hr hR => ?_)
  obtain ⟨A2, C2, N2, F2, rfl, h2, h3⟩ := hR
  exact ⟨A9, C9, N2, F2, rfl, hA, h3⟩
/-- Since W the row g alone has turned of what was there: it is the nonterminals ps with alternatives al at n. -/
def AltsIn (S : List Nat) (W : World) (base g C : Nat) (ps : List ProdS) (n : Nat) (al : List (List SymS)) (wx : World) : Prop :=
  Keep [g] W wx ∧ ∃ p, ps[n]? = some p ∧ OwnL ProdRow S wx base 37 3 (.slice (some ⟨g, 0, none⟩) ps.length C) (ps.set n ⟨al, p.marks, p.nt⟩)
theorem altsIn {W w : World} {S : List Nat} {base g C C9 n k9 : Nat} {A9 : Option Addr} {E : TypeId} {ps : List ProdS} {al : List (List SymS)} (OX : OwnL ProdRow S W base 37 3 (.slice (some ⟨g, 0, none⟩) ps.length C) ps) (hn : n < ps.length) (K : Keep [] W w) (hS : ∀ b ∈ g :: S, b < W.heap.size)
    (hk : k9 = al.length) (OA : OwnL AltRow (g :: S) w W.heap.size E 1 (.slice A9 k9 C9) al) : AltsIn S W base g C ps n al (w.setCell ⟨g, n * 3, none⟩ (.slice A9 k9 C9)) := by
  subst hk
  exact ⟨(K.mono (by simp)).setCell (p := ⟨g, n * 3, none⟩) (.inl (by simp)) _, ps[n], List.getElem?_eq_getElem hn, own_alts (OX.move prodRow_stab K (by simp) (fun x hx => .inl hx)) hn OA hS⟩
theorem one_src {S : List Nat} {w0 w : World} {b n C : Nat} {A : Option Addr} {T : TypeId} {a : List SymS} (H : Syms [] w0 (.slice A n C) a) (K : Keep [] w0 w) (hS : ∀ x ∈ S, w0.heap.size ≤ x) (B : Blk w b #[.slice A n C] T) (hb : b ∉ S) : Alts S w (.slice (some ⟨b, 0, none⟩) 1 1) [a] :=
  one_alt B hb (SlOf.len H).1 (SlOf.move H symRow_stab (by omega) K (by simp) (fun x hx => .inr (hS x hx)))
end Go.Proofs.YtacihjabkiedcaaGreatDoor
