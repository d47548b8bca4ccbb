/- What the texts of ranges and of grammars share: rows of ranges, of numbers, appends of data. -/
import Derived.Test.YtmfjddhckblbhaaGreatDoorM2
import Derived.BigQuiet
import Derived.Deep.AppendLies
import Derived.Deep.QuietTactic
import Derived.Deep.RegionHeld3
import Derived.Deep.RegionLaw
import Derived.IntWalk
import Derived.Laws.BitsLemmas
import Derived.Laws.BytesString
import Derived.Laws.EntriesVeiled
import Derived.Laws.MakeOwn
import Derived.Laws.OwnMore
import Derived.Laws.RangeAny
import Derived.Laws.RangeString
import Derived.Lib.AppendZeros
import Derived.Lib.ConvBytes
import Derived.Lib.Hide
import Derived.Lib.SliceRun
import Derived.Lib.SlicesCompact
import Derived.LoopIn
import Derived.LoopNIn
import Derived.MapKept
import Derived.Maps.AppendAt
import Derived.Maps.OwnIn
import Derived.Outline
import Derived.OwnWalk
import Derived.OwnWalkIn
import Derived.RangeFuncBound
import Derived.RangeFuncCalls
import Derived.RangeFuncLeaves
import Derived.RangeFuncNested
import Derived.Shelf.Abstract
import Derived.Shelf.RegionOpen
import Derived.Shelf.SlicesG.Cmp
import Derived.Sort.Grow
import Derived.Sort.Row
import Derived.StillTailTactics
import Derived.Stop.RegionWithIn
import Derived.TacticsInMore
import Derived.WalkKit
import Derived.WalkLawsBesides
import Derived.WalkSpells
set_option linter.unusedVariables false
set_option linter.unusedSimpArgs false
namespace Go.Proofs.YtmfjddhckblbhaaGreatDoor
open Go Go.RowKit Go.MapKept Go.Sort

theorem Keep.cell {T : List Nat} {w w' : World} (K : Keep T w w') {a : Addr} {v : Value} (h : w.cell? a = some v) (ha : a.block ∉ T) : w'.cell? a = some v :=
  (World.cell?_of_block (K.block a.block (World.block_lt_of_cell? w a h) ha)).trans h
theorem Keep.ofGrown {w w' : World} {v : Value} (hg : w.grownBy w' v.ownBlock) : Keep (ownB v) w w' := ⟨hg.os, hg.tape, hg.output, hg.size, fun b hb hs => hg.block b hb (fun e => hs (by simp [ownB, ← e]))⟩
/-- What is asked of a predicate that is handed on: it only reads, and lays new blocks. -/
def Pred {α : Type} (R : List Nat → World → α → Array Value → Prop) (S : List Nat) (w : World) (g : Nat) (cap : Array Value) (arg : Array Value → Value) (pr : α → Bool) : Prop :=
  (∀ args w, (callFunc g args).run Tryz.prog w = .ok (.enter g args) w) ∧ ∀ (x : α) (row : Array Value) (w' : World), Keep [] w w' → R S w' x row → Calls Tryz.prog g (#[arg row] ++ cap) w' fun e w'' => e = .returned (.bool (pr x)) ∧ Keep [] w' w''
def RngRow (_S : List Nat) (_w : World) (x : Rng) (row : Array Value) : Prop := row = #[.int .i64 x.lo, .int .i64 x.hi]
theorem rngRow_stab : Stab RngRow := fun _ _ _ _ _ _ _ h _ _ _ => h
theorem Rngs.of {S : List Nat} {w : World} {v : Value} {l : List Rng} (h : Rngs S w v l) : SlOf RngRow S w 2 v l := ⟨_, h, by simp, fun i hi hi' => by simp [RngRow, Rng.row]⟩
theorem flat_at (k : Nat) : ∀ (l : List (Array Value)), (∀ i (h : i < l.length), l[i].size = k) → ∀ i (h : i < l.length) j, j < k → (l.flatMap Array.toList)[i * k + j]? = l[i][j]? := by
  intro l
  induction l with
  | nil => intro _ i h; simp at h
  | cons a l ih =>
    intro hl i hi j hj
    have ha : a.size = k := hl 0 (by simp)
    cases i with
    | zero =>
      simp only [List.flatMap_cons, Nat.zero_mul, Nat.zero_add, List.getElem_cons_zero]
      rw [List.getElem?_append_left (by simp [ha]; exact hj)]
      simp
    | succ i =>
      simp only [List.flatMap_cons, List.getElem_cons_succ]
      rw [List.getElem?_append_right (by simp [ha, Nat.succ_mul]; omega)]
      rw [show (i + 1) * k + j - a.toList.length = i * k + j by simp [ha, Nat.succ_mul]; omega]
      exact ih (fun i h => hl (i + 1) (by simpa using h)) i (by simpa using hi) j hj
theorem flat_len (k : Nat) : ∀ (l : List (Array Value)), (∀ i (h : i < l.length), l[i].size = k) → (l.flatMap Array.toList).length = l.length * k
  | [], _ => by simp
  | a :: l, h => by
    have ha : a.size = k := h 0 (by simp)
    rw [List.flatMap_cons, List.length_append, flat_len k l (fun i hi => h (i + 1) (by simpa using hi))]
    simp [ha, Nat.succ_mul]; omega
theorem add_none (b o j : Nat) : (⟨b, o, none⟩ : Addr).add j = ⟨b, o + j, none⟩ := by unfold Addr.add; split <;> simp_all
/-- The cells of a slice, as what is appended. -/
theorem Sl.news {S : List Nat} {w : World} {k : Nat} {b o c : Nat} {xs : List (Array Value)} (hk : 0 < k) (h : Sl S w k (.slice (some ⟨b, o, none⟩) xs.length c) xs) : ∀ j u, (xs.flatMap Array.toList)[j]? = some u → w.cell? ((⟨b, o, none⟩ : Addr).add j) = some u := by
  obtain ⟨a, c', hv, hm, hr⟩ := h
  simp only [Value.slice.injEq, true_and] at hv
  obtain ⟨rfl, _⟩ := hv
  intro j u hj
  have hlt : j < (xs.flatMap Array.toList).length := (List.getElem?_eq_some_iff.1 hj).1
  by_cases h0 : 0 < xs.length
  · obtain ⟨b', o', he, hb, hc⟩ := hr h0
    simp only [Option.some.injEq, Addr.mk.injEq, and_true] at he
    obtain ⟨rfl, rfl⟩ := he
    rw [flat_len k xs (fun i hi => (hc i hi).1)] at hlt
    have hi : j / k < xs.length := Nat.div_lt_of_lt_mul (by rw [Nat.mul_comm]; exact hlt)
    have hjk : j % k < k := Nat.mod_lt _ hk
    have e : j = j / k * k + j % k := by rw [Nat.mul_comm]; exact (Nat.div_add_mod j k).symm
    rw [add_none, show o + j = o + j / k * k + j % k by omega, (hc _ hi).2 _ hjk, ← hj]
    conv => rhs; rw [e]
    exact (flat_at k xs (fun i hi => (hc i hi).1) _ hi _ hjk).symm
  · have : xs = [] := List.eq_nil_of_length_eq_zero (by omega)
    subst this
    simp at hj
theorem Rngs.back {S : List Nat} {w : World} {v : Value} {l : List Rng} (h : SlOf RngRow S w 2 v l) : Rngs S w v l := by
  obtain ⟨rows, h1, h2, h3⟩ := h
  have e : rows = l.map Rng.row := by
    refine List.ext_getElem (by simp [h2]) (fun i hi hi' => ?_)
    have := h3 i (by omega) hi
    rw [List.getElem_map]
    exact this
  rw [e] at h1
  exact h1
theorem info_rng : (Tryz.prog.info? 44).map (fun i => (i.zero, i.size, i.bytes)) = some (some (.agg #[.int .i64 0, .int .i64 0]), 2, 16) := by kernel_rfl

theorem SlOf.pick {α : Type} {R : List Nat → World → α → Array Value → Prop} {S : List Nat} {w : World} {k n C : Nat} {A : Option Addr} {xs : List α} (h : SlOf R S w k (.slice A n C) xs) (i : Nat) (hi : i < xs.length) :
    ∃ b o, A = some ⟨b, o, none⟩ ∧ b ∉ S ∧ ∃ row : Array Value, row.size = k ∧ (∀ j, j < k → w.cell? ⟨b, o + i * k + j, none⟩ = row[j]?) ∧ R S w xs[i] row := by
  obtain ⟨A', C', hv, _, hr⟩ := SlOf.at h
  simp only [Value.slice.injEq] at hv
  obtain ⟨rfl, _, _⟩ := hv
  obtain ⟨b, o, ha, hb, hc⟩ := hr (by omega)
  exact ⟨b, o, ha, hb, hc i hi⟩
theorem Rngs.pick {S : List Nat} {w : World} {A : Option Addr} {n C : Nat} {l : List Rng} (h : Rngs S w (.slice A n C) l) (k : Nat) (hk : k < l.length) :
    ∃ b o, A = some ⟨b, o, none⟩ ∧ b ∉ S ∧ w.cell? ⟨b, o + k * 2, none⟩ = some (.int .i64 l[k].lo) ∧ w.cell? ⟨b, o + k * 2 + 1, none⟩ = some (.int .i64 l[k].hi) := by
  obtain ⟨b, o, ha, hb, row, _, hc, hR⟩ := SlOf.pick (Rngs.of h) k hk
  rw [show row = _ from hR] at hc
  exact ⟨b, o, ha, hb, by first | (simp; done) | simpa using hc 0 (by omega), by first | (simp; done) | simpa using hc 1 (by omega)⟩
theorem SlOf.len {α : Type} {R : List Nat → World → α → Array Value → Prop} {S : List Nat} {w : World} {k n C : Nat} {A : Option Addr} {xs : List α} (h : SlOf R S w k (.slice A n C) xs) : n = xs.length ∧ xs.length ≤ 9223372036854775807 ∧ xs.length ≤ C := by
  obtain ⟨A', C', hv, hm, _⟩ := SlOf.at h
  simp only [Value.slice.injEq] at hv
  obtain ⟨_, rfl, rfl⟩ := hv
  exact ⟨rfl, hm⟩
theorem Rngs.len {S : List Nat} {w : World} {n C : Nat} {A : Option Addr} {xs : List Rng} (h : Rngs S w (.slice A n C) xs) : n = xs.length ∧ xs.length ≤ 9223372036854775807 ∧ xs.length ≤ C := SlOf.len (Rngs.of h)
theorem Rngs.mv0 {S : List Nat} {w w' : World} {v : Value} {ps : List Rng} (h : Rngs S w v ps) (K : Keep [] w w') : Rngs S w' v ps := Sl.move h (by omega) K (by simp) (fun _ hx => .inl hx)
/-- Behind an append of several elements. -/
theorem OwnL.appendL {α : Type} {R : List Nat → World → α → Array Value → Prop} {S : List Nat} {w w' : World} {base : Nat} {E : TypeId} {k g cap : Nat} {v : Value} {xs ys : List α} (rows : List (Array Value)) (h1 : rows.length = xs.length)
    (h3 : ∀ i (h : i < xs.length) (h' : i < rows.length), rows[i].size = k ∧ R (ownB v ++ S) w xs[i] rows[i]) (st : Stab R) (rows2 : List (Array Value)) (h2 : rows2.length = ys.length) (h4 : ∀ i (h : i < ys.length) (h' : i < rows2.length), rows2[i].size = k ∧ R (ownB v ++ S) w ys[i] rows2[i])
    (ho : w'.ownsRow base E k (.slice (some ⟨g, 0, none⟩) (xs.length + ys.length) cap) (xs.length + ys.length) (rows.flatMap Array.toList ++ rows2.flatMap Array.toList)) (hg : w.grownBy w' v.ownBlock) (hw : v.ownBlock = some g ∨ g = w.heap.size) :
    OwnL R S w' base E k (.slice (some ⟨g, 0, none⟩) (xs.length + ys.length) cap) (xs ++ ys) := by
  have K : Keep (ownB v) w w' := ⟨hg.os, hg.tape, hg.output, hg.size, fun b hb hs => hg.block b hb (fun e => hs (by simp [ownB, ← e]))⟩
  have hS : ∀ b ∈ ownB (.slice (some ⟨g, 0, none⟩) (xs.length + ys.length) cap) ++ S, b ∈ ownB v ++ S ∨ w.heap.size ≤ b := by
    intro b hb
    rcases List.mem_append.1 hb with hb | hb
    · have : b = g := by simpa [ownB, Value.ownBlock, eq_comm] using hb
      subst this
      rcases hw with hw | hw
      · exact .inl (by simp [ownB, hw])
      · exact .inr (by omega)
    · exact .inl (by simp [hb])
  have hT : ∀ b ∈ ownB v, b ∈ ownB v ++ S ∨ w.heap.size ≤ b := fun b hb => .inl (by simp [hb])
  refine ⟨rows ++ rows2, by simp [h1, h2], ?_, fun i hi hi' => ?_⟩
  · rw [List.length_append, List.flatMap_append]
    exact ho
  · by_cases e : i < rows.length
    · have e2 : (xs ++ ys)[i] = xs[i]'(by omega) := List.getElem_append_left (by omega)
      have e3 : (rows ++ rows2)[i] = rows[i] := List.getElem_append_left e
      rw [e2, e3]
      exact ⟨(h3 i (by omega) e).1, st _ _ _ _ _ _ _ (h3 i (by omega) e).2 K hT hS⟩
    · have hl : i - rows.length < ys.length := by simp at hi; omega
      have e2 : (xs ++ ys)[i] = ys[i - rows.length] := by rw [List.getElem_append_right (by omega)]; simp only [h1]
      have e3 : (rows ++ rows2)[i] = rows2[i - rows.length]'(by omega) := List.getElem_append_right (by omega)
      rw [e2, e3]
      exact ⟨(h4 _ hl (by omega)).1, st _ _ _ _ _ _ _ (h4 _ hl (by omega)).2 K hT hS⟩
theorem run_append_none' {t e ty : TypeId} {i : TypeInfo} (ht : Tryz.prog.underlying t = some (.slice e)) (hi : Tryz.prog.info? e = some i) (w : World) (A : Option Addr) (n cap : Nat) (B : Option Addr) (c : Nat) (h : n ≤ cap) :
    (Builtin.append_ #[t, t] ty #[.slice A n cap, .slice B 0 c]).run Tryz.prog w = .ok (.slice A n cap) w := by
  cases A <;> cases B <;> simp [Builtin.append_, run_underlying ht, sizeOf, typeInfo, hi, h, Builtin.lenOf, Builtin.firstCells, loadCells, loadCellsFrom, storeCells]
/-- All cells of an element are single ones. -/
def OneC {α : Type} (R : List Nat → World → α → Array Value → Prop) : Prop := ∀ S w x row, R S w x row → ∀ u ∈ row.toList, u.oneCell' = true
theorem run_append_data {α : Type} {R : List Nat → World → α → Array Value → Prop} (st : Stab R) (hone : OneC R) {t e ty : TypeId} {i : TypeInfo} {z : Value} {k bytes : Nat} (ht : Tryz.prog.underlying t = some (.slice e)) (hi : Tryz.prog.info? e = some i) (hz : i.zero = some z)
    (hsz : i.size = k) (hby : i.bytes = bytes) (hzk : z.cells.size = k) (hk : 0 < k) {S : List Nat} {w : World} {base : Nat} {v : Value} {xs ys : List α} {A : Option Addr} {m C : Nat}
    (h : OwnL R S w base e k v xs) (hy : SlOf R (ownB v ++ S) w k (.slice A m C) ys) (hl : xs.length + ys.length ≤ 1000000) (hb : (xs.length + ys.length) * bytes ≤ 140737488355328) (hbase : base ≤ w.heap.size) :
    ∃ A' C' w', (Builtin.append_ #[t, t] ty #[v, .slice A m C]).run Tryz.prog w = .ok (.slice A' (xs.length + ys.length) C') w' ∧ OwnL R S w' base e k (.slice A' (xs.length + ys.length) C') (xs ++ ys) ∧ Keep (ownB v) w w' ∧ ∀ b ∈ ownB (.slice A' (xs.length + ys.length) C'), b ∈ ownB v ∨ b = w.heap.size := by
  obtain ⟨hm, _, _⟩ := SlOf.len hy
  subst hm
  by_cases h0 : ys.length = 0
  · obtain rfl : ys = [] := List.eq_nil_of_length_eq_zero h0
    have h' := h
    obtain ⟨A', C', rfl⟩ := h.slice
    obtain ⟨rows, h1, h2, h3⟩ := h
    have hcap : xs.length ≤ C' := by
      rcases h2.2 with ⟨_, h4⟩ | ⟨g, cap, cur, hv, _, _, h4, _⟩
      · omega
      · simp only [Value.slice.injEq] at hv; omega
    refine ⟨A', C', w, run_append_none' ht hi w A' xs.length C' A C hcap, by rw [List.append_nil]; exact h', (Keep.refl [] w).mono (by simp), fun b hb => .inl hb⟩
  · obtain ⟨rows, hlr, hown, hel⟩ := h
    obtain ⟨rows2, hs2, hlr2, hel2⟩ := hy
    have hs2' := hs2
    obtain ⟨a5, c5, hv5, hm5, hr5⟩ := hs2'
    rw [hlr2] at hv5
    simp only [Value.slice.injEq, true_and] at hv5
    obtain ⟨rfl, rfl⟩ := hv5
    obtain ⟨b5, o5, rfl, hb5, hc5⟩ := hr5 (by omega)
    have hrs : ∀ i (h : i < rows2.length), rows2[i].size = k := fun i hi => (hc5 i hi).1
    rw [← hlr2] at hs2
    have hnews := Sl.news hk hs2
    have hnl := flat_len k rows2 hrs
    have h1c : ∀ u ∈ rows2.flatMap Array.toList, u.oneCell' = true := fun u hu => by
      obtain ⟨x, hx, hu⟩ := List.mem_flatMap.1 hu
      obtain ⟨i, hi, rfl⟩ := List.getElem_of_mem hx
      exact hone _ _ _ _ (hel2 i (by omega) hi) u hu
    obtain ⟨g, cap, w', hr, ho, hg, hw, _⟩ := run_append_lies (P := Tryz.prog) w t ty base e i z k bytes ht hi hz hsz hby hzk hk v xs.length _ hown ⟨b5, o5, none⟩ rows2.length C _ hnl hnews h1c (by omega) (by unfold maxLen; omega) (by rw [hlr2]; exact hb) hbase _ rfl
    rw [hlr2] at hr ho
    refine ⟨_, _, w', hr, OwnL.appendL (S := S) rows hlr hel st rows2 hlr2 (fun i hi hi' => ⟨hrs i hi', hel2 i hi hi'⟩) ho hg hw, Keep.ofGrown hg, fun b hb => ?_⟩
    have : b = g := by simpa [ownB, Value.ownBlock, eq_comm] using hb
    subst this
    rcases hw with hw | hw
    · exact .inl (by simp [ownB, hw])
    · exact .inr hw
/-- At the operation. -/
theorem wp_append_data {α : Type} {R : List Nat → World → α → Array Value → Prop} (st : Stab R) (hone : OneC R) {o : Oper} {a : Act} {K : Act → World → Prop} {Q : Exit → Act → World → Prop} (s x : Operand) (t : TypeId)
    (ho : o.op = .call { callee := .builtin .append, args := #[s, x], argTypes := #[t, t] }) {e : TypeId} {i : TypeInfo} {z : Value} {k bytes : Nat} (ht : Tryz.prog.underlying t = some (.slice e)) (hi : Tryz.prog.info? e = some i) (hz : i.zero = some z)
    (hsz : i.size = k) (hby : i.bytes = bytes) (hzk : z.cells.size = k) (hk : 0 < k) {S : List Nat} {w : World} {base : Nat} {v : Value} {xs ys : List α} {A : Option Addr} {m C : Nat} (hs : a.eval s = v) (hx : a.eval x = .slice A m C)
    (h : OwnL R S w base e k v xs) (hy : SlOf R (ownB v ++ S) w k (.slice A m C) ys) (hl : xs.length + ys.length ≤ 1000000) (hb : (xs.length + ys.length) * bytes ≤ 140737488355328) (hbase : base ≤ w.heap.size)
    (hK : ∀ A' C' w', OwnL R S w' base e k (.slice A' (xs.length + ys.length) C') (xs ++ ys) → Keep (ownB v) w w' → (∀ b ∈ ownB (.slice A' (xs.length + ys.length) C'), b ∈ ownB v ∨ b = w.heap.size) → K (a.put o.dst (.slice A' (xs.length + ys.length) C')) w') : o.wp Tryz.prog a w K Q := by
  obtain ⟨A', C', w', hr, h2, h3, h4⟩ := run_append_data (ty := o.type) st hone ht hi hz hsz hby hzk hk h hy hl hb hbase
  unfold Oper.wp execOp
  simp only [ho, resolve, invoke, builtin, Sem.run_bind, Sem.run_pure, Result.andThen_ok, List.map_toArray, List.map_cons, List.map_nil, hs, hx, hr]
  exact hK A' C' w' h2 h3 h4
theorem wpList_append_data {α : Type} {R : List Nat → World → α → Array Value → Prop} (st : Stab R) (hone : OneC R) {ops : Array Oper} {rest : List Oper} {o : Oper} {a : Act} {Q : Exit → Act → World → Prop} (hgd : o.guard = none) (s x : Operand) (t : TypeId)
    (ho : o.op = .call { callee := .builtin .append, args := #[s, x], argTypes := #[t, t] }) {e : TypeId} {i : TypeInfo} {z : Value} {k bytes : Nat} (ht : Tryz.prog.underlying t = some (.slice e)) (hi : Tryz.prog.info? e = some i) (hz : i.zero = some z)
    (hsz : i.size = k) (hby : i.bytes = bytes) (hzk : z.cells.size = k) (hk : 0 < k) {S : List Nat} {w : World} {base : Nat} {v : Value} {xs ys : List α} {A : Option Addr} {m C : Nat} (hs : a.eval s = v) (hx : a.eval x = .slice A m C)
    (h : OwnL R S w base e k v xs) (hy : SlOf R (ownB v ++ S) w k (.slice A m C) ys) (hl : xs.length + ys.length ≤ 1000000) (hb : (xs.length + ys.length) * bytes ≤ 140737488355328) (hbase : base ≤ w.heap.size)
    (hK : ∀ A' C' w', OwnL R S w' base e k (.slice A' (xs.length + ys.length) C') (xs ++ ys) → Keep (ownB v) w w' → (∀ b ∈ ownB (.slice A' (xs.length + ys.length) C'), b ∈ ownB v ∨ b = w.heap.size) → wpList Tryz.prog ops Q rest (a.put o.dst (.slice A' (xs.length + ys.length) C')) w') : wpList Tryz.prog ops Q (o :: rest) a w :=
  wpList_plain hgd fun _ hk2 => wp_append_data st hone s x t ho ht hi hz hsz hby hzk hk hs hx h hy hl hb hbase fun A' C' w' h2 h3 h4 => hk2 _ _ (hK A' C' w' h2 h3 h4)
theorem step_append_data {α : Type} {R : List Nat → World → α → Array Value → Prop} (st : Stab R) (hone : OneC R) {ops : Array Oper} {o : Oper} {a : Act} {K : Act → World → Prop} {Q : Exit → Act → World → Prop} {Z : Prop} (hgd : o.guard = none) (s x : Operand) (t : TypeId)
    (ho : o.op = .call { callee := .builtin .append, args := #[s, x], argTypes := #[t, t] }) {e : TypeId} {i : TypeInfo} {z : Value} {k bytes : Nat} (ht : Tryz.prog.underlying t = some (.slice e)) (hi : Tryz.prog.info? e = some i) (hz : i.zero = some z)
    (hsz : i.size = k) (hby : i.bytes = bytes) (hzk : z.cells.size = k) (hk : 0 < k) {S : List Nat} {w : World} {base : Nat} {v : Value} {xs ys : List α} {A : Option Addr} {m C : Nat} (hs : a.eval s = v) (hx : a.eval x = .slice A m C)
    (h : OwnL R S w base e k v xs) (hy : SlOf R (ownB v ++ S) w k (.slice A m C) ys) (hl : xs.length + ys.length ≤ 1000000) (hb : (xs.length + ys.length) * bytes ≤ 140737488355328) (hbase : base ≤ w.heap.size)
    (hK : ∀ A' C' w', OwnL R S w' base e k (.slice A' (xs.length + ys.length) C') (xs ++ ys) → Keep (ownB v) w w' → (∀ b ∈ ownB (.slice A' (xs.length + ys.length) C'), b ∈ ownB v ∨ b = w.heap.size) → K (a.put o.dst (.slice A' (xs.length + ys.length) C')) w') :
    if Region.wanted o (yielded ops a.tmps) = true then Oper.wp Tryz.prog o a w K Q else Z := by
  have hw : Region.wanted o (yielded ops a.tmps) = true := by simp [Region.wanted, hgd]
  rw [if_pos hw]
  exact wp_append_data st hone s x t ho ht hi hz hsz hby hzk hk hs hx h hy hl hb hbase hK
theorem flat_setJ (k : Nat) : ∀ (l : List (Array Value)) (n j : Nat) (u : Value), (∀ i (h : i < l.length), l[i].size = k) → j < k → (h : n < l.length) → (l.flatMap Array.toList).set (n * k + j) u = (l.set n (l[n].setIfInBounds j u)).flatMap Array.toList
  | [], n, j, u, hl, hj, h => by simp at h
  | a :: l, 0, j, u, hl, hj, h => by
    have ha : a.size = k := hl 0 (by simp)
    simp only [List.flatMap_cons, List.set_cons_zero, List.getElem_cons_zero, Nat.zero_mul, Nat.zero_add]
    rw [List.set_append_left _ _ (by simp [ha]; exact hj), Array.toList_setIfInBounds]
  | a :: l, n + 1, j, u, hl, hj, h => by
    have ha : a.size = k := hl 0 (by simp)
    have ih := flat_setJ k l n j u (fun i hi => hl (i + 1) (by simpa using hi)) hj (by simpa using h)
    simp only [List.flatMap_cons, List.set_cons_succ, List.getElem_cons_succ]
    rw [List.set_append_right _ _ (by simp [ha, Nat.succ_mul]; omega), ← ih]
    congr 2
    simp [ha, Nat.succ_mul]; omega
/-- One cell of one element is stored. -/
theorem OwnL.store {α : Type} {R : List Nat → World → α → Array Value → Prop} (st : Stab R) {S : List Nat} {w : World} {base g C : Nat} {E : TypeId} {k : Nat} {xs : List α} (h : OwnL R S w base E k (.slice (some ⟨g, 0, none⟩) xs.length C) xs) (n j : Nat) (u : Value) (x : α)
    (hn : n < xs.length) (hj : j < k) (hx : ∀ row : Array Value, row.size = k → R ([g] ++ S) w xs[n] row → R ([g] ++ S) w x (row.setIfInBounds j u)) :
    OwnL R S (w.setCell ⟨g, n * k + j, none⟩ u) base E k (.slice (some ⟨g, 0, none⟩) xs.length C) (xs.set n x) := by
  obtain ⟨rows, h1, h2, h3⟩ := h
  have hob : ownB (.slice (some ⟨g, 0, none⟩) xs.length C) = [g] := rfl
  rw [hob] at h3
  have K : Keep [g] w (w.setCell ⟨g, n * k + j, none⟩ u) := (Keep.refl [g] w).setCell (.inl (by simp)) u
  have hrs : ∀ i (h : i < rows.length), rows[i].size = k := fun i hi => (h3 i (by omega) hi).1
  refine ⟨rows.set n ((rows[n]'(by omega)).setIfInBounds j u), by simp [h1], ?_, fun i hi hi' => ?_⟩
  · have hfl := flat_len k rows hrs
    have hfs := flat_setJ k rows n j u hrs hj (by omega)
    obtain ⟨hA, hB⟩ := h2
    rw [← hfs]
    rw [List.length_set]
    refine ⟨by rw [List.length_set]; exact hA, ?_⟩
    rcases hB with ⟨h4, h5⟩ | ⟨g', cap, cur, hv, hb, hgg, hnc, hcm, hcs, htk⟩
    · omega
    · right
      simp only [Value.slice.injEq, Option.some.injEq, Addr.mk.injEq, and_true, true_and] at hv
      obtain ⟨rfl, rfl⟩ := hv
      have hlt : n * k + j < cur.size := by
        rw [hcs]
        have h6 : (n + 1) * k ≤ xs.length * k := Nat.mul_le_mul_right k hn
        have h7 : xs.length * k ≤ C * k := Nat.mul_le_mul_right k hnc
        rw [Nat.succ_mul] at h6
        omega
      refine ⟨g, C, cur.setIfInBounds (n * k + j) u, rfl, hb, ?_, hnc, hcm, by simp [hcs], ?_⟩
      · simp [World.setCell, Array.getElem?_modify, hgg]
      · rw [Array.toList_setIfInBounds, List.take_set, htk]
  · rw [hob]
    have hT : ∀ b ∈ [g], b ∈ [g] ++ S ∨ w.heap.size ≤ b := fun b hb => .inl (by simp at hb; simp [hb])
    have hSS : ∀ b ∈ [g] ++ S, b ∈ [g] ++ S ∨ w.heap.size ≤ b := fun b hb => .inl hb
    by_cases e : n = i
    · subst e
      simp only [List.getElem_set_self]
      refine ⟨by rw [Array.size_setIfInBounds]; exact hrs _ _, st _ _ _ _ _ _ _ (hx _ (hrs _ _) (h3 n hn (by omega)).2) K hT hSS⟩
    · simp only [List.getElem_set_ne e]
      exact ⟨hrs i (by simpa using hi'), st _ _ _ _ _ _ _ (h3 i (by simpa using hi) (by simpa using hi')).2 K hT hSS⟩
/-- append(nil, src...). -/
theorem wp_append_new {α : Type} {R : List Nat → World → α → Array Value → Prop} (st : Stab R) (hone : OneC R) {o : Oper} {a : Act} {K : Act → World → Prop} {Q : Exit → Act → World → Prop} (s x : Operand) (t : TypeId)
    (ho : o.op = .call { callee := .builtin .append, args := #[s, x], argTypes := #[t, t] }) {e : TypeId} {i : TypeInfo} {z : Value} {k bytes : Nat} (ht : Tryz.prog.underlying t = some (.slice e)) (hi : Tryz.prog.info? e = some i) (hz : i.zero = some z)
    (hsz : i.size = k) (hby : i.bytes = bytes) (hzk : z.cells.size = k) (hk : 0 < k) (S : List Nat) {w : World} (base : Nat) {ys : List α} (A : Option Addr) (m C : Nat) (hs : a.eval s = .slice none 0 0) (hx : a.eval x = .slice A m C)
    (hy : SlOf R S w k (.slice A m C) ys) (hl : ys.length ≤ 1000000) (hb : ys.length * bytes ≤ 140737488355328) (hbase : base ≤ w.heap.size)
    (hK : ∀ A' C' w', OwnL R S w' base e k (.slice A' ys.length C') ys → Keep [] w w' → (∀ b ∈ ownB (.slice A' ys.length C'), b = w.heap.size) → K (a.put o.dst (.slice A' ys.length C')) w') : o.wp Tryz.prog a w K Q := by
  refine wp_append_data st hone s x t ho ht hi hz hsz hby hzk hk (S := S) (base := base) (v := .slice none 0 0) (xs := []) hs hx (OwnL.nil _ _ _ _ _) hy (by simpa using hl) (by simpa using hb) hbase (fun A' C' w' h1 h2 h3 => ?_)
  simp only [List.length_nil, Nat.zero_add, List.nil_append] at h1 h3 ⊢
  exact hK A' C' w' h1 (h2.mono (by simp [ownB, Value.ownBlock])) (fun b hb => by
    rcases h3 b hb with h | h
    · simp [ownB, Value.ownBlock] at h
    · exact h)
theorem wpList_append_new {α : Type} {R : List Nat → World → α → Array Value → Prop} (st : Stab R) (hone : OneC R) {ops : Array Oper} {rest : List Oper} {o : Oper} {a : Act} {Q : Exit → Act → World → Prop} (hgd : o.guard = none) (s x : Operand) (t : TypeId)
    (ho : o.op = .call { callee := .builtin .append, args := #[s, x], argTypes := #[t, t] }) {e : TypeId} {i : TypeInfo} {z : Value} {k bytes : Nat} (ht : Tryz.prog.underlying t = some (.slice e)) (hi : Tryz.prog.info? e = some i) (hz : i.zero = some z)
    (hsz : i.size = k) (hby : i.bytes = bytes) (hzk : z.cells.size = k) (hk : 0 < k) (S : List Nat) {w : World} (base : Nat) {ys : List α} (A : Option Addr) (m C : Nat) (hs : a.eval s = .slice none 0 0) (hx : a.eval x = .slice A m C)
    (hy : SlOf R S w k (.slice A m C) ys) (hl : ys.length ≤ 1000000) (hb : ys.length * bytes ≤ 140737488355328) (hbase : base ≤ w.heap.size)
    (hK : ∀ A' C' w', OwnL R S w' base e k (.slice A' ys.length C') ys → Keep [] w w' → (∀ b ∈ ownB (.slice A' ys.length C'), b = w.heap.size) → wpList Tryz.prog ops Q rest (a.put o.dst (.slice A' ys.length C')) w') : wpList Tryz.prog ops Q (o :: rest) a w :=
  wpList_plain hgd fun _ hk2 => wp_append_new st hone s x t ho ht hi hz hsz hby hzk hk S base A m C hs hx hy hl hb hbase fun A' C' w' h2 h3 h4 => hk2 _ _ (hK A' C' w' h2 h3 h4)
theorem step_append_new {α : Type} {R : List Nat → World → α → Array Value → Prop} (st : Stab R) (hone : OneC R) {ops : Array Oper} {o : Oper} {a : Act} {K : Act → World → Prop} {Q : Exit → Act → World → Prop} {Z : Prop} (hgd : o.guard = none) (s x : Operand) (t : TypeId)
    (ho : o.op = .call { callee := .builtin .append, args := #[s, x], argTypes := #[t, t] }) {e : TypeId} {i : TypeInfo} {z : Value} {k bytes : Nat} (ht : Tryz.prog.underlying t = some (.slice e)) (hi : Tryz.prog.info? e = some i) (hz : i.zero = some z)
    (hsz : i.size = k) (hby : i.bytes = bytes) (hzk : z.cells.size = k) (hk : 0 < k) (S : List Nat) {w : World} (base : Nat) {ys : List α} (A : Option Addr) (m C : Nat) (hs : a.eval s = .slice none 0 0) (hx : a.eval x = .slice A m C)
    (hy : SlOf R S w k (.slice A m C) ys) (hl : ys.length ≤ 1000000) (hb : ys.length * bytes ≤ 140737488355328) (hbase : base ≤ w.heap.size)
    (hK : ∀ A' C' w', OwnL R S w' base e k (.slice A' ys.length C') ys → Keep [] w w' → (∀ b ∈ ownB (.slice A' ys.length C'), b = w.heap.size) → K (a.put o.dst (.slice A' ys.length C')) w') :
    if Region.wanted o (yielded ops a.tmps) = true then Oper.wp Tryz.prog o a w K Q else Z := by
  have hw : Region.wanted o (yielded ops a.tmps) = true := by simp [Region.wanted, hgd]
  rw [if_pos hw]
  exact wp_append_new st hone s x t ho ht hi hz hsz hby hzk hk S base A m C hs hx hy hl hb hbase hK
/-- Where a slice of the call's own lies that is not empty. -/
theorem OwnL.form {α : Type} {R : List Nat → World → α → Array Value → Prop} {S : List Nat} {w : World} {base : Nat} {E : TypeId} {k n C : Nat} {A : Option Addr} {xs : List α} (h : OwnL R S w base E k (.slice A n C) xs) (h0 : 0 < xs.length) :
    ∃ g, A = some ⟨g, 0, none⟩ ∧ base ≤ g ∧ g < w.heap.size := by
  obtain ⟨rows, h1, h2, _⟩ := h
  obtain ⟨g, cap, hv, hb, hg⟩ := h2.form h0
  simp only [Value.slice.injEq] at hv
  exact ⟨g, hv.1, hb, hg⟩
theorem OwnL.frozen {α : Type} {R : List Nat → World → α → Array Value → Prop} {S : List Nat} {w : World} {base : Nat} {E : TypeId} {k n C g : Nat} {xs : List α} (h : OwnL R S w base E k (.slice (some ⟨g, 0, none⟩) n C) xs) (h0 : 0 < xs.length) (j : Nat) : w.frozen? ⟨g, j, none⟩ = false := by
  obtain ⟨rows, h1, h2, _⟩ := h
  rcases h2.2 with ⟨_, h3⟩ | ⟨g', cap, cur, hv, _, hg, _⟩
  · omega
  · simp only [Value.slice.injEq, Option.some.injEq, Addr.mk.injEq, and_true] at hv
    obtain ⟨rfl, _, _⟩ := hv
    simp [World.frozen?, hg]
def IntRow (_S : List Nat) (_w : World) (x : Int) (row : Array Value) : Prop := row = #[.int .i64 x]
theorem intRow_stab : Stab IntRow := fun _ _ _ _ _ _ _ h _ _ _ => h
theorem info_int : (Tryz.prog.info? 3).map (fun i => (i.zero, i.size, i.bytes)) = some (some (.int .i64 0), 1, 8) := by kernel_rfl
theorem intRow_one : OneC IntRow := by
  intro S w x row h u hu
  rw [show row = _ from h] at hu
  simp at hu
  subst hu
  rfl
/-- The slice v, of a row from block base on, has these numbers. -/
def IntV (w : World) (base : Nat) (v : Value) (xs : List Int) : Prop :=
  (xs = [] ∧ ∃ A C, v = .slice A 0 C) ∨ ∃ b o C, v = .slice (some ⟨b, o, none⟩) xs.length C ∧ base ≤ b ∧ b < w.heap.size ∧ xs.length ≤ C ∧ xs.length ≤ 1000000 ∧ Holds (Value.int .i64) w b o xs.toArray
theorem keep_putRow {α : Type} [Inhabited α] (enc : α → Value) (w : World) (n b o : Nat) (d : Array α) (os : Array Obj) : Keep [b] w (grow (putRow enc (Sort.ahead w n) b o d) os) := by
  refine ⟨rfl, rfl, rfl, ?_, fun k hk hS => ?_⟩
  · simp [grow, putRow, mapBlock, Sort.ahead]
  · have hb : ¬ b = k := by simpa using fun e => hS (by simp [e])
    have h1 : (grow (putRow enc (Sort.ahead w n) b o d) os).heap[k]? = (putRow enc (Sort.ahead w n) b o d).heap[k]? := heap_grow_old _ _ (by simpa [putRow, mapBlock, Sort.ahead] using hk)
    rw [h1]
    simp [putRow, mapBlock, ahead, Array.getElem?_modify, hb]
def sortI (xs : List Int) : List Int := xs.mergeSort fun x y => decide (x ≤ y)
/-- As slices.Compact leaves it. -/
def compI (xs : List Int) : List Int := Lib.compact xs
theorem compI_sub (xs : List Int) : (compI xs).length ≤ xs.length ∧ ∀ x ∈ compI xs, x ∈ xs := by
  unfold compI Lib.compact Lib.compactUpTo
  constructor
  · simp only [List.length_map]
    exact Nat.le_trans (List.length_filter_le _ _) (by simp)
  · intro x hx
    simp only [List.mem_map, List.mem_filter, List.mem_range] at hx
    obtain ⟨i, ⟨hi, _⟩, rfl⟩ := hx
    rw [getElem!_pos xs.toArray i (by simpa using hi)]
    simp
theorem IntV.cells {w : World} {base : Nat} {v : Value} {xs : List Int} (h : IntV w base v xs) : ∃ A C, v = .slice A xs.length C ∧ xs.length ≤ 1000000 ∧ (0 < xs.length → ∃ b o, A = some ⟨b, o, none⟩ ∧ ∀ j (hj : j < xs.length), w.cell? ⟨b, o + j, none⟩ = some (.int .i64 xs[j])) := by
  rcases h with ⟨rfl, A, C, rfl⟩ | ⟨b, o, C, rfl, _, _, _, hl, hH⟩
  · exact ⟨A, C, rfl, by simp, fun h => by simp at h⟩
  · refine ⟨_, C, rfl, hl, fun _ => ⟨b, o, rfl, fun j hj => ?_⟩⟩
    have := (hH j (by simpa using hj)).1
    rw [getElem!_pos _ j (by simpa using hj)] at this
    simpa using this
theorem IntV.keep {w w' : World} {base : Nat} {v : Value} {xs : List Int} {S : List Nat} (h : IntV w base v xs) (K : Keep S w w') (hS : ∀ b ∈ S, b < base) : IntV w' base v xs := by
  rcases h with h | ⟨b, o, C, h1, h2, h3, h4, h5, h6⟩
  · exact .inl h
  · refine .inr ⟨b, o, C, h1, h2, Nat.lt_of_lt_of_le h3 K.size, h4, h5, fun j hj => ?_⟩
    have hb := K.block b h3 (fun hb => by have := hS b hb; omega)
    obtain ⟨c1, c2⟩ := h6 j hj
    exact ⟨by rw [← c1]; simp only [World.cell?, hb], by rw [← c2]; simp only [World.frozen?, hb]⟩
theorem sortI_sorted (xs : List Int) : (sortI xs).Pairwise (fun a b => a ≤ b) := by
  have h := List.pairwise_mergeSort (le := fun x y : Int => decide (x ≤ y)) (fun a b c h1 h2 => by simp at h1 h2 ⊢; omega) (fun a b => by simp; omega) xs
  exact h.imp (fun h => by simpa using h)
theorem compI_mem (xs : List Int) (z : Int) (hz : z ∈ xs) : z ∈ compI xs := by
  have key : ∀ j, j < xs.length → xs.toArray[j]! ∈ compI xs := by
    intro j
    induction j with
    | zero =>
      intro h
      unfold compI Lib.compact Lib.compactUpTo
      exact List.mem_map.2 ⟨0, List.mem_filter.2 ⟨List.mem_range.2 h, Lib.keeps_lt_one _ 0 (by omega)⟩, rfl⟩
    | succ j ih =>
      intro h
      by_cases he : xs.toArray[j + 1]! = xs.toArray[j]!
      · rw [he]; exact ih (by omega)
      · unfold compI Lib.compact Lib.compactUpTo
        exact List.mem_map.2 ⟨j + 1, List.mem_filter.2 ⟨List.mem_range.2 h, Lib.keeps_pos (by simpa using he)⟩, rfl⟩
  obtain ⟨j, hj, rfl⟩ := List.getElem_of_mem hz
  have := key j hj
  rw [getElem!_pos xs.toArray j (by simpa using hj)] at this
  simpa using this
theorem compI_strict (xs : List Int) (h : xs.Pairwise (fun a b => a ≤ b)) : (compI xs).Pairwise (fun a b => a < b) := by
  unfold compI Lib.compact Lib.compactUpTo
  rw [List.pairwise_map, List.pairwise_filter]
  refine List.Pairwise.imp_of_mem ?_ (List.pairwise_lt_range (n := xs.length))
  intro i j hi hj hij _ hk
  have hj' := List.mem_range.1 hj
  have hget : ∀ k, k < xs.length → xs.toArray[k]! = xs[k]! := fun k hk => by
    rw [getElem!_pos xs.toArray k (by simpa using hk), getElem!_pos xs k hk]; simp
  have hne : xs.toArray[j]! ≠ xs.toArray[j - 1]! := by
    intro e
    have := Lib.keeps_neg (d := xs.toArray) (m := j) (by omega) e
    rw [this] at hk
    cases hk
  have hle : ∀ a b, a ≤ b → b < xs.length → xs.toArray[a]! ≤ xs.toArray[b]! := fun a b hab hb => by
    by_cases e : a = b
    · rw [e]; exact Int.le_refl _
    · rw [hget a (by omega), hget b hb, getElem!_pos xs a (by omega), getElem!_pos xs b hb]
      exact List.pairwise_iff_getElem.1 h a b (by omega) hb (by omega)
  have h1 := hle i (j - 1) (by omega) (by omega)
  have h2 := hle (j - 1) j (by omega) hj'
  omega
theorem OwnL.type {α : Type} {R : List Nat → World → α → Array Value → Prop} {S : List Nat} {w : World} {base : Nat} {E : TypeId} {k : Nat} {v : Value} {xs : List α} (h : OwnL R S w base E k v xs) : ∀ b ∈ ownB v, ∃ cs, w.heap[b]? = some (.cells cs E (0, 0)) := by
  obtain ⟨rows, _, h1, _⟩ := h
  intro b hb
  rcases h1.2 with ⟨rfl, _⟩ | ⟨g, cap, cur, rfl, _, hg, _⟩
  · simp [ownB, Value.ownBlock] at hb
  · have e : b = g := by simpa [ownB, Value.ownBlock, eq_comm] using hb
    subst e
    exact ⟨cur, hg⟩
/-- The head of the rounds: what has been gathered. -/
def GotAt (w2 : World) (v : Value) (l : List Int) (wr : World) : Prop := OwnL IntRow [] wr w2.heap.size 3 1 v l ∧ Keep [] w2 wr
theorem ints_flat (l : List Int) : ∀ rows : List (Array Value), rows.length = l.length → (∀ i (h : i < l.length) (h' : i < rows.length), rows[i] = #[.int .i64 l[i]]) → rows.flatMap Array.toList = l.map (Value.int .i64) := by
  intro rows h1 h2
  have : rows = l.map (fun x => #[Value.int .i64 x]) := by
    refine List.ext_getElem (by simp [h1]) (fun i hi hi' => ?_)
    rw [h2 i (by omega) hi, List.getElem_map]
  rw [this]
  clear this h2 h1
  induction l with
  | nil => rfl
  | cons a l ih => simp [ih]
theorem GotAt.ints {w2 wr : World} {v : Value} {l : List Int} (h : GotAt w2 v l wr) (hl : l.length ≤ 1000000) : IntV wr w2.heap.size v l := by
  have hs := h.1.slice
  have hr := h.1.read (S' := []) intRow_stab (by simp) (by simp)
  have hty := OwnL.type h.1
  have hba := h.1.base
  obtain ⟨A, C, rfl⟩ := hs
  obtain ⟨A', C', hv, hm, hc⟩ := SlOf.at hr
  simp only [Value.slice.injEq, true_and] at hv
  obtain ⟨rfl, rfl⟩ := hv
  by_cases h0 : l = []
  · subst h0
    exact .inl ⟨rfl, A, C, rfl⟩
  · have hp : 0 < l.length := List.length_pos_iff.2 h0
    obtain ⟨b, o, rfl, _, hcell⟩ := hc hp
    have hb := hba b (by simp [ownB, Value.ownBlock])
    obtain ⟨cs, hcs⟩ := hty b (by simp [ownB, Value.ownBlock])
    refine .inr ⟨b, o, C, rfl, hb.1, hb.2, hm.2, hl, fun j hj => ?_⟩
    have hj' : j < l.length := by simpa using hj
    obtain ⟨row, _, hrow, hR⟩ := hcell j hj'
    have e0 := hrow 0 (by omega)
    rw [hR] at e0
    simp at e0
    refine ⟨?_, by simp [World.frozen?, hcs]⟩
    rw [getElem!_pos _ j hj]
    simpa using e0
theorem rngSl_pick {S : List Nat} {w : World} {A : Option Addr} {n C : Nat} {l : List Rng} (h : SlOf RngRow S w 2 (.slice A n C) l) (k : Nat) (hk : k < l.length) :
    ∃ b o, A = some ⟨b, o, none⟩ ∧ b ∉ S ∧ w.cell? ⟨b, o + k * 2, none⟩ = some (.int .i64 l[k].lo) ∧ w.cell? ⟨b, o + k * 2 + 1, none⟩ = some (.int .i64 l[k].hi) := by
  obtain ⟨b, o, ha, hb, row, _, hc, hR⟩ := SlOf.pick h k hk
  rw [show row = _ from hR] at hc
  exact ⟨b, o, ha, hb, by first | (simp; done) | simpa using hc 0 (by omega), by first | (simp; done) | simpa using hc 1 (by omega)⟩
end Go.Proofs.YtmfjddhckblbhaaGreatDoor
namespace Go.Proofs.YtmfjddhckblbhaaGreatDoor
open Go Go.RowKit Go.MapKept Go.Shelf
attribute [local go_sem] Oper.semAt_some

/-- A loop over a function that hands on cnt times, enc 0, enc 1 ..: what holds after each is said by I, which abides what is done to the loop's own two blocks. -/
theorem range_inv {P : Program} {n gf : Nat} {lb : Array Value} {g : Operand} {ps : Array Tmp} {assign body : Code} {Q : Exit → Act → World → Prop} {a : Act} {w : World} (cnt : Nat) (enc : Nat → Array Value) (I : Nat → World → Prop) (a₁ : Nat → Act)
    (hI : ∀ k W l o, w.heap.size ≤ l → l ≤ w.heap.size + 1 → I k W → I k (W.putObj l o))
    (h1 : 1 ≤ n) (hg : a.eval g = .func (.func gf) #[] lb) (eg : ∀ args w, (callFunc gf args).run P w = .ok (.enter gf args) w) (hps : ∀ k, (enc k).size = ps.size)
    (h0 : ∀ o, I 0 ((w.alloc (.deferred (some []))).alloc o))
    (hassign : ∀ (l k : Nat) (W : World) (K : Act → World → Prop), k < cnt → K (a₁ k) W → assign.wpIn (Fence.wide.inRound l) (n - 1 - 1) P (Exit.then K (fun _ _ _ => False)) { tmps := (ps.zip (enc k)).foldl (fun t (p, v) => t.setIfInBounds p v) a.tmps, defers := [] } W)
    (hbody : ∀ (l k : Nat) (W : World), k < cnt → I k W → body.wpIn (Fence.wide.inRound l) (n - 1 - 1) P (fun e _ W' => e = .normal ∧ I (k + 1) W' ∧ ∃ T : List Nat, Keep T W W' ∧ w.heap.size ∉ T ∧ w.heap.size + 1 ∉ T) (a₁ k) W)
    (hseq : ∀ (l : Nat) (B : World → Prop) (W : World), (∀ W W', Keep [] W W' → B W → B W') → (∀ (k : Nat) (W1 : World), k < cnt → I k W1 → B W1 → YieldAt Fence.wide (n - 1 - 1) P l (enc k) W1 fun e W' => e = .returned (.bool true) ∧ I (k + 1) W' ∧ B W') →
      I 0 W → B W → CallsIn Fence.wide (n - 1) P gf (#[.func (.yield l) #[] #[]] ++ lb) W fun e W' => (∃ v, e = .returned v) ∧ I cnt W' ∧ B W')
    (hdone : ∀ (D : Nat) (W : World), w.heap.size ≤ D → I cnt W → W.heap[D]? = some (.deferred (some [])) → Q .normal { a with defers := { target := .collected D, args := #[] } :: a.defers } W) :
    (Code.rangeFunc g ps assign body).wpIn Fence.wide n P Q a w := by
  refine wpIn_rangeFunc fun fn hfn => ?_
  obtain ⟨R, hR⟩ : ∃ R : LoopState → Loop, R = fun st => { state := st, pending := Option.none, fn := fn, tmps := a.tmps, params := ps, assign := assign, body := body, defers := w.heap.size } := ⟨_, rfl⟩
  obtain ⟨W1, hW1⟩ : ∃ W, W = (w.alloc (.deferred (some []))).alloc (.loop (R .ready)) := ⟨_, rfl⟩
  have b0 : W1.heap[w.heap.size + 1]? = some (.loop (R .ready)) ∧ W1.heap[w.heap.size]? = some (.deferred (some [])) := by
    rw [hW1]
    constructor
    · have := World.alloc_heap_new (w.alloc (.deferred (some []))) (.loop (R .ready))
      rwa [World.size_alloc] at this
    · exact (Below.heap_alloc _ _ _ (by simp)).trans (World.alloc_heap_new w _)
  have n0 : I 0 W1 := by rw [hW1]; exact h0 _
  refine ⟨w.heap.size + 1, [{ target := .collected w.heap.size, args := #[] }], W1, { target := .fn (.func gf) lb, args := #[.func (.yield (w.heap.size + 1)) #[] #[]] }, W1, gf, #[.func (.yield (w.heap.size + 1)) #[] #[]] ++ lb, W1, ?_, ?_, fun _ _ => trivial, ?_, fun _ => h1, ?_⟩
  · rw [hW1, hR]
    exact run_enterLoop_outer _ _ _ _ _
  · simp only [resolve, hg]
    simp [go_sem]
  · simp [invoke, go_sem, eg]
  · refine (hseq (w.heap.size + 1) (fun W => W.heap[w.heap.size + 1]? = some (.loop (R .ready)) ∧ W.heap[w.heap.size]? = some (.deferred (some []))) W1 (fun W W' k h => ?_) ?_ n0 b0).mono ?_
    · have l1 := (Array.getElem?_eq_some_iff.1 h.1).1
      exact ⟨(k.block _ l1 (by simp)).trans h.1, (k.block _ (by omega) (by simp)).trans h.2⟩
    · rintro k W hk hN ⟨hl, hd⟩
      have l1 := (Array.getElem?_eq_some_iff.1 hl).1
      have hy := run_yield (P := P) (args := enc k) hl (by rw [hR]; exact hps k)
      rw [hR] at hy
      refine ⟨fn, _, assign, body, hy, roundIn_of_wpIn hfn (hassign _ k W _ hk ⟨_, run_beginRound hl (by rw [hR]), ?_⟩)⟩
      have hl2 : (W.putObj (w.heap.size + 1) (.loop { R .ready with state := .busy })).heap[w.heap.size + 1]? = some (.loop { R .ready with state := .busy }) := World.putObj_heap_same l1
      have hk2 : (W.putObj (w.heap.size + 1) (.loop { R .ready with state := .busy })).heap[w.heap.size]? = some (.deferred (some [])) := (World.putObj_heap_other (by omega)).trans hd
      refine wpIn_mono (hbody _ k _ hk (hI _ _ _ _ (by omega) (by omega) hN)) ?_
      rintro e a3 W3 ⟨rfl, hN3, T, hK3, hT1, hT2⟩
      have hl3 := (hK3.block _ (Array.getElem?_eq_some_iff.1 hl2).1 hT2).trans hl2
      have hk3 := (hK3.block _ (Array.getElem?_eq_some_iff.1 hk2).1 hT1).trans hk2
      have hr := run_endRound (P := P) none hl3
      refine ⟨_, _, hr, rfl, hI _ _ _ _ (by omega) (by omega) hN3, ?_, (World.putObj_heap_other (by omega)).trans hk3⟩
      rw [World.putObj_heap_same (Array.getElem?_eq_some_iff.1 hl3).1, hR]
      rfl
    · rintro e W2 ⟨⟨v, rfl⟩, hN, hl, hk⟩
      have he := run_endLoop (P := P) hl (by rw [hR]; simp)
      refine ⟨none, _, by rw [he, hR], hdone w.heap.size _ (Nat.le_refl _) (hI _ _ _ _ (by omega) (by omega) hN) ((World.putObj_heap_other (by omega)).trans hk)⟩
end Go.Proofs.YtmfjddhckblbhaaGreatDoor
