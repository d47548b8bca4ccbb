/- Appending a slice of data to a slice of the call's own, whatever the lengths; storing into one element of it. -/
import Derived.Test.YtbpidoiellcccaaGreatDoorK14
import Derived.Test.YtbpidoiellcccaaGreatDoorK2
import Derived.Test.YtbpidoiellcccaaGreatDoorK1
import Derived.BigRegion
set_option linter.unusedVariables false
set_option linter.unusedSimpArgs false
namespace Go.Proofs.YtbpidoiellcccaaGreatDoor
open Go Go.RowKit

theorem run_append_none' {t e ty : TypeId} {i : TypeInfo} (ht : Tryz.prog.underlying t = some (.slice e)) (hi : Tryz.prog.info? e = some i) (w : World) (A : Option Addr) (n cap : Nat) (B : Option Addr) (c : Nat) (h : n ≤ cap) :
    (Builtin.append_ #[t, t] ty #[.slice A n cap, .slice B 0 c]).run Tryz.prog w = .ok (.slice A n cap) w := by
  cases A <;> cases B <;> simp [Builtin.append_, run_underlying ht, sizeOf, typeInfo, hi, h, Builtin.lenOf, Builtin.firstCells, loadCells, loadCellsFrom, storeCells]
/-- All cells of an element are single ones. -/
def OneC {α : Type} (R : List Nat → World → α → Array Value → Prop) : Prop := ∀ S w x row, R S w x row → ∀ u ∈ row.toList, u.oneCell' = true
theorem symRow_one : OneC SymRow := by
  rintro S w x row ⟨A, C, rfl, _⟩ u hu
  simp at hu
  rcases hu with rfl | rfl | rfl <;> rfl
theorem altRow_one : OneC AltRow := by
  rintro S w x row ⟨A, C, rfl, _⟩ u hu
  simp at hu
  rcases hu with rfl
  rfl
theorem prodRow_one : OneC ProdRow := by
  rintro S w x row ⟨A, C, N, F, rfl, _⟩ u hu
  simp at hu
  rcases hu with rfl | rfl | rfl <;> rfl
theorem run_append_data {α : Type} {R : List Nat → World → α → Array Value → Prop} (st : Stab R) (hone : OneC R) {t e ty : TypeId} {i : TypeInfo} {z : Value} {k bytes : Nat} (ht : Tryz.prog.underlying t = some (.slice e)) (hi : Tryz.prog.info? e = some i) (hz : i.zero = some z)
    (hsz : i.size = k) (hby : i.bytes = bytes) (hzk : z.cells.size = k) (hk : 0 < k) {S : List Nat} {w : World} {base : Nat} {v : Value} {xs ys : List α} {A : Option Addr} {m C : Nat}
    (h : OwnL R S w base e k v xs) (hy : SlOf R (ownB v ++ S) w k (.slice A m C) ys) (hl : xs.length + ys.length ≤ 1000000) (hb : (xs.length + ys.length) * bytes ≤ 140737488355328) (hbase : base ≤ w.heap.size) :
    ∃ A' C' w', (Builtin.append_ #[t, t] ty #[v, .slice A m C]).run Tryz.prog w = .ok (.slice A' (xs.length + ys.length) C') w' ∧ OwnL R S w' base e k (.slice A' (xs.length + ys.length) C') (xs ++ ys) ∧ Keep (ownB v) w w' ∧ ∀ b ∈ ownB (.slice A' (xs.length + ys.length) C'), b ∈ ownB v ∨ b = w.heap.size := by
  obtain ⟨hm, _, _⟩ := SlOf.len hy
  subst hm
  by_cases h0 : ys.length = 0
  · obtain rfl : ys = [] := List.eq_nil_of_length_eq_zero h0
    have h' := h
    obtain ⟨A', C', rfl⟩ := h.slice
    obtain ⟨rows, h1, h2, h3⟩ := h
    have hcap : xs.length ≤ C' := by
      rcases h2.2 with ⟨_, h4⟩ | ⟨g, cap, cur, hv, _, _, h4, _⟩
      · omega
      · simp only [Value.slice.injEq] at hv; omega
    refine ⟨A', C', w, run_append_none' ht hi w A' xs.length C' A C hcap, by rw [List.append_nil]; exact h', (Keep.refl [] w).mono (by simp), fun b hb => .inl hb⟩
  · obtain ⟨rows, hlr, hown, hel⟩ := h
    obtain ⟨rows2, hs2, hlr2, hel2⟩ := hy
    have hs2' := hs2
    obtain ⟨a5, c5, hv5, hm5, hr5⟩ := hs2'
    rw [hlr2] at hv5
    simp only [Value.slice.injEq, true_and] at hv5
    obtain ⟨rfl, rfl⟩ := hv5
    obtain ⟨b5, o5, rfl, hb5, hc5⟩ := hr5 (by omega)
    have hrs : ∀ i (h : i < rows2.length), rows2[i].size = k := fun i hi => (hc5 i hi).1
    rw [← hlr2] at hs2
    have hnews := Sl.news hk hs2
    have hnl := flat_len k rows2 hrs
    have h1c : ∀ u ∈ rows2.flatMap Array.toList, u.oneCell' = true := fun u hu => by
      obtain ⟨x, hx, hu⟩ := List.mem_flatMap.1 hu
      obtain ⟨i, hi, rfl⟩ := List.getElem_of_mem hx
      exact hone _ _ _ _ (hel2 i (by omega) hi) u hu
    obtain ⟨g, cap, w', hr, ho, hg, hw, _⟩ := run_append_lies (P := Tryz.prog) w t ty base e i z k bytes ht hi hz hsz hby hzk hk v xs.length _ hown ⟨b5, o5, none⟩ rows2.length C _ hnl hnews h1c (by omega) (by unfold maxLen; omega) (by rw [hlr2]; exact hb) hbase _ rfl
    rw [hlr2] at hr ho
    refine ⟨_, _, w', hr, OwnL.appendL (S := S) rows hlr hel st rows2 hlr2 (fun i hi hi' => ⟨hrs i hi', hel2 i hi hi'⟩) ho hg hw, Keep.ofGrown hg, fun b hb => ?_⟩
    have : b = g := by simpa [ownB, Value.ownBlock, eq_comm] using hb
    subst this
    rcases hw with hw | hw
    · exact .inl (by simp [ownB, hw])
    · exact .inr hw
/-- At the operation. -/
theorem wp_append_data {α : Type} {R : List Nat → World → α → Array Value → Prop} (st : Stab R) (hone : OneC R) {o : Oper} {a : Act} {K : Act → World → Prop} {Q : Exit → Act → World → Prop} (s x : Operand) (t : TypeId)
    (ho : o.op = .call { callee := .builtin .append, args := #[s, x], argTypes := #[t, t] }) {e : TypeId} {i : TypeInfo} {z : Value} {k bytes : Nat} (ht : Tryz.prog.underlying t = some (.slice e)) (hi : Tryz.prog.info? e = some i) (hz : i.zero = some z)
    (hsz : i.size = k) (hby : i.bytes = bytes) (hzk : z.cells.size = k) (hk : 0 < k) {S : List Nat} {w : World} {base : Nat} {v : Value} {xs ys : List α} {A : Option Addr} {m C : Nat} (hs : a.eval s = v) (hx : a.eval x = .slice A m C)
    (h : OwnL R S w base e k v xs) (hy : SlOf R (ownB v ++ S) w k (.slice A m C) ys) (hl : xs.length + ys.length ≤ 1000000) (hb : (xs.length + ys.length) * bytes ≤ 140737488355328) (hbase : base ≤ w.heap.size)
    (hK : ∀ A' C' w', OwnL R S w' base e k (.slice A' (xs.length + ys.length) C') (xs ++ ys) → Keep (ownB v) w w' → (∀ b ∈ ownB (.slice A' (xs.length + ys.length) C'), b ∈ ownB v ∨ b = w.heap.size) → K (a.put o.dst (.slice A' (xs.length + ys.length) C')) w') : o.wp Tryz.prog a w K Q := by
  obtain ⟨A', C', w', hr, h2, h3, h4⟩ := run_append_data (ty := o.type) st hone ht hi hz hsz hby hzk hk h hy hl hb hbase
  unfold Oper.wp execOp
  simp only [ho, resolve, invoke, builtin, Sem.run_bind, Sem.run_pure, Result.andThen_ok, List.map_toArray, List.map_cons, List.map_nil, hs, hx, hr]
  exact hK A' C' w' h2 h3 h4
theorem wpList_append_data {α : Type} {R : List Nat → World → α → Array Value → Prop} (st : Stab R) (hone : OneC R) {ops : Array Oper} {rest : List Oper} {o : Oper} {a : Act} {Q : Exit → Act → World → Prop} (hgd : o.guard = none) (s x : Operand) (t : TypeId)
    (ho : o.op = .call { callee := .builtin .append, args := #[s, x], argTypes := #[t, t] }) {e : TypeId} {i : TypeInfo} {z : Value} {k bytes : Nat} (ht : Tryz.prog.underlying t = some (.slice e)) (hi : Tryz.prog.info? e = some i) (hz : i.zero = some z)
    (hsz : i.size = k) (hby : i.bytes = bytes) (hzk : z.cells.size = k) (hk : 0 < k) {S : List Nat} {w : World} {base : Nat} {v : Value} {xs ys : List α} {A : Option Addr} {m C : Nat} (hs : a.eval s = v) (hx : a.eval x = .slice A m C)
    (h : OwnL R S w base e k v xs) (hy : SlOf R (ownB v ++ S) w k (.slice A m C) ys) (hl : xs.length + ys.length ≤ 1000000) (hb : (xs.length + ys.length) * bytes ≤ 140737488355328) (hbase : base ≤ w.heap.size)
    (hK : ∀ A' C' w', OwnL R S w' base e k (.slice A' (xs.length + ys.length) C') (xs ++ ys) → Keep (ownB v) w w' → (∀ b ∈ ownB (.slice A' (xs.length + ys.length) C'), b ∈ ownB v ∨ b = w.heap.size) → wpList Tryz.prog ops Q rest (a.put o.dst (.slice A' (xs.length + ys.length) C')) w') : wpList Tryz.prog ops Q (o :: rest) a w :=
  wpList_plain hgd fun _ hk2 => wp_append_data st hone s x t ho ht hi hz hsz hby hzk hk hs hx h hy hl hb hbase fun A' C' w' h2 h3 h4 => hk2 _ _ (hK A' C' w' h2 h3 h4)
theorem step_append_data {α : Type} {R : List Nat → World → α → Array Value → Prop} (st : Stab R) (hone : OneC R) {ops : Array Oper} {o : Oper} {a : Act} {K : Act → World → Prop} {Q : Exit → Act → World → Prop} {Z : Prop} (hgd : o.guard = none) (s x : Operand) (t : TypeId)
    (ho : o.op = .call { callee := .builtin .append, args := #[s, x], argTypes := #[t, t] }) {e : TypeId} {i : TypeInfo} {z : Value} {k bytes : Nat} (ht : Tryz.prog.underlying t = some (.slice e)) (hi : Tryz.prog.info? e = some i) (hz : i.zero = some z)
    (hsz : i.size = k) (hby : i.bytes = bytes) (hzk : z.cells.size = k) (hk : 0 < k) {S : List Nat} {w : World} {base : Nat} {v : Value} {xs ys : List α} {A : Option Addr} {m C : Nat} (hs : a.eval s = v) (hx : a.eval x = .slice A m C)
    (h : OwnL R S w base e k v xs) (hy : SlOf R (ownB v ++ S) w k (.slice A m C) ys) (hl : xs.length + ys.length ≤ 1000000) (hb : (xs.length + ys.length) * bytes ≤ 140737488355328) (hbase : base ≤ w.heap.size)
    (hK : ∀ A' C' w', OwnL R S w' base e k (.slice A' (xs.length + ys.length) C') (xs ++ ys) → Keep (ownB v) w w' → (∀ b ∈ ownB (.slice A' (xs.length + ys.length) C'), b ∈ ownB v ∨ b = w.heap.size) → K (a.put o.dst (.slice A' (xs.length + ys.length) C')) w') :
    if Region.wanted o (yielded ops a.tmps) = true then Oper.wp Tryz.prog o a w K Q else Z := by
  have hw : Region.wanted o (yielded ops a.tmps) = true := by simp [Region.wanted, hgd]
  rw [if_pos hw]
  exact wp_append_data st hone s x t ho ht hi hz hsz hby hzk hk hs hx h hy hl hb hbase hK
theorem flat_setJ (k : Nat) : ∀ (l : List (Array Value)) (n j : Nat) (u : Value), (∀ i (h : i < l.length), l[i].size = k) → j < k → (h : n < l.length) → (l.flatMap Array.toList).set (n * k + j) u = (l.set n (l[n].setIfInBounds j u)).flatMap Array.toList
  | [], n, j, u, hl, hj, h => by simp at h
  | a :: l, 0, j, u, hl, hj, h => by
    have ha : a.size = k := hl 0 (by simp)
    simp only [List.flatMap_cons, List.set_cons_zero, List.getElem_cons_zero, Nat.zero_mul, Nat.zero_add]
    rw [List.set_append_left _ _ (by simp [ha]; exact hj), Array.toList_setIfInBounds]
  | a :: l, n + 1, j, u, hl, hj, h => by
    have ha : a.size = k := hl 0 (by simp)
    have ih := flat_setJ k l n j u (fun i hi => hl (i + 1) (by simpa using hi)) hj (by simpa using h)
    simp only [List.flatMap_cons, List.set_cons_succ, List.getElem_cons_succ]
    rw [List.set_append_right _ _ (by simp [ha, Nat.succ_mul]; omega), ← ih]
    congr 2
    simp [ha, Nat.succ_mul]; omega
/-- One cell of one element is stored. -/
theorem OwnL.store {α : Type} {R : List Nat → World → α → Array Value → Prop} (st : Stab R) {S : List Nat} {w : World} {base g C : Nat} {E : TypeId} {k : Nat} {xs : List α} (h : OwnL R S w base E k (.slice (some ⟨g, 0, none⟩) xs.length C) xs) (n j : Nat) (u : Value) (x : α)
    (hn : n < xs.length) (hj : j < k) (hx : ∀ row : Array Value, row.size = k → R ([g] ++ S) w xs[n] row → R ([g] ++ S) w x (row.setIfInBounds j u)) :
    OwnL R S (w.setCell ⟨g, n * k + j, none⟩ u) base E k (.slice (some ⟨g, 0, none⟩) xs.length C) (xs.set n x) := by
  obtain ⟨rows, h1, h2, h3⟩ := h
  have hob : ownB (.slice (some ⟨g, 0, none⟩) xs.length C) = [g] := rfl
  rw [hob] at h3
  have K : Keep [g] w (w.setCell ⟨g, n * k + j, none⟩ u) := (Keep.refl [g] w).setCell (.inl (by simp)) u
  have hrs : ∀ i (h : i < rows.length), rows[i].size = k := fun i hi => (h3 i (by omega) hi).1
  refine ⟨rows.set n ((rows[n]'(by omega)).setIfInBounds j u), by simp [h1], ?_, fun i hi hi' => ?_⟩
  · have hfl := flat_len k rows hrs
    have hfs := flat_setJ k rows n j u hrs hj (by omega)
    obtain ⟨hA, hB⟩ := h2
    rw [← hfs]
    rw [List.length_set]
    refine ⟨by rw [List.length_set]; exact hA, ?_⟩
    rcases hB with ⟨h4, h5⟩ | ⟨g', cap, cur, hv, hb, hgg, hnc, hcm, hcs, htk⟩
    · omega
    · right
      simp only [Value.slice.injEq, Option.some.injEq, Addr.mk.injEq, and_true, true_and] at hv
      obtain ⟨rfl, rfl⟩ := hv
      have hlt : n * k + j < cur.size := by
        rw [hcs]
        have h6 : (n + 1) * k ≤ xs.length * k := Nat.mul_le_mul_right k hn
        have h7 : xs.length * k ≤ C * k := Nat.mul_le_mul_right k hnc
        rw [Nat.succ_mul] at h6
        omega
      refine ⟨g, C, cur.setIfInBounds (n * k + j) u, rfl, hb, ?_, hnc, hcm, by simp [hcs], ?_⟩
      · simp [World.setCell, Array.getElem?_modify, hgg]
      · rw [Array.toList_setIfInBounds, List.take_set, htk]
  · rw [hob]
    have hT : ∀ b ∈ [g], b ∈ [g] ++ S ∨ w.heap.size ≤ b := fun b hb => .inl (by simp at hb; simp [hb])
    have hSS : ∀ b ∈ [g] ++ S, b ∈ [g] ++ S ∨ w.heap.size ≤ b := fun b hb => .inl hb
    by_cases e : n = i
    · subst e
      simp only [List.getElem_set_self]
      refine ⟨by rw [Array.size_setIfInBounds]; exact hrs _ _, st _ _ _ _ _ _ _ (hx _ (hrs _ _) (h3 n hn (by omega)).2) K hT hSS⟩
    · simp only [List.getElem_set_ne e]
      exact ⟨hrs i (by simpa using hi'), st _ _ _ _ _ _ _ (h3 i (by simpa using hi) (by simpa using hi')).2 K hT hSS⟩
end Go.Proofs.YtbpidoiellcccaaGreatDoor
namespace Go.Proofs.YtbpidoiellcccaaGreatDoor
open Go Go.RowKit Go.MapKept

def IntRow (_S : List Nat) (_w : World) (x : Int) (row : Array Value) : Prop := row = #[.int .i64 x]
theorem intRow_stab : Stab IntRow := fun _ _ _ _ _ _ _ h _ _ _ => h
theorem info_int : (Tryz.prog.info? 3).map (fun i => (i.zero, i.size, i.bytes)) = some (some (.int .i64 0), 1, 8) := by kernel_rfl
theorem intRow_one : OneC IntRow := by
  intro S w x row h u hu
  rw [show row = _ from h] at hu
  simp at hu
  subst hu
  rfl
/-- These numbers stand there. -/
def IntC (w : World) (v : Value) (xs : List Int) : Prop := ∃ A C, v = .slice A xs.length C ∧ xs.length ≤ 1000000 ∧ (0 < xs.length → ∃ b o, A = some ⟨b, o, none⟩ ∧ ∀ i (h : i < xs.length), w.cell? ⟨b, o + i, none⟩ = some (.int .i64 xs[i]))
theorem IntC.keep {w w' : World} {v : Value} {xs : List Int} (h : IntC w v xs) (K : Keep [] w w') : IntC w' v xs := by
  obtain ⟨A, C, h1, h2, h3⟩ := h
  refine ⟨A, C, h1, h2, fun h0 => ?_⟩
  obtain ⟨b, o, rfl, hc⟩ := h3 h0
  exact ⟨b, o, rfl, fun i hi => Keep.cell (T := []) K (hc i hi) (by simp)⟩
theorem IntC.own {S : List Nat} {w : World} {base : Nat} {E : TypeId} {v : Value} {xs : List Int} (h : OwnL IntRow S w base E 1 v xs) (hl : xs.length ≤ 1000000) : IntC w v xs := by
  have hr := h.read intRow_stab (S' := []) (by simp) (by simp)
  obtain ⟨A, C, rfl, _, hc⟩ := SlOf.at hr
  refine ⟨A, C, rfl, hl, fun h0 => ?_⟩
  obtain ⟨b, o, rfl, _, hq⟩ := hc h0
  refine ⟨b, o, rfl, fun i hi => ?_⟩
  obtain ⟨row, _, h2, h3⟩ := hq i hi
  rw [show row = _ from h3] at h2
  simpa using h2 0 (by omega)
set_option maxHeartbeats 2000000 in
theorem ints_c (v u : Value) (bs cs : List Int) (w : World) (H : IntC w v bs) (G : IntC w u cs) :
    Calls Tryz.prog 13 #[v, u] w fun e w' => e = .returned (.bool (decide (bs = cs))) ∧ Keep [] w w' := by
  obtain ⟨A, C, rfl, hbl, hc⟩ := H
  obtain ⟨B, D, rfl, hcl, hd⟩ := G
  have HH := Lib.hid hc; clear hc
  have GG := Lib.hid hd; clear hd
  by_cases hl : bs.length = cs.length
  · have hlb : ((bs.length : Int) != (cs.length : Int)) = false := by simp [hl]
    have HL := Lib.hid hl
    have hl2 : (cs.length : Int) = (bs.length : Int) := by omega
    clear hl
    go_enter Tryz.func13, Tryz.ntmps13
    go_wp2
    go_loopw [5] (fun i wr => ∃ k : Nat, k ≤ bs.length ∧ i = .int .i64 k ∧ Hid (∀ j (hj : j < k) (h1 : j < bs.length) (h2 : j < cs.length), bs[j] = cs[j]) ∧ Keep [] w wr) (fun i _ => bs.length - (intOf i).toNat)
    case atStart => exact ⟨0, by omega, rfl, Lib.hid (fun j hj => by omega), Keep.refl _ _⟩
    case round =>
      obtain ⟨k, hk, rfl, hno, Kr⟩ := hrel
      by_cases hlt : k < bs.length
      · have hlt' : (k : Int) < (bs.length : Int) := by omega
        have hltc : k < cs.length := by omega
        obtain ⟨b, o, rfl, hc⟩ := HH.out (by omega)
        obtain ⟨c, p, rfl, hd⟩ := GG.out (by omega)
        have e0 := Kr.cell (hc k hlt) (by simp)
        have e1 := Kr.cell (hd k hltc) (by simp)
        have HLT := Lib.hid hlt
        have HE : Hid (bs[k] = cs[k] → ∀ j (hj : j < k + 1) (h1 : j < bs.length) (h2 : j < cs.length), bs[j] = cs[j]) := Lib.hid (fun he j hj h1 h2 => by
          by_cases e : j = k
          · subst e; exact he
          · exact hno.out j (by omega) h1 h2)
        have HN : Hid (bs[k] ≠ cs[k] → decide (bs = cs) = false) := Lib.hid (fun hne => by simp; intro e; subst e; exact hne rfl)
        clear hc hd hno
        generalize bs[k] = x at e0 HE HN
        generalize cs[k] = y at e1 HE HN
        by_cases hxy : x = y
        · subst hxy
          have hq : (x != x) = false := by simp
          go_wp2
          go_quiet (fail)
          go_wp2
          go_roundw
          case rel => exact ⟨k + 1, by have := HLT.out; omega, by go_num, Lib.hid (HE.out (by simp)), Kr.drewN _⟩
          case measure => simp [intOf]; have := HLT.out; omega
        · have hq : (x != y) = true := by simpa using hxy
          have HX := Lib.hid hxy
          clear hxy
          go_wp2
          go_quiet (fail)
          go_wp2
          go_ret
          rw [HN.out HX.out]
          exact ⟨rfl, Kr.drewN _⟩
      · have heq : decide (bs = cs) = true := by
          simp only [decide_eq_true_eq]
          exact List.ext_getElem HL.out (fun j h1 h2 => hno.out j (by omega) h1 h2)
        have HEQ := Lib.hid heq
        obtain rfl : k = bs.length := by omega
        clear heq hno
        go_wp2
        go_ret
        rw [HEQ.out]
        exact ⟨rfl, Kr⟩
  · have hlb : ((bs.length : Int) != (cs.length : Int)) = true := by simp; omega
    have hne : decide (bs = cs) = false := by simp; intro e; exact hl (by rw [e])
    rw [hne]
    clear hl hne
    go_enter Tryz.func13, Tryz.ntmps13
    go_wp2
    go_ret
    exact ⟨rfl, Keep.refl _ _⟩
theorem one_int {S : List Nat} {w : World} {b : Nat} {T : TypeId} {x : Int} (B : Blk w b #[.int .i64 x] T) (hb : b ∉ S) : SlOf IntRow S w 1 (.slice (some ⟨b, 0, none⟩) 1 1) [x] := by
  have h := Sl.of_blk (S := S) (k := 1) (xs := [#[.int .i64 x]]) 1 B hb (by simp) (fun i hi => by
    obtain rfl : i = 0 := by simpa using hi
    exact ⟨rfl, fun j hj => by simp⟩)
  refine ⟨[#[.int .i64 x]], h, rfl, fun i hi hi' => ?_⟩
  obtain rfl : i = 0 := by simpa using hi
  rfl
end Go.Proofs.YtbpidoiellcccaaGreatDoor
namespace Go.Proofs.YtbpidoiellcccaaGreatDoor
open Go Go.RowKit

/-- append(nil, src...). -/
theorem wp_append_new {α : Type} {R : List Nat → World → α → Array Value → Prop} (st : Stab R) (hone : OneC R) {o : Oper} {a : Act} {K : Act → World → Prop} {Q : Exit → Act → World → Prop} (s x : Operand) (t : TypeId)
    (ho : o.op = .call { callee := .builtin .append, args := #[s, x], argTypes := #[t, t] }) {e : TypeId} {i : TypeInfo} {z : Value} {k bytes : Nat} (ht : Tryz.prog.underlying t = some (.slice e)) (hi : Tryz.prog.info? e = some i) (hz : i.zero = some z)
    (hsz : i.size = k) (hby : i.bytes = bytes) (hzk : z.cells.size = k) (hk : 0 < k) (S : List Nat) {w : World} (base : Nat) {ys : List α} (A : Option Addr) (m C : Nat) (hs : a.eval s = .slice none 0 0) (hx : a.eval x = .slice A m C)
    (hy : SlOf R S w k (.slice A m C) ys) (hl : ys.length ≤ 1000000) (hb : ys.length * bytes ≤ 140737488355328) (hbase : base ≤ w.heap.size)
    (hK : ∀ A' C' w', OwnL R S w' base e k (.slice A' ys.length C') ys → Keep [] w w' → (∀ b ∈ ownB (.slice A' ys.length C'), b = w.heap.size) → K (a.put o.dst (.slice A' ys.length C')) w') : o.wp Tryz.prog a w K Q := by
  refine wp_append_data st hone s x t ho ht hi hz hsz hby hzk hk (S := S) (base := base) (v := .slice none 0 0) (xs := []) hs hx (OwnL.nil _ _ _ _ _) hy (by simpa using hl) (by simpa using hb) hbase (fun A' C' w' h1 h2 h3 => ?_)
  simp only [List.length_nil, Nat.zero_add, List.nil_append] at h1 h3 ⊢
  exact hK A' C' w' h1 (h2.mono (by simp [ownB, Value.ownBlock])) (fun b hb => by
    rcases h3 b hb with h | h
    · simp [ownB, Value.ownBlock] at h
    · exact h)
theorem wpList_append_new {α : Type} {R : List Nat → World → α → Array Value → Prop} (st : Stab R) (hone : OneC R) {ops : Array Oper} {rest : List Oper} {o : Oper} {a : Act} {Q : Exit → Act → World → Prop} (hgd : o.guard = none) (s x : Operand) (t : TypeId)
    (ho : o.op = .call { callee := .builtin .append, args := #[s, x], argTypes := #[t, t] }) {e : TypeId} {i : TypeInfo} {z : Value} {k bytes : Nat} (ht : Tryz.prog.underlying t = some (.slice e)) (hi : Tryz.prog.info? e = some i) (hz : i.zero = some z)
    (hsz : i.size = k) (hby : i.bytes = bytes) (hzk : z.cells.size = k) (hk : 0 < k) (S : List Nat) {w : World} (base : Nat) {ys : List α} (A : Option Addr) (m C : Nat) (hs : a.eval s = .slice none 0 0) (hx : a.eval x = .slice A m C)
    (hy : SlOf R S w k (.slice A m C) ys) (hl : ys.length ≤ 1000000) (hb : ys.length * bytes ≤ 140737488355328) (hbase : base ≤ w.heap.size)
    (hK : ∀ A' C' w', OwnL R S w' base e k (.slice A' ys.length C') ys → Keep [] w w' → (∀ b ∈ ownB (.slice A' ys.length C'), b = w.heap.size) → wpList Tryz.prog ops Q rest (a.put o.dst (.slice A' ys.length C')) w') : wpList Tryz.prog ops Q (o :: rest) a w :=
  wpList_plain hgd fun _ hk2 => wp_append_new st hone s x t ho ht hi hz hsz hby hzk hk S base A m C hs hx hy hl hb hbase fun A' C' w' h2 h3 h4 => hk2 _ _ (hK A' C' w' h2 h3 h4)
theorem step_append_new {α : Type} {R : List Nat → World → α → Array Value → Prop} (st : Stab R) (hone : OneC R) {ops : Array Oper} {o : Oper} {a : Act} {K : Act → World → Prop} {Q : Exit → Act → World → Prop} {Z : Prop} (hgd : o.guard = none) (s x : Operand) (t : TypeId)
    (ho : o.op = .call { callee := .builtin .append, args := #[s, x], argTypes := #[t, t] }) {e : TypeId} {i : TypeInfo} {z : Value} {k bytes : Nat} (ht : Tryz.prog.underlying t = some (.slice e)) (hi : Tryz.prog.info? e = some i) (hz : i.zero = some z)
    (hsz : i.size = k) (hby : i.bytes = bytes) (hzk : z.cells.size = k) (hk : 0 < k) (S : List Nat) {w : World} (base : Nat) {ys : List α} (A : Option Addr) (m C : Nat) (hs : a.eval s = .slice none 0 0) (hx : a.eval x = .slice A m C)
    (hy : SlOf R S w k (.slice A m C) ys) (hl : ys.length ≤ 1000000) (hb : ys.length * bytes ≤ 140737488355328) (hbase : base ≤ w.heap.size)
    (hK : ∀ A' C' w', OwnL R S w' base e k (.slice A' ys.length C') ys → Keep [] w w' → (∀ b ∈ ownB (.slice A' ys.length C'), b = w.heap.size) → K (a.put o.dst (.slice A' ys.length C')) w') :
    if Region.wanted o (yielded ops a.tmps) = true then Oper.wp Tryz.prog o a w K Q else Z := by
  have hw : Region.wanted o (yielded ops a.tmps) = true := by simp [Region.wanted, hgd]
  rw [if_pos hw]
  exact wp_append_new st hone s x t ho ht hi hz hsz hby hzk hk S base A m C hs hx hy hl hb hbase hK
/-- Where a slice of the call's own lies that is not empty. -/
theorem OwnL.form {α : Type} {R : List Nat → World → α → Array Value → Prop} {S : List Nat} {w : World} {base : Nat} {E : TypeId} {k n C : Nat} {A : Option Addr} {xs : List α} (h : OwnL R S w base E k (.slice A n C) xs) (h0 : 0 < xs.length) :
    ∃ g, A = some ⟨g, 0, none⟩ ∧ base ≤ g ∧ g < w.heap.size := by
  obtain ⟨rows, h1, h2, _⟩ := h
  obtain ⟨g, cap, hv, hb, hg⟩ := h2.form h0
  simp only [Value.slice.injEq] at hv
  exact ⟨g, hv.1, hb, hg⟩
theorem OwnL.frozen {α : Type} {R : List Nat → World → α → Array Value → Prop} {S : List Nat} {w : World} {base : Nat} {E : TypeId} {k n C g : Nat} {xs : List α} (h : OwnL R S w base E k (.slice (some ⟨g, 0, none⟩) n C) xs) (h0 : 0 < xs.length) (j : Nat) : w.frozen? ⟨g, j, none⟩ = false := by
  obtain ⟨rows, h1, h2, _⟩ := h
  rcases h2.2 with ⟨_, h3⟩ | ⟨g', cap, cur, hv, _, hg, _⟩
  · omega
  · simp only [Value.slice.injEq, Option.some.injEq, Addr.mk.injEq, and_true] at hv
    obtain ⟨rfl, _, _⟩ := hv
    simp [World.frozen?, hg]
theorem gmay_alt {ps : List ProdS} (h : gmay ps = true) : ∀ p ∈ ps, 0 < p.a.length ∧ p.a.length ≤ 8 ∧ ∀ a ∈ p.a, a.length ≤ 40 := by
  unfold gmay at h
  simp only [Bool.and_eq_true, Bool.not_eq_true', List.any_eq_false] at h
  intro p hp
  have h1 := h.1.1 p hp
  unfold prodBad at h1
  simp only [Bool.not_eq_true, Bool.or_eq_false_iff, List.any_eq_false, decide_eq_false_iff_not] at h1
  refine ⟨by omega, by omega, fun a ha => ?_⟩
  have h2 := h1.2 a ha
  unfold altOdd at h2
  simp only [Bool.not_eq_true, Bool.or_eq_false_iff, decide_eq_false_iff_not] at h2
  omega
/-- One alternative, in a block of one cell. -/
theorem one_alt {S : List Nat} {w : World} {b n C : Nat} {A : Option Addr} {T : TypeId} {a : List SymS} (B : Blk w b #[.slice A n C] T) (hb : b ∉ S) (hn : n = a.length) (H : Syms S w (.slice A n C) a) : Alts S w (.slice (some ⟨b, 0, none⟩) 1 1) [a] := by
  subst hn
  have h := Sl.of_blk (S := S) (k := 1) (xs := [#[.slice A a.length C]]) 1 B hb (by simp) (fun i hi => by
    obtain rfl : i = 0 := by simpa using hi
    exact ⟨rfl, fun j hj => by simp⟩)
  refine ⟨[#[.slice A a.length C]], h, rfl, fun i hi hi' => ?_⟩
  obtain rfl : i = 0 := by simpa using hi
  exact ⟨A, C, rfl, H⟩
/-- With an alternative more. -/
def moreP (ps : List ProdS) (n : Nat) (l : List SymS) : List ProdS := match ps[n]? with
  | some p => ps.set n ⟨p.a ++ [l], p.marks, p.nt⟩
  | none => ps
theorem moreP_eq (ps : List ProdS) (n : Nat) (l : List SymS) (h : n < ps.length) : moreP ps n l = ps.set n ⟨ps[n].a ++ [l], ps[n].marks, ps[n].nt⟩ := by
  simp [moreP, h]
theorem moreP_len (ps : List ProdS) (n : Nat) (l : List SymS) : (moreP ps n l).length = ps.length := by
  unfold moreP
  split <;> simp
/-- The alternatives of one nonterminal of the copy are stored. -/
theorem own_alts {w : World} {S : List Nat} {base base2 g C C9 n : Nat} {A9 : Option Addr} {E : TypeId} {ps : List ProdS} {al : List (List SymS)} (OX : OwnL ProdRow S w base 41 3 (.slice (some ⟨g, 0, none⟩) ps.length C) ps) (hn : n < ps.length)
    (OA : OwnL AltRow (g :: S) w base2 E 1 (.slice A9 al.length C9) al) (hb2 : ∀ b ∈ g :: S, b < base2) :
    OwnL ProdRow S (w.setCell ⟨g, n * 3, none⟩ (.slice A9 al.length C9)) base 41 3 (.slice (some ⟨g, 0, none⟩) ps.length C) (ps.set n ⟨al, ps[n].marks, ps[n].nt⟩) := by
  have hA := OA.read (S' := g :: S) altRow_stab (fun b hb => .inl hb) (fun b hb hb' => by have h1 := (OA.base b hb).1; have := hb2 b hb'; omega)
  refine OwnL.store prodRow_stab OX n 0 _ _ hn (by omega) (fun row hr hR => ?_)
  obtain ⟨A2, C2, N2, F2, rfl, h2, h3⟩ := hR
  exact ⟨A9, C9, N2, F2, rfl, hA, h3⟩
/-- Since W the row g alone has turned of what was there: it is the nonterminals ps with alternatives al at n. -/
def AltsIn (S : List Nat) (W : World) (base g C : Nat) (ps : List ProdS) (n : Nat) (al : List (List SymS)) (wx : World) : Prop :=
  Keep [g] W wx ∧ ∃ p, ps[n]? = some p ∧ OwnL ProdRow S wx base 41 3 (.slice (some ⟨g, 0, none⟩) ps.length C) (ps.set n ⟨al, p.marks, p.nt⟩)
theorem altsIn {W w : World} {S : List Nat} {base g C C9 n k9 : Nat} {A9 : Option Addr} {E : TypeId} {ps : List ProdS} {al : List (List SymS)} (OX : OwnL ProdRow S W base 41 3 (.slice (some ⟨g, 0, none⟩) ps.length C) ps) (hn : n < ps.length) (K : Keep [] W w) (hS : ∀ b ∈ g :: S, b < W.heap.size)
    (hk : k9 = al.length) (OA : OwnL AltRow (g :: S) w W.heap.size E 1 (.slice A9 k9 C9) al) : AltsIn S W base g C ps n al (w.setCell ⟨g, n * 3, none⟩ (.slice A9 k9 C9)) := by
  subst hk
  exact ⟨(K.mono (by simp)).setCell (p := ⟨g, n * 3, none⟩) (.inl (by simp)) _, ps[n], List.getElem?_eq_getElem hn, own_alts (OX.move prodRow_stab K (by simp) (fun x hx => .inl hx)) hn OA hS⟩
theorem one_src {S : List Nat} {w0 w : World} {b n C : Nat} {A : Option Addr} {T : TypeId} {a : List SymS} (H : Syms [] w0 (.slice A n C) a) (K : Keep [] w0 w) (hS : ∀ x ∈ S, w0.heap.size ≤ x) (B : Blk w b #[.slice A n C] T) (hb : b ∉ S) : Alts S w (.slice (some ⟨b, 0, none⟩) 1 1) [a] :=
  one_alt B hb (SlOf.len H).1 (SlOf.move H symRow_stab (by omega) K (by simp) (fun x hx => .inr (hS x hx)))
end Go.Proofs.YtbpidoiellcccaaGreatDoor
namespace Go.Proofs.YtbpidoiellcccaaGreatDoor
open Go Go.RowKit Go.MapKept

/-- The slice v, made by the call from block base on, has these numbers. -/
def NumV (w : World) (base : Nat) (v : Value) (xs : List Int) : Prop := OwnL IntRow [] w base 3 1 v xs
theorem NumV.any {w : World} {base : Nat} {v : Value} {xs : List Int} (h : NumV w base v xs) (S : List Nat) : OwnL IntRow S w base 3 1 v xs := by
  obtain ⟨rows, h1, h2, h3⟩ := h
  exact ⟨rows, h1, h2, fun i hi hi' => ⟨(h3 i hi hi').1, (h3 i hi hi').2⟩⟩
theorem NumV.of {w : World} {base : Nat} {v : Value} {xs : List Int} {S : List Nat} (h : OwnL IntRow S w base 3 1 v xs) : NumV w base v xs := by
  obtain ⟨rows, h1, h2, h3⟩ := h
  exact ⟨rows, h1, h2, fun i hi hi' => ⟨(h3 i hi hi').1, (h3 i hi hi').2⟩⟩
theorem NumV.nil (w : World) (base : Nat) : NumV w base (.slice none 0 0) [] := OwnL.nil [] w base _ 1
theorem NumV.keep {w w' : World} {base : Nat} {v : Value} {xs : List Int} {T : List Nat} (h : NumV w base v xs) (K : Keep T w w') (hT : ∀ b ∈ T, b ∉ ownB v) : NumV w' base v xs :=
  .of ((h.any T).move intRow_stab (S' := T) K (fun b hb => .inl ⟨hb, hT b hb⟩) (fun b hb => .inl hb))
theorem NumV.slice {w : World} {base : Nat} {v : Value} {xs : List Int} (h : NumV w base v xs) : ∃ A C, v = .slice A xs.length C := OwnL.slice h
theorem NumV.base {w : World} {base : Nat} {v : Value} {xs : List Int} (h : NumV w base v xs) : ∀ b ∈ ownB v, base ≤ b ∧ b < w.heap.size := OwnL.base h
theorem NumV.row {w : World} {base : Nat} {v : Value} {xs : List Int} (h : NumV w base v xs) : w.ownsRow base 3 1 v xs.length (xs.map (Value.int .i64)) := by
  obtain ⟨rows, h1, h2, h3⟩ := h
  have e : rows.flatMap Array.toList = xs.map (Value.int .i64) := by
    have : rows = xs.map (fun x => #[Value.int .i64 x]) := by
      refine List.ext_getElem (by simp [h1]) (fun i h4 h5 => ?_)
      have := (h3 i (by omega) h4).2
      rw [show rows[i] = _ from this]
      simp
    rw [this]
    clear h1 h2 h3 this
    induction xs with
    | nil => rfl
    | cons x xs ih => simp [ih]
  rw [e] at h2
  exact h2
theorem NumV.ofRow {w : World} {base : Nat} {v : Value} {xs : List Int} (h : w.ownsRow base 3 1 v xs.length (xs.map (Value.int .i64))) : NumV w base v xs := by
  refine ⟨xs.map (fun x => #[Value.int .i64 x]), by simp, ?_, fun i hi hi' => ⟨by simp, by simp [IntRow]⟩⟩
  have e : (xs.map (fun x => #[Value.int .i64 x])).flatMap Array.toList = xs.map (Value.int .i64) := by
    clear h
    induction xs with
    | nil => rfl
    | cons x xs ih => simp [ih]
  rw [e]
  exact h
/-- Where they stand. -/
theorem NumV.at {w : World} {base : Nat} {v : Value} {xs : List Int} (h : NumV w base v xs) (h0 : 0 < xs.length) : ∃ g C, v = .slice (some ⟨g, 0, none⟩) xs.length C ∧ base ≤ g ∧ g < w.heap.size ∧ xs.length ≤ C ∧ C ≤ maxLen ∧ (∀ j, w.frozen? ⟨g, j, none⟩ = false) ∧
    ∀ i, i < xs.length → w.cell? ⟨g, i, none⟩ = some (.int .i64 (nth xs i)) := by
  have hr := h.row
  rcases hr.2 with ⟨_, h1⟩ | ⟨g, cap, cur, hv, hb, hg, hn, hm, _⟩
  · omega
  · refine ⟨g, cap, hv, hb, (Array.getElem?_eq_some_iff.1 hg).1, hn, hm, fun j => by simp [World.frozen?, hg], fun i hi => ?_⟩
    have := hr.cells (g := g) (by rw [hv]; rfl) i (.int .i64 (nth xs i)) (by simp [nth, hi])
    have e : (⟨g, 0, none⟩ : Addr).add i = ⟨g, i, none⟩ := by unfold Addr.add; split <;> simp_all
    rw [e] at this
    exact this
theorem NumV.set {w : World} {base g C n : Nat} {xs : List Int} (h : NumV w base (.slice (some ⟨g, 0, none⟩) n C) xs) (hn : n = xs.length) (i : Nat) (hi : i < xs.length) (x : Int) : NumV (w.setCell ⟨g, i, none⟩ (.int .i64 x)) base (.slice (some ⟨g, 0, none⟩) n C) (xs.set i x) := by
  subst hn
  have := OwnL.store intRow_stab h i 0 (.int .i64 x) x hi (by omega) (fun row hz hR => by rw [show row = _ from hR]; rfl)
  simpa [NumV] using this
/-- The first n of them. -/
theorem NumV.take {w : World} {base m C : Nat} {A : Option Addr} {xs : List Int} (h : NumV w base (.slice A m C) xs) (hm : m = xs.length) (n : Nat) (hn : n ≤ xs.length) (h0 : 0 < xs.length) : NumV w base (.slice A n C) (xs.take n) := by
  refine .ofRow ?_
  have hr := h.row
  have hl : (xs.take n).length = n := by simp; omega
  rw [hl]
  refine ⟨by simp; omega, ?_⟩
  rcases hr.2 with ⟨_, h1⟩ | ⟨g, cap, cur, hv, hb, hg, hnc, hm', hcs, htk⟩
  · omega
  · right
    simp only [Value.slice.injEq] at hv
    obtain ⟨rfl, _, rfl⟩ := hv
    refine ⟨g, C, cur, rfl, hb, hg, by omega, hm', hcs, ?_⟩
    rw [List.map_take, ← htk, List.take_take]
    congr 1
    omega
theorem set_nth (xs : List Int) (i : Nat) (h : i < xs.length) (x : Int) : ∀ k, nth (xs.set i x) k = if k = i then x else nth xs k := nth_set xs i x h
end Go.Proofs.YtbpidoiellcccaaGreatDoor
namespace Go.Proofs.YtbpidoiellcccaaGreatDoor
open Go Go.RowKit Go.MapKept

/-- The slice v, of the call's own from block base on, has these numbers; it may begin anywhere in its block. -/
def QueV (w : World) (base : Nat) (v : Value) (xs : List Int) : Prop :=
  ∃ g o C cur, v = .slice (some ⟨g, o, none⟩) xs.length C ∧ base ≤ g ∧ w.heap[g]? = some (.cells cur 3 (0, 0)) ∧ xs.length ≤ C ∧ C ≤ maxLen ∧ o + C ≤ cur.size ∧ (cur.toList.drop o).take xs.length = xs.map (Value.int .i64)
theorem QueV.keep {w w' : World} {base : Nat} {v : Value} {xs : List Int} {T : List Nat} (h : QueV w base v xs) (K : Keep T w w') (hT : ∀ b ∈ T, b ∉ ownB v) : QueV w' base v xs := by
  obtain ⟨g, o, C, cur, rfl, hb, hg, rest⟩ := h
  exact ⟨g, o, C, cur, rfl, hb, (K.block g (Array.getElem?_eq_some_iff.1 hg).1 (fun hx => hT g hx (by simp [ownB, Value.ownBlock]))).trans hg, rest⟩
theorem QueV.base {w : World} {base : Nat} {v : Value} {xs : List Int} (h : QueV w base v xs) : ∀ b ∈ ownB v, base ≤ b ∧ b < w.heap.size := by
  obtain ⟨g, o, C, cur, rfl, hb, hg, rest⟩ := h
  intro b hx
  obtain rfl : b = g := by simpa [ownB, Value.ownBlock, eq_comm] using hx
  exact ⟨hb, (Array.getElem?_eq_some_iff.1 hg).1⟩
theorem QueV.one {w : World} {base g : Nat} {x : Int} (B : Blk w g #[.int .i64 x] 3) (hb : base ≤ g) : QueV w base (.slice (some ⟨g, 0, none⟩) 1 1) [x] :=
  ⟨g, 0, 1, _, rfl, hb, B, by simp, by unfold maxLen; omega, by simp, by simp⟩
theorem QueV.cell {w : World} {base g o n C : Nat} {xs : List Int} (h : QueV w base (.slice (some ⟨g, o, none⟩) n C) xs) (i : Nat) (hi : i < xs.length) : w.cell? ⟨g, o + i, none⟩ = some (.int .i64 (nth xs i)) := by
  obtain ⟨g', o', C', cur, hv, hb, hg, h1, h2, h3, h4⟩ := h
  simp only [Value.slice.injEq, Option.some.injEq, Addr.mk.injEq, and_true] at hv
  obtain ⟨⟨rfl, rfl⟩, _, rfl⟩ := hv
  rw [cell_of_row w g (o + i) cur _ (0, 0) hg]
  have h5 : ((cur.toList.drop o).take xs.length)[i]? = (xs.map (Value.int .i64))[i]? := by rw [h4]
  rw [List.getElem?_take_of_lt hi, List.getElem?_drop, List.getElem?_map, List.getElem?_eq_getElem hi] at h5
  simpa [nth, hi] using h5
theorem QueV.tail {w : World} {base g o n C : Nat} {x : Int} {xs : List Int} (h : QueV w base (.slice (some ⟨g, o, none⟩) n C) (x :: xs)) : QueV w base (.slice (some ⟨g, o + 1, none⟩) xs.length (C - 1)) xs := by
  obtain ⟨g', o', C', cur, hv, hb, hg, h1, h2, h3, h4⟩ := h
  simp only [Value.slice.injEq, Option.some.injEq, Addr.mk.injEq, and_true] at hv
  obtain ⟨⟨rfl, rfl⟩, _, rfl⟩ := hv
  simp only [List.length_cons] at h1 h4
  refine ⟨g, o + 1, C - 1, cur, rfl, hb, hg, by omega, by omega, by omega, ?_⟩
  have h5 := congrArg List.tail h4
  rw [List.map_cons, List.tail_cons] at h5
  rw [← h5, ← List.drop_one, List.drop_take, List.drop_drop]
  rfl
section
variable {P : Program}
theorem run_append_roomO (w : World) (t ty e : TypeId) (i : TypeInfo) (ht : P.underlying t = some (.slice e)) (hi : P.info? e = some i)
    (g o sLen sCap : Nat) (cur : Array Value) (hg : w.heap[g]? = some (.cells cur e (0, 0)))
    (a : Addr) (m c : Nat) (news : List Value) (hl : news.length = m * i.size) (hnews : ∀ j u, news[j]? = some u → w.cell? (a.add j) = some u) (h1 : ∀ u ∈ news, u.oneCell' = true)
    (hroom : sLen + m ≤ sCap) (hfit : o + sLen * i.size + news.length ≤ cur.size) :
    (Builtin.append_ #[t, t] ty #[.slice (some ⟨g, o, none⟩) sLen sCap, .slice (some a) m c]).run P w =
      .ok (.slice (some ⟨g, o, none⟩) (sLen + m) sCap) (w.setRow g (cur.toList.take (o + sLen * i.size) ++ news ++ cur.toList.drop (o + sLen * i.size + news.length)).toArray) := by
  have hf := run_firstCells_some (P := P) w i.size m a m c news hl hnews
  have hst := run_storeCells_at P g (o + sLen * i.size) e news 0 cur w hg (by simpa using hfit) h1
  simp only [Nat.add_zero] at hst
  have hadd : (⟨g, o, none⟩ : Addr).add (sLen * i.size) = ⟨g, o + sLen * i.size, none⟩ := by unfold Addr.add; split <;> simp_all
  simp [Builtin.append_, run_underlying ht, sizeOf, typeInfo, hi, Builtin.lenOf, hroom, hf, hadd, hst]
theorem run_append_que (w : World) (base : Nat) (t ty : TypeId) (i : TypeInfo) (ht : P.underlying t = some (.slice 3)) (hi : P.info? 3 = some i) (hz : i.zero = some (.int .i64 0)) (hsz : i.size = 1) (hby : i.bytes = 8)
    (v : Value) (xs : List Int) (x : Int) (h : QueV w base v xs) (b : Nat) (hB : w.cell? ⟨b, 0, none⟩ = some (.int .i64 x)) (hl : xs.length + 1 ≤ 1000000) (hbase : base ≤ w.heap.size) :
    ∃ v' w', (Builtin.append_ #[t, t] ty #[v, .slice (some ⟨b, 0, none⟩) 1 1]).run P w = .ok v' w' ∧ QueV w' base v' (xs ++ [x]) ∧ Keep (ownB v) w w' ∧ (∀ c ∈ ownB v', c ∈ ownB v ∨ c = w.heap.size) ∧ ∃ A C, v' = .slice A (xs.length + 1) C := by
  obtain ⟨g, o, C, cur, rfl, hb, hg, h1, h2, h3, h4⟩ := h
  have hnews : ∀ j u, [Value.int .i64 x][j]? = some u → w.cell? ((⟨b, 0, none⟩ : Addr).add j) = some u := fun j u hu => by
    match j with
    | 0 => have : (⟨b, 0, none⟩ : Addr).add 0 = ⟨b, 0, none⟩ := rfl
           rw [this, hB]; simpa using hu
    | j + 1 => simp at hu
  by_cases hroom : xs.length + 1 ≤ C
  · have hr := run_append_roomO (P := P) w t ty _ i ht hi g o xs.length C cur hg ⟨b, 0, none⟩ 1 1 [.int .i64 x] (by simp [hsz]) hnews (by simp [Value.oneCell']) hroom (by simp [hsz]; omega)
    refine ⟨_, _, hr, ⟨g, o, C, _, by simp, hb, setRow_heap w g cur _ _ _ hg, by simpa using hroom, h2, ?_, ?_⟩, ⟨rfl, rfl, rfl, by simp, fun k _ hk => setRow_other w g k _ (fun e => hk (by simp [ownB, Value.ownBlock, e]))⟩, fun c hc => .inl hc, _, _, rfl⟩
    · simp [hsz]; omega
    · simp only [hsz, Nat.mul_one, List.length_append, List.length_singleton, List.map_append, List.map_cons, List.map_nil]
      have e1 : (cur.toList.take (o + xs.length)).length = o + xs.length := by simp; omega
      rw [List.append_assoc, List.drop_append_of_le_length (by omega), List.take_append]
      have e2 : ((cur.toList.take (o + xs.length)).drop o) = xs.map (Value.int .i64) := by
        rw [← h4, List.drop_take]; congr 1; omega
      rw [e2]
      simp
      exact List.take_of_length_le (by simp)
  · have hg2 : ∀ j u, (xs.map (Value.int .i64))[j]? = some u → w.cell? ((⟨g, o, none⟩ : Addr).add j) = some u := fun j u hu => by
      have hadd : (⟨g, o, none⟩ : Addr).add j = ⟨g, o + j, none⟩ := by unfold Addr.add; split <;> simp_all
      rw [hadd, cell_of_row w g (o + j) cur _ (0, 0) hg]
      rw [← h4, List.getElem?_take] at hu
      split at hu
      · rw [List.getElem?_drop] at hu; simpa using hu
      · cases hu
    have hnx : Builtin.nextslicecap (xs.length + 1) C * i.bytes ≤ 281474976710656 := growslice_fits (by omega) (by rw [hby]; omega)
    have hr := run_append_grow (P := P) w t ty _ i (.int .i64 0) ht hi hz ⟨g, o, none⟩ xs.length C (xs.map (Value.int .i64)) (by simp [hsz]) hg2 ⟨b, 0, none⟩ 1 1 [.int .i64 x] (by simp [hsz]) hnews (by omega) (by omega) hnx
    have hge := grownCap_ge w (xs.length + 1) C 3
    have hcm : grownCap w (xs.length + 1) C 3 ≤ maxLen := grownCap_le_maxLen w (xs.length + 1) C 3 (by unfold maxLen; omega)
    refine ⟨_, _, hr, ⟨w.heap.size, 0, _, _, by simp, hbase, heap_alloc_new w.drew _, by simpa using hge, hcm, ?_, ?_⟩, ⟨rfl, rfl, rfl, by simp, fun k hk _ => Below.heap_alloc w.drew _ k hk⟩, fun c hc => .inr (by simpa [ownB, Value.ownBlock, eq_comm] using hc), _, _, rfl⟩
    · simp [size_zeroCells, Value.cells]; omega
    · simp [List.take_append]
      exact List.take_of_length_le (by simp)
end
end Go.Proofs.YtbpidoiellcccaaGreatDoor
namespace Go.Proofs.YtbpidoiellcccaaGreatDoor
open Go Go.RowKit Go.MapKept

theorem mem_ownB {b g o n C : Nat} : b ∈ ownB (.slice (some ⟨g, o, none⟩) n C) ↔ b = g := by simp [ownB, Value.ownBlock, eq_comm]
theorem NumV.made (w : World) (base : Nat) (hb : base ≤ w.heap.size) : NumV (w.alloc (.cells #[] 3)) base (.slice (some ⟨w.heap.size, 0, none⟩) 0 0) [] :=
  .ofRow ⟨rfl, .inr ⟨w.heap.size, 0, #[], rfl, hb, Blk.new w #[] 3, by simp, by decide, rfl, rfl⟩⟩
set_option maxRecDepth 20000 in
set_option maxHeartbeats 2000000 in
theorem intClone_any (A : Option Addr) (C : Nat) (l : List Int) (w : World) (H : SlOf IntRow [] w 1 (.slice A l.length C) l) (hN : l.length ≤ 1000000) :
    Calls Tryz.prog 26 #[.slice A l.length C] w fun e w' => (∃ v', e = .returned v' ∧ NumV w' w.heap.size v' l ∧ (∀ b ∈ ownB v', w.heap.size ≤ b)) ∧ Keep [] w w' := by
  have qT : ∀ (w : World) (a : Option Addr) (n c n' c' : Nat), (binOp .eql 26 (.slice a n c) (.slice none n' c')).run Tryz.prog w = .ok (.bool a.isNone) w := fun w a n c n' c' => Lib.run_eql_slice_nil w _ _ a n c n' c' Tryz.underlying26
  obtain ⟨i0, hi0, hz0, hz1, hz2⟩ := info_parts info_int
  have K0 := (Keep.refl [] w).alloc (.cells #[] 3)
  have hO := NumV.made w w.heap.size (Nat.le_refl _)
  have H0 := SlOf.move H intRow_stab (by omega) K0 (by simp) (fun x hx => .inl hx)
  cases A with
  | none =>
    have : l = [] := by
      obtain ⟨a, c, hv, _, hr⟩ := SlOf.at H
      simp only [Value.slice.injEq] at hv
      cases l with
      | nil => rfl
      | cons x l =>
        obtain ⟨b, o, hb, _⟩ := hr (by simp)
        rw [hb] at hv
        simp at hv
    subst this
    go_enter Tryz.func26, Tryz.ntmps26
    go_wp2
    go_ret
    exact ⟨⟨_, rfl, NumV.nil _ _, by simp [ownB, Value.ownBlock]⟩, Keep.refl _ _⟩
  | some ad =>
    have HO := Lib.hid hO; clear hO
    have HH0 := Lib.hid H; clear H0 H
    generalize hl : l.length = n at *
    have HL := Lib.hid hl
    clear hl
    go_enter Tryz.func26, Tryz.ntmps26
    go_wp2_with (at_builtin; refine Hid.out ?_)
    refine Lib.hid ?_
    refine wpList_append_data intRow_stab intRow_one rfl _ _ 26 rfl Tryz.underlying26 hi0 hz0 hz1 hz2 rfl (by omega) (S := []) (base := w.heap.size) (v := .slice (some ⟨w.heap.size, 0, none⟩) 0 0) (A := some ad) (m := n) (C := C) (xs := []) (ys := l) rfl rfl
      HO.out (SlOf.move HH0.out intRow_stab (by omega) ((Keep.refl [] w).alloc _) (by simp) (fun x hx => .inr (Nat.le_of_eq (mem_ownB.1 (by simpa using hx)).symm))) (by have := HL.out; simp; omega) (by have := HL.out; simp; omega) (by simp) ?_
    intro A9 C9 w9 O9 K9 n9
    simp only [List.length_nil, Nat.zero_add, List.nil_append] at O9 n9
    have hol : NumV w9 w.heap.size (.slice A9 l.length C9) l := NumV.of O9
    have hbs : ∀ b ∈ ownB (.slice A9 l.length C9), w.heap.size ≤ b := fun b hb => (O9.base b hb).1
    have HF := Lib.hid (⟨hol, hbs, K0.then K9 (fun b hb => .inr (by simp [ownB, Value.ownBlock] at hb; omega))⟩ : _ ∧ _ ∧ _)
    clear O9 K9 n9 hol hbs
    go_wp2
    go_ret
    exact ⟨⟨_, rfl, HF.out.1, HF.out.2.1⟩, HF.out.2.2⟩
theorem box_one {w : World} {pb : Nat} {v : Value} {T : TypeId} (B : Blk w pb #[v] T) : w.cell? ⟨pb, 0, none⟩ = some v ∧ w.frozen? ⟨pb, 0, none⟩ = false := ⟨by rw [B.cell]; rfl, B.frozen 0⟩
theorem len_any (pb : Nat) (A : Option Addr) (n C : Nat) (w : World) (B : Blk w pb #[.slice A n C] 60) :
    Calls Tryz.prog 28 #[.pointer (some ⟨pb, 0, none⟩)] w fun e w' => e = .returned (.int .i64 n) ∧ Keep [] w w' := by
  obtain ⟨b0, f0⟩ := box_one B
  go_enter Tryz.func28, Tryz.ntmps28
  go_wp2
  go_ret
  exact ⟨rfl, Keep.refl _ _⟩
theorem less_any (pb base : Nat) (v : Value) (xs : List Int) (i k : Nat) (w : World) (B : Blk w pb #[v] 60) (H : NumV w base v xs) (hi : i < xs.length) (hk : k < xs.length) :
    Calls Tryz.prog 196 #[.pointer (some ⟨pb, 0, none⟩), .int .i64 i, .int .i64 k] w fun e w' => e = .returned (.bool (decide (nth xs i < nth xs k))) ∧ Keep [] w w' := by
  obtain ⟨g, C, rfl, hb, hg, hC, hm, hf, hc⟩ := H.at (by omega)
  obtain ⟨b0, f0⟩ := box_one B
  have ci := hc i hi
  have ck := hc k hk
  generalize nth xs i = x at *
  generalize nth xs k = y at *
  clear hc hf B
  go_enter Tryz.func196, Tryz.ntmps196
  go_wp2
  go_quiet (fail)
  go_wp2
  go_ret
  exact ⟨rfl, (Keep.refl _ _).drewN _⟩
/-- Two of them change places. -/
theorem NumV.swap {w : World} {base g C n : Nat} {xs : List Int} (h : NumV w base (.slice (some ⟨g, 0, none⟩) n C) xs) (hn : n = xs.length) (i k : Nat) (hi : i < xs.length) (hk : k < xs.length) :
    NumV ((w.setCell ⟨g, i, none⟩ (.int .i64 (nth xs k))).setCell ⟨g, k, none⟩ (.int .i64 (nth xs i))).drew base (.slice (some ⟨g, 0, none⟩) n C) (swapL xs i k) := by
  unfold swapL
  exact (NumV.set (NumV.set h hn i hi (nth xs k)) (by simp [hn]) k (by simpa using hk) (nth xs i)).keep (Keep.refl [] _).drew (by simp)
set_option maxHeartbeats 2000000 in
theorem push_any (pb base : Nat) (v : Value) (xs : List Int) (x : Int) (w : World) (B : Blk w pb #[v] 60) (H : NumV w base v xs) (hpb : pb ∉ ownB v) (hl : xs.length < 100000) (hbase : base ≤ w.heap.size) :
    Calls Tryz.prog 198 #[.pointer (some ⟨pb, 0, none⟩), .iface 3 (.int .i64 x)] w fun e w' => e = .returned (.tuple #[]) ∧ (∃ v', Blk w' pb #[v'] 60 ∧ NumV w' base v' (xs ++ [x]) ∧ pb ∉ ownB v' ∧ ∀ b ∈ ownB v', b ∈ ownB v ∨ w.heap.size ≤ b) ∧ Keep (pb :: ownB v) w w' := by
  obtain ⟨b0, f0⟩ := box_one B
  have hta : ∀ w, (Instr.typeAssert (.iface 3 (.int .i64 x)) 20 3 true).run Tryz.prog w = .ok (.tuple #[.int .i64 x, .bool true]) w := fun _ => by kernel_rfl
  obtain ⟨i0, hi0, hz0, hz1, hz2⟩ := info_parts info_int
  go_enter Tryz.func198, Tryz.ntmps198
  obtain ⟨A, C, rfl⟩ := H.slice
  have HH := Lib.hid (⟨B, H⟩ : _ ∧ _); clear B H
  generalize hln : xs.length = n at *
  have HL := Lib.hid hln
  clear hln
  go_wp2_with (at_builtin; refine Hid.out ?_)
  refine Lib.hid ?_
  have K0 := (Keep.refl [] w).alloc (.cells #[.int .i64 x] 3)
  have hpl := HH.out.1.lt
  refine wpList_append_data intRow_stab intRow_one rfl _ _ 60 rfl Tryz.underlying60 hi0 hz0 hz1 hz2 rfl (by omega) (S := []) (base := base) (v := .slice A n C) (A := some ⟨w.heap.size, 0, none⟩) (m := 1) (C := 1) (xs := xs) (ys := [x]) rfl rfl
    (HH.out.2.keep K0 (by simp)) (one_int (Blk.new w _ 3) (fun hx => by have := (HH.out.2.base _ (by simpa using hx)).2; omega)) (by have := HL.out; simp; omega) (by have := HL.out; simp; omega) (by simp; omega) ?_
  intro A9 C9 w9 O9 K9 n9
  rw [HL.out] at O9 n9 ⊢
  have hbs := HH.out.2.base
  have B9 := (HH.out.1.keep K0 (by simp)).keep K9 hpb
  have hpn : pb ∉ ownB (.slice A9 (n + [x].length) C9) := fun h => by
    rcases n9 _ h with h | h
    · exact hpb h
    · simp at h; omega
  have KS := (Keep.refl [pb] w9).setCell (p := ⟨pb, 0, none⟩) (by simp) (.slice A9 (n + [x].length) C9)
  have BS : Blk (w9.setCell ⟨pb, 0, none⟩ (.slice A9 (n + [x].length) C9)) pb #[.slice A9 (n + [x].length) C9] 60 := by simpa using B9.set 0 (.slice A9 (n + [x].length) C9)
  have KF : Keep (pb :: ownB (.slice A n C)) w (w9.setCell ⟨pb, 0, none⟩ (.slice A9 (n + [x].length) C9)) := ((K0.mono (by simp)).then K9 (fun b hb => .inl (by simp [hb]))).then KS (fun b hb => .inl (by simp at hb; simp [hb]))
  have HF := Lib.hid (⟨BS, (NumV.of O9).keep KS (by simpa using hpn), hpn, fun b hb => (n9 b hb).imp_right (fun h => by rw [h]; simp), KF⟩ : _ ∧ _ ∧ _ ∧ (∀ b ∈ ownB (.slice A9 (n + [x].length) C9), b ∈ ownB (.slice A n C) ∨ w.heap.size ≤ b) ∧ _)
  have b9 := B9.cell
  have f9 := B9.frozen
  clear O9 K9 n9 KS BS KF b0 f0 hpl hbs hpn B9
  go_wp2
  go_end0
  exact ⟨rfl, ⟨_, HF.out.1, HF.out.2.1, HF.out.2.2.1, HF.out.2.2.2.1⟩, HF.out.2.2.2.2⟩
set_option maxHeartbeats 2000000 in
theorem pop_any (pb base : Nat) (v : Value) (xs : List Int) (n : Nat) (w : World) (B : Blk w pb #[v] 60) (H : NumV w base v xs) (hpb : pb ∉ ownB v) (hn : xs.length = n + 1) (hl : n < 100000) :
    Calls Tryz.prog 197 #[.pointer (some ⟨pb, 0, none⟩)] w fun e w' => e = .returned (.iface 3 (.int .i64 (nth xs n))) ∧ (∃ v', Blk w' pb #[v'] 60 ∧ NumV w' base v' (xs.take n) ∧ ownB v' = ownB v) ∧ Keep [pb] w w' := by
  obtain ⟨g, C, rfl, hb, hg, hC, hm, hf, hc⟩ := H.at (by omega)
  obtain ⟨b0, f0⟩ := box_one B
  have cn := hc n (by omega)
  have HT := Lib.hid (H.take rfl n (by omega) (by omega))
  generalize nth xs n = x at *
  rw [hn] at *
  clear hc
  go_enter Tryz.func197, Tryz.ntmps197
  have KS := (Keep.refl [pb] w).setCell (p := ⟨pb, 0, none⟩) (by simp) (.slice (some ⟨g, 0, none⟩) n C)
  have BS : Blk (w.setCell ⟨pb, 0, none⟩ (.slice (some ⟨g, 0, none⟩) n C)) pb #[.slice (some ⟨g, 0, none⟩) n C] 60 := by simpa using B.set 0 (.slice (some ⟨g, 0, none⟩) n C)
  have hpg : pb ∉ ownB (.slice (some ⟨g, 0, none⟩) n C) := fun h => hpb (mem_ownB.2 (mem_ownB.1 h))
  have HF := Lib.hid (⟨BS, HT.out.keep KS (by simpa using hpg), KS⟩ : _ ∧ _ ∧ _)
  clear KS BS hpg HT B H
  go_wp2
  go_ret
  exact ⟨rfl, ⟨_, HF.out.1, HF.out.2.1, rfl⟩, HF.out.2.2⟩
end Go.Proofs.YtbpidoiellcccaaGreatDoor
namespace Go.Proofs.YtbpidoiellcccaaGreatDoor
open Go Go.RowKit Go.MapKept

set_option maxHeartbeats 2000000 in
theorem swap_any (pb base : Nat) (v : Value) (xs : List Int) (i k : Nat) (w : World) (B : Blk w pb #[v] 60) (H : NumV w base v xs) (hpb : pb ∉ ownB v) (hi : i < xs.length) (hk : k < xs.length) :
    Calls Tryz.prog 199 #[.pointer (some ⟨pb, 0, none⟩), .int .i64 i, .int .i64 k] w fun e w' => e = .returned (.tuple #[]) ∧ Blk w' pb #[v] 60 ∧ NumV w' base v (swapL xs i k) ∧ Keep (ownB v) w w' := by
  obtain ⟨g, C, rfl, hb, hg, hC, hm, hf, hc⟩ := H.at (by omega)
  obtain ⟨b0, f0⟩ := box_one B
  have hpg : pb ≠ g := fun e => hpb (by simp [ownB, Value.ownBlock, e])
  have ci := hc i hi
  have ck := hc k hk
  have fi := hf i
  have fk := hf k
  have HFIN := H.swap rfl i k hi hk
  have HKP : ∀ (x y : Value), Keep (ownB (.slice (some ⟨g, 0, none⟩) xs.length C)) w ((w.setCell ⟨g, i, none⟩ x).setCell ⟨g, k, none⟩ y).drew := fun x y =>
    ((((Keep.refl _ w).setCell (p := ⟨g, i, none⟩) (.inl (by simp [ownB, Value.ownBlock])) x)).setCell (p := ⟨g, k, none⟩) (.inl (by simp [ownB, Value.ownBlock])) y).drew
  have HBL : ∀ (x y : Value), Blk ((w.setCell ⟨g, i, none⟩ x).setCell ⟨g, k, none⟩ y).drew pb #[.slice (some ⟨g, 0, none⟩) xs.length C] 60 := fun x y => B.keep (HKP x y) hpb
  have HH := Lib.hid (⟨HFIN, HKP, HBL⟩ : _ ∧ _ ∧ _)
  clear HFIN HKP HBL hc hf B H
  generalize nth xs i = x at *
  generalize nth xs k = y at *
  by_cases e : i = k
  · subst e
    obtain rfl : x = y := by rw [ci] at ck; simpa using ck
    go_enter Tryz.func199, Tryz.ntmps199
    go_wp2_with fail
    go_region
    go_wp2
    go_end0
    exact ⟨rfl, HH.out.2.2 _ _, HH.out.1, HH.out.2.1 _ _⟩
  · go_enter Tryz.func199, Tryz.ntmps199
    go_wp2_with fail
    go_region
    go_wp2
    go_end0
    exact ⟨rfl, HH.out.2.2 _ _, HH.out.1, HH.out.2.1 _ _⟩
end Go.Proofs.YtbpidoiellcccaaGreatDoor
