/- The nonterminals of a known text. -/
import Derived.Test.YtacihjabkiedcaaGreatDoorG9
import Derived.Test.YtacihjabkiedcaaGreatDoorG14
import Derived.Test.YtacihjabkiedcaaGreatDoorG3
import Derived.Test.YtacihjabkiedcaaGreatDoorG13
import Derived.Lib.AppendZeros
import Derived.OwnWalk
import Derived.StillTailTactics
set_option linter.unusedVariables false
set_option linter.unusedSimpArgs false
namespace Go.Proofs.YtacihjabkiedcaaGreatDoor
open Go Go.RowKit Go.MapKept

/-- What a known file comes to. -/
structure OfOK (d : Nat) (f : FileS) (g : GramS) : Prop where
  len : f.rules.length ≤ 60 ∧ 0 < f.rules.length ∧ f.keys.length ≤ 1000000
  nodup : (f.rules.map RuleS.name).Nodup
  nt : ∀ r ∈ f.rules, r.nt.length ≤ 1000000
  ok : ∀ r ∈ f.rules, (altP r.e).length ≤ 1000000 ∧ ∀ x ∈ altP r.e, okF d x = true ∧ wtF d x ≤ 1000000
  res : rulesF (pieceF (f.rules.map RuleS.name) d) f.rules f.rules.length ⟨f.rules.map prod0, none⟩ = ⟨g.p, none⟩
  keys : g.keys = f.keys
theorem of_known (S0 : List Nat) (d : Nat) (f : FileS) (g : GramS) (row : Array Value) (w : World) (h : OfOK d f g) (hS0 : ∀ b ∈ S0, b < w.heap.size) (H : FileAt S0 w f row) :
    Calls Tryz.prog 50 #[.agg row] w (OfPost S0 w g) := by
  have h1 := of_any S0 d f row w hS0 h.len.1 h.len.2.1 h.len.2.2 H h.nodup h.nt h.ok (by rw [h.res])
  rw [h.res] at h1
  obtain ⟨gp, gk⟩ := g
  have hk : gk = f.keys := h.keys
  subst hk
  exact h1
def okFile (d : Nat) (f : FileS) : Bool := f.rules.all fun r => decide ((altP r.e).length ≤ 1000000) && (altP r.e).all fun x => okF d x && decide (wtF d x ≤ 1000000)
theorem okFile_of {d : Nat} {f : FileS} (h : okFile d f = true) : ∀ r ∈ f.rules, (altP r.e).length ≤ 1000000 ∧ ∀ x ∈ altP r.e, okF d x = true ∧ wtF d x ≤ 1000000 := by
  intro r hr
  have h1 := List.all_eq_true.1 h r hr
  simp only [Bool.and_eq_true, decide_eq_true_eq, List.all_eq_true] at h1
  exact h1
/-- Text s is read as file f, of which g is made. -/
structure TextOK (d : Nat) (s : ByteArray) (f : FileS) (g : GramS) : Prop where
  size : s.size ≤ 3000
  no1 : s.data.toList.all (fun b => b.toNat != 91) = true
  no2 : s.data.toList.all (fun b => b.toNat != 60) = true
  lex : (lexR cN cN s (s.size + 1) 0 []).2.2 = 0
  parse : parseR s.size (lexR cN cN s (s.size + 1) 0 []).1 = .ok f
  of : OfOK d f g
set_option maxHeartbeats 2000000 in
theorem text_any (d : Nat) (s : ByteArray) (f : FileS) (g : GramS) (h : TextOK d s f g) (w : World) :
    Calls Tryz.prog 33 #[.string s] w fun e w' => (∃ row, e = .returned (.agg row) ∧ GramAt [] w' g row) ∧ Keep [] w w' := by
  have K0 := (Keep.refl [] w).alloc (.cells gramZ 25)
  have B0 := Blk.new w gramZ 25
  have hf := file_known [w.heap.size] s f (w.alloc (.cells gramZ 25)) (by simp) h.size h.no1 h.no2 h.lex h.parse
  have HF := Lib.hid hf; clear hf
  have HO := fun row w hS H => of_known [w.heap.size] d f g row w h.of hS H
  have HOF := Lib.hid h.of
  clear h HO
  unfold gramZ at HF K0 B0
  go_enter Tryz.func33, Tryz.ntmps33
  go_wp2_with fail
  refine HF.out.mono ?_
  rintro e w1 ⟨K1, row, rfl, hfile⟩
  clear HF
  obtain ⟨A1, C1, D1, E1, rfl, hk1, hr1⟩ := hfile
  have B1 := B0.keep K1 (by simp)
  have KF := (Keep.refl [] w1).alloc (.cells #[.slice A1 f.keys.length C1, .slice D1 f.rules.length E1] 67)
  have hcall := of_known [w.heap.size] d f g #[.slice A1 f.keys.length C1, .slice D1 f.rules.length E1] _ HOF.out (fun b hb => by have := B1.lt; simp at hb; subst hb; simp; omega) ⟨_, _, _, _, rfl, SlOf.move hk1 strRow_stab (by omega) KF (by simp) (fun x hx => .inl hx), SlOf.move hr1 ruleAt_stab (by omega) KF (by simp) (fun x hx => .inl hx)⟩
  have HC := Lib.hid hcall; clear hcall hk1 hr1
  have hmv : ∀ (x y z : Value) (w : World), (Instr.extract (.tuple #[x, y, z]) 0).run Tryz.prog w = .ok x w := fun _ _ _ _ => rfl
  go_wp2_with fail
  refine HC.out.mono ?_
  rintro e w2 ⟨row2, rfl, hg, K2⟩
  clear HC
  obtain ⟨A2, C2, D2, E2, rfl, hP, hK⟩ := hg
  have B2 := (B1.keep KF (by simp)).keep K2 (by simp)
  have c2 := B2.cell
  have f2 := B2.frozen
  have l2 := B2.lt
  have KS := (((Keep.refl [w.heap.size] w2).setCell (p := ⟨w.heap.size, 0, none⟩) (by simp) (.slice A2 g.p.length C2)).setCell (p := ⟨w.heap.size, 1, none⟩) (by simp) (.slice D2 g.keys.length E2)).alloc (.cells #[.slice A2 g.p.length C2, .slice D2 g.keys.length E2] 25)
  have BF : Blk (((w2.setCell ⟨w.heap.size, 0, none⟩ (.slice A2 g.p.length C2)).setCell ⟨w.heap.size, 1, none⟩ (.slice D2 g.keys.length E2)).alloc (.cells #[.slice A2 g.p.length C2, .slice D2 g.keys.length E2] 25)) w.heap.size #[.slice A2 g.p.length C2, .slice D2 g.keys.length E2] 25 := by simpa using ((B2.set 0 (.slice A2 g.p.length C2)).set 1 (.slice D2 g.keys.length E2)).alloc _
  have cF := BF.cell
  have CF := Lib.hid cF
  have hfin : GramAt [] (((w2.setCell ⟨w.heap.size, 0, none⟩ (.slice A2 g.p.length C2)).setCell ⟨w.heap.size, 1, none⟩ (.slice D2 g.keys.length E2)).alloc (.cells #[.slice A2 g.p.length C2, .slice D2 g.keys.length E2] 25)) g #[.slice A2 g.p.length C2, .slice D2 g.keys.length E2] :=
    ⟨_, _, _, _, rfl, SlOf.move hP prodRow_stab (by omega) KS (fun x hx => .inl hx) (by simp), SlOf.move hK strRow_stab (by omega) KS (fun x hx => .inl hx) (by simp)⟩
  have HFIN := Lib.hid hfin
  have HK := Lib.hid ((((K0.trans K1).trans KF).trans K2).then KS (fun x hx => by simp at hx; subst hx; exact .inr (Nat.le_refl _)))
  clear cF hfin KS BF
  go_wp2
  have cF := CF.out
  exact bodyPost_ret (v := .agg #[.slice A2 g.p.length C2, .slice D2 g.keys.length E2]) (by simp [results, Tryz.results33, go_sem, cF]) rfl ⟨⟨_, rfl, HFIN.out⟩, HK.out⟩
end Go.Proofs.YtacihjabkiedcaaGreatDoor
/- Sets of numbers that are kept as maps from int to bool, all of whose elements are true. -/
namespace Go.Proofs.YtacihjabkiedcaaGreatDoor
open Go Go.RowKit Go.MapKept

/-- Block b is the set of these numbers. -/
def SetI (w : World) (b : Nat) (l : List Int) : Prop := ∃ es clk, MapB w b es clk ∧ es.toList.map (fun e => (e.key, e.val)) = l.map (fun n => (Value.int .i64 n, Value.bool true))
theorem eraseIdx_map {α β : Type} (f : α → β) : ∀ (l : List α) (i : Nat), (l.eraseIdx i).map f = (l.map f).eraseIdx i
  | [], _ => rfl
  | a :: l, 0 => rfl
  | a :: l, i + 1 => by simp [List.eraseIdx, eraseIdx_map f l i]
theorem SetI.keep {w w' : World} {S : List Nat} {b : Nat} {l : List Int} (h : SetI w b l) (K : Keep S w w') (hb : b ∉ S) : SetI w' b l := by
  obtain ⟨es, clk, h1, h2⟩ := h
  exact ⟨es, clk, h1.keep K hb, h2⟩
theorem SetI.lt {w : World} {b : Nat} {l : List Int} (h : SetI w b l) : b < w.heap.size := by
  obtain ⟨es, clk, h1, h2⟩ := h
  exact h1.lt
theorem SetI.drewN {w : World} {b : Nat} {l : List Int} (h : SetI w b l) (n : Nat) : SetI (w.drewN n) b l := h
theorem SetI.drew {w : World} {b : Nat} {l : List Int} (h : SetI w b l) : SetI w.drew b l := h
theorem SetI.new (w : World) (clk : Nat) : SetI (w.alloc (.map #[] clk)) w.heap.size [] := ⟨#[], clk, MapB.new w _ _, rfl⟩
/-- Where a number stands among entries. -/
theorem findI (x : Int) : ∀ (es : List MapEntry) (l : List Int) (i : Nat), es.map (fun e => (e.key, e.val)) = l.map (fun n => (Value.int .i64 n, Value.bool true)) →
    Instr.findNow (.int .i64) (.int .i64 x) es i = some (if x ∈ l then some (i + l.idxOf x, .bool true) else none)
  | [], l, i, h => by
    have : l = [] := by simpa using h.symm
    subst this
    rfl
  | e :: es, [], i, h => by simp at h
  | e :: es, n :: l, i, h => by
    simp only [List.map_cons, List.cons.injEq, Prod.mk.injEq] at h
    obtain ⟨⟨h1, h2⟩, h3⟩ := h
    have ih := findI x es l (i + 1) h3
    unfold Instr.findNow
    rw [h1]
    by_cases hx : x = n
    · subst hx
      simp [Instr.sameNow, h2]
    · have hb : (x == n) = false := by simpa using hx
      simp only [Instr.sameNow, if_true, hb, ih]
      have : (n == x) = false := by simpa using fun e => hx e.symm
      simp [hx, List.idxOf_cons, this]
      split
      · congr 2; omega
      · rfl
theorem set_look {w : World} {b : Nat} {l : List Int} (h : SetI w b l) (x : Int) : (Instr.lookup 51 (.map (some b)) (.int .i64 x) false).run Tryz.prog w = .ok (.bool (decide (x ∈ l))) w := by
  obtain ⟨es, clk, h1, h2⟩ := h
  rw [run_lookup_at Tryz.underlying51 Tryz.underlying3 (isKey_i64 x) h1 (findI x es.toList l 0 h2) (z := .bool false) (by kernel_rfl) false]
  by_cases hx : x ∈ l <;> simp [hx]
theorem set_add {w : World} {b : Nat} {l : List Int} (h : SetI w b l) (x : Int) : ∃ w1, (Instr.mapUpdate 51 (.map (some b)) (.int .i64 x) (.bool true)).run Tryz.prog w = .ok () w1 ∧ SetI w1 b (if x ∈ l then l else l ++ [x]) ∧ Keep [b] w w1 := by
  obtain ⟨es, clk, h1, h2⟩ := h
  have hf := findI x es.toList l 0 h2
  by_cases hx : x ∈ l
  · rw [if_pos hx] at hf ⊢
    have hlen : es.size = l.length := by have := congrArg List.length h2; simpa using this
    have hidx : l.idxOf x < l.length := List.idxOf_lt_length_of_mem hx
    have hk : ∀ e, es[l.idxOf x]? = some e → e.key = .int .i64 x ∧ e.val = .bool true := fun e he => by
      have h3 := congrArg (fun z => z[l.idxOf x]?) h2
      simp only [List.getElem?_map, Array.getElem?_toList, he, Option.map_some] at h3
      rw [List.getElem?_eq_getElem hidx] at h3
      simp only [Option.map_some, Option.some.injEq, Prod.mk.injEq, List.getElem_idxOf] at h3
      exact h3
    have hkey : ((es[0 + l.idxOf x]?).map (·.key)).getD (.int .i64 x) = .int .i64 x := by
      rw [Nat.zero_add]
      cases he : es[l.idxOf x]? with
      | none => rfl
      | some e => simp [(hk e he).1]
    have hrun : (Instr.mapUpdate 51 (.map (some b)) (.int .i64 x) (.bool true)).run Tryz.prog w = .ok () (setMap w b (es.modify (0 + l.idxOf x) fun e => { e with key := .int .i64 x, val := .bool true }) clk) := by
      unfold Instr.mapUpdate
      simp only [Sem.run_bind, run_underlying Tryz.underlying51, Result.andThen, MapKept.run_getObj_map h1, MapKept.run_checkKey Tryz.underlying3 (isKey_i64 x), MapKept.run_findKey Tryz.underlying3 hf, hkey, run_keyThatStays (isKey_i64 x), MapKept.run_setObj_map _ h1]
      rfl
    refine ⟨_, hrun, ⟨_, _, setMap_at h1 _ _, ?_⟩, setMap_keep (Keep.refl _ _) (by simp) _ _⟩
    rw [← h2]
    apply List.ext_getElem?
    intro j
    simp only [List.getElem?_map, Array.getElem?_toList, Array.getElem?_modify, Nat.zero_add]
    by_cases hj : l.idxOf x = j
    · subst hj
      simp only [if_true]
      cases he : es[l.idxOf x]? with
      | none => rfl
      | some e => simp [(hk e he).1, (hk e he).2]
    · simp [hj]
  · rw [if_neg hx] at hf ⊢
    refine ⟨_, run_mapUpdate_new Tryz.underlying51 Tryz.underlying3 (isKey_i64 x) h1 hf _, ⟨_, _, setMap_at h1 _ _, ?_⟩, setMap_keep (Keep.refl _ _) (by simp) _ _⟩
    simp [h2]
theorem set_del {w : World} {b : Nat} {l : List Int} (h : SetI w b l) (x : Int) (ty : TypeId) : ∃ w1, (Builtin.delete_ #[51, 3] ty #[.map (some b), .int .i64 x]).run Tryz.prog w = .ok (.tuple #[]) w1 ∧ SetI w1 b (l.erase x) ∧ Keep [b] w w1 := by
  obtain ⟨es, clk, h1, h2⟩ := h
  have hf := findI x es.toList l 0 h2
  by_cases hx : x ∈ l
  · rw [if_pos hx] at hf
    have hrun : (Builtin.delete_ #[51, 3] ty #[.map (some b), .int .i64 x]).run Tryz.prog w = .ok (.tuple #[]) (setMap w b (es.eraseIdxIfInBounds (0 + l.idxOf x)) clk) := by
      simp [Builtin.delete_, run_underlying Tryz.underlying51, MapKept.run_getObj_map h1, MapKept.run_checkKey Tryz.underlying3 (isKey_i64 x), MapKept.run_findKey Tryz.underlying3 hf, MapKept.run_setObj_map _ h1, Result.andThen, setMap]
    refine ⟨_, hrun, ⟨_, _, setMap_at h1 _ _, ?_⟩, setMap_keep (Keep.refl _ _) (by simp) _ _⟩
    have hlen : es.size = l.length := by have := congrArg List.length h2; simpa using this
    have hidx : l.idxOf x < l.length := List.idxOf_lt_length_of_mem hx
    unfold Array.eraseIdxIfInBounds
    rw [dif_pos (by omega), Array.toList_eraseIdx, Nat.zero_add]
    have e : l.erase x = l.eraseIdx (l.idxOf x) := List.erase_eq_eraseIdx_of_idxOf rfl
    rw [e, eraseIdx_map, eraseIdx_map, h2]
  · rw [if_neg hx] at hf
    have hrun : (Builtin.delete_ #[51, 3] ty #[.map (some b), .int .i64 x]).run Tryz.prog w = .ok (.tuple #[]) (setMap w b es clk) := by
      simp [Builtin.delete_, run_underlying Tryz.underlying51, MapKept.run_getObj_map h1, MapKept.run_checkKey Tryz.underlying3 (isKey_i64 x), MapKept.run_findKey Tryz.underlying3 hf, MapKept.run_setObj_map _ h1, Result.andThen, setMap]
    refine ⟨_, hrun, ⟨_, _, setMap_at h1 _ _, ?_⟩, setMap_keep (Keep.refl _ _) (by simp) _ _⟩
    rw [List.erase_of_not_mem hx]
    exact h2
theorem set_len {w : World} {b : Nat} {l : List Int} (h : SetI w b l) (ty : TypeId) : (Builtin.len_ #[51] ty #[.map (some b)]).run Tryz.prog w = .ok (.int .i64 l.length) w := by
  obtain ⟨es, clk, h1, h2⟩ := h
  have hlen : es.size = l.length := by have := congrArg List.length h2; simpa using this
  simp [Builtin.len_, run_underlying Tryz.underlying51, MapKept.run_getObj_map h1, Result.andThen, hlen, goInt]
end Go.Proofs.YtacihjabkiedcaaGreatDoor
/- Slices of symbols are put together. -/
namespace Go.Proofs.YtacihjabkiedcaaGreatDoor
open Go Go.RowKit Go.MapKept

theorem run_append_none (w : World) (ty : TypeId) (A : Option Addr) (n cap : Nat) (B : Option Addr) (c : Nat) (h : n ≤ cap) :
    (Builtin.append_ #[40, 40] ty #[.slice A n cap, .slice B 0 c]).run Tryz.prog w = .ok (.slice A n cap) w := by
  obtain ⟨i0, hi0, hz0, hz1, hz2⟩ := info_parts info_sym
  cases A <;> cases B <;> simp [Builtin.append_, run_underlying Tryz.underlying40, sizeOf, typeInfo, hi0, h, Builtin.lenOf, Builtin.firstCells, loadCells, loadCellsFrom, storeCells]
set_option maxRecDepth 20000 in
set_option maxHeartbeats 1000000 in
theorem grow_any (n : Nat) (hn : n ≤ 1000000) (w : World) :
    Calls Tryz.prog 55 #[.slice none 0 0, .int .i64 n] w fun e w' => (∃ v, e = .returned v ∧ OwnL SymRow [] w' w.heap.size 39 3 v [] ∧ (0 < n → ∃ g cap, v = .slice (some ⟨g, 0, none⟩) 0 cap ∧ n ≤ cap)) ∧ Keep [] w w' := by
  obtain ⟨i0, hi0, hz0, hz1, hz2⟩ := info_parts info_sym
  by_cases h0 : 0 < n
  · have h0' : (0 : Int) < (n : Int) := by omega
    have hb : n * 40 ≤ 281474976710656 := by omega
    have hcap := grownCap_ge w n 0 39
    have hcm := grownCap_le_maxLen w n 0 39 (by unfold maxLen; omega)
    have hrun := fun ty => Lib.run_append_nil_zeros w 40 3 ty 39 i0 _ .i64 .i64 Tryz.underlying40 Tryz.underlying3 hi0 hz0 n h0 (by omega) (by omega) (by rw [hz2]; exact hb)
    have hown : (w.drew.alloc (.cells (Builtin.zeroCells (Value.agg #[.int .i64 0, .slice none 0 0, .int .i64 0]).cells n ++ Builtin.zeroCells (Value.agg #[.int .i64 0, .slice none 0 0, .int .i64 0]).cells (grownCap w n 0 39 - n)) 39)).ownsRow w.heap.size 39 3 (.slice (some ⟨w.heap.size, 0, none⟩) 0 (grownCap w n 0 39)) 0 [] := by
      refine ⟨rfl, .inr ⟨w.heap.size, _, _, rfl, Nat.le_refl _, heap_alloc_new w.drew _, by omega, hcm, ?_, by simp⟩⟩
      have e : (Value.agg #[.int .i64 0, .slice none 0 0, .int .i64 0]).cells.size = 3 := rfl
      rw [Array.size_append, size_zeroCells, size_zeroCells, e, ← Nat.add_mul]
      congr 1
      omega
    have KD := ((Keep.refl [] w).drew).alloc (.cells (Builtin.zeroCells (Value.agg #[.int .i64 0, .slice none 0 0, .int .i64 0]).cells n ++ Builtin.zeroCells (Value.agg #[.int .i64 0, .slice none 0 0, .int .i64 0]).cells (grownCap w n 0 39 - n)) 39)
    have HO := Lib.hid hown
    have HR := Lib.hid hrun
    have HK := Lib.hid KD
    clear hown hrun KD
    generalize grownCap w n 0 39 = cap at HO HR HK hcap hcm
    generalize (w.drew.alloc (.cells (Builtin.zeroCells (Value.agg #[.int .i64 0, .slice none 0 0, .int .i64 0]).cells n ++ Builtin.zeroCells (Value.agg #[.int .i64 0, .slice none 0 0, .int .i64 0]).cells (cap - n)) 39)) = W at HO HR HK
    unfold maxLen at hcm
    go_enter Tryz.func55, Tryz.ntmps55
    go_wp2_with (at_builtin; refine Lib.wpList_append_run w rfl _ _ 40 3 rfl (.slice none 0 0) (.int .i64 n) rfl rfl _ _ (HR.out _) ?_)
    go_ret
    exact ⟨⟨_, rfl, ⟨[], rfl, HO.out, fun i hi => absurd hi (by simp)⟩, fun _ => ⟨_, _, rfl, hcap⟩⟩, HK.out⟩
  · obtain rfl : n = 0 := by omega
    go_enter Tryz.func55, Tryz.ntmps55
    go_wp2
    go_ret
    exact ⟨⟨_, rfl, OwnL.nil _ _ _ _ _, fun h => absurd h (by omega)⟩, Keep.refl _ _⟩
end Go.Proofs.YtacihjabkiedcaaGreatDoor
/- Slices of symbols are put together: Concat. -/
namespace Go.Proofs.YtacihjabkiedcaaGreatDoor
open Go Go.RowKit Go.MapKept

/-- Behind an append of several elements. -/
theorem OwnL.appendL {α : Type} {R : List Nat → World → α → Array Value → Prop} {S : List Nat} {w w' : World} {base : Nat} {E : TypeId} {k g cap : Nat} {v : Value} {xs ys : List α} (rows : List (Array Value)) (h1 : rows.length = xs.length)
    (h3 : ∀ i (h : i < xs.length) (h' : i < rows.length), rows[i].size = k ∧ R (ownB v ++ S) w xs[i] rows[i]) (st : Stab R) (rows2 : List (Array Value)) (h2 : rows2.length = ys.length) (h4 : ∀ i (h : i < ys.length) (h' : i < rows2.length), rows2[i].size = k ∧ R (ownB v ++ S) w ys[i] rows2[i])
    (ho : w'.ownsRow base E k (.slice (some ⟨g, 0, none⟩) (xs.length + ys.length) cap) (xs.length + ys.length) (rows.flatMap Array.toList ++ rows2.flatMap Array.toList)) (hg : w.grownBy w' v.ownBlock) (hw : v.ownBlock = some g ∨ g = w.heap.size) :
    OwnL R S w' base E k (.slice (some ⟨g, 0, none⟩) (xs.length + ys.length) cap) (xs ++ ys) := by
  have K : Keep (ownB v) w w' := ⟨hg.os, hg.tape, hg.output, hg.size, fun b hb hs => hg.block b hb (fun e => hs (by simp [ownB, ← e]))⟩
  have hS : ∀ b ∈ ownB (.slice (some ⟨g, 0, none⟩) (xs.length + ys.length) cap) ++ S, b ∈ ownB v ++ S ∨ w.heap.size ≤ b := by
    intro b hb
    rcases List.mem_append.1 hb with hb | hb
    · have : b = g := by simpa [ownB, Value.ownBlock, eq_comm] using hb
      subst this
      rcases hw with hw | hw
      · exact .inl (by simp [ownB, hw])
      · exact .inr (by omega)
    · exact .inl (by simp [hb])
  have hT : ∀ b ∈ ownB v, b ∈ ownB v ++ S ∨ w.heap.size ≤ b := fun b hb => .inl (by simp [hb])
  refine ⟨rows ++ rows2, by simp [h1, h2], ?_, fun i hi hi' => ?_⟩
  · rw [List.length_append, List.flatMap_append]
    exact ho
  · by_cases e : i < rows.length
    · have e2 : (xs ++ ys)[i] = xs[i]'(by omega) := List.getElem_append_left (by omega)
      have e3 : (rows ++ rows2)[i] = rows[i] := List.getElem_append_left e
      rw [e2, e3]
      exact ⟨(h3 i (by omega) e).1, st _ _ _ _ _ _ _ (h3 i (by omega) e).2 K hT hS⟩
    · have hl : i - rows.length < ys.length := by simp at hi; omega
      have e2 : (xs ++ ys)[i] = ys[i - rows.length] := by rw [List.getElem_append_right (by omega)]; simp only [h1]
      have e3 : (rows ++ rows2)[i] = rows2[i - rows.length]'(by omega) := List.getElem_append_right (by omega)
      rw [e2, e3]
      exact ⟨(h4 _ hl (by omega)).1, st _ _ _ _ _ _ _ (h4 _ hl (by omega)).2 K hT hS⟩
def lens (l : List (List SymS)) : Nat := (l.map List.length).sum
theorem lens_take (l : List (List SymS)) (k : Nat) (h : k < l.length) : lens (l.take (k + 1)) = lens (l.take k) + l[k].length := by
  unfold lens
  rw [List.take_succ_eq_append_getElem h]
  simp only [List.map_append, List.sum_append, List.map_cons, List.map_nil, List.sum_cons, List.sum_nil, Nat.add_zero]
theorem lens_le (l : List (List SymS)) : ∀ k, lens (l.take k) ≤ lens l := by
  intro k
  unfold lens
  conv => rhs; rw [← List.take_append_drop k l]
  simp only [List.map_append, List.sum_append]
  omega
theorem flatten_len (l : List (List SymS)) : l.flatten.length = lens l := by simp [lens, List.length_flatten]

set_option maxRecDepth 20000 in
set_option maxHeartbeats 2000000 in
theorem concat_any (S : List Nat) (v : Value) (l : List (List SymS)) (w : World) (H : Alts S w v l) (hN : lens l ≤ 1000000) (hS : ∀ b ∈ S, b < w.heap.size) :
    Calls Tryz.prog 35 #[v] w fun e w' => (∃ v', e = .returned v' ∧ Syms S w' v' l.flatten ∧ ∀ b ∈ ownB v', w.heap.size ≤ b) ∧ Keep [] w w' := by
  obtain ⟨A, C, rfl, hm, hr⟩ := SlOf.at H
  have hml := hm.1
  go_enter Tryz.func35, Tryz.ntmps35
  go_wp2
  go_loop [3, 11] (fun sz i => ∃ k : Nat, k ≤ l.length ∧ i = .int .i64 k ∧ sz = .int .i64 (lens (l.take k) : Nat)) (fun _ i => l.length - (intOf i).toNat)
  case atStart => exact ⟨0, by omega, rfl, by simp [lens]⟩
  case round =>
    obtain ⟨k, hk, rfl, rfl⟩ := hrel
    have hl1 := lens_le l k
    by_cases hlt : k < l.length
    · have hlt' : (k : Int) < (l.length : Int) := by omega
      have hl2 := lens_le l (k + 1)
      have hlk := lens_take l k hlt
      have hlk2 : lens (l.take k) + l[k].length ≤ 1000000 := by omega
      have HLK := Lib.hid hlk; clear hlk hl2
      have HLT := Lib.hid hlt
      obtain ⟨b, o, rfl, hb, hc⟩ := hr (by omega)
      obtain ⟨row, hz, hcell, hR⟩ := hc k hlt
      obtain ⟨A2, C2, rfl, hR2⟩ := hR
      have e0 := hcell 0 (by omega)
      clear hc hr hcell hz H
      simp at e0
      go_wp2
      go_round
      case rel => exact ⟨k + 1, by have := HLT.out; omega, by go_num, by rw [HLK.out]; go_num⟩
      case measure => simp [intOf]; have := HLT.out; omega
    · obtain rfl : k = l.length := by omega
      rw [List.take_length]
      clear hl1
      have HR := Lib.hid hr; clear hr
      have HH := Lib.hid H; clear H
      go_wp2_with fail
      refine (grow_any (lens l) hN w).mono ?_
      rintro e w1 ⟨⟨v1, rfl, hO1, hroom⟩, K1⟩
      have hT0 : Keep [] w w1 ∧ OwnL SymRow S w1 w.heap.size 39 3 v1 (l.take 0).flatten ∧ (0 < lens l → ∃ g cap, v1 = .slice (some ⟨g, 0, none⟩) (l.take 0).flatten.length cap ∧ lens l ≤ cap) := ⟨K1, by
        obtain ⟨rows, h1, h2, h3⟩ := hO1
        exact ⟨rows, h1, h2, fun i hi => absurd hi (by simp)⟩, hroom⟩
      have HT0 := Lib.hid hT0
      clear hT0 hO1 hroom K1
      go_wp2
      go_loopw [6, 27] (fun vk i wr => ∃ k : Nat, k ≤ l.length ∧ i = .int .i64 k ∧ Keep [] w wr ∧ OwnL SymRow S wr w.heap.size 39 3 vk (l.take k).flatten ∧ (0 < lens l → ∃ g cap, vk = .slice (some ⟨g, 0, none⟩) (l.take k).flatten.length cap ∧ lens l ≤ cap)) (fun _ i _ => l.length - (intOf i).toNat)
      case atStart => exact ⟨0, by omega, rfl, HT0.out⟩
      case round =>
        clear HT0
        obtain ⟨k, hk, rfl, K2, hO2, hroom2⟩ := hrel
        by_cases hlt : k < l.length
        · have hlt' : (k : Int) < (l.length : Int) := by omega
          have HLT := Lib.hid hlt
          have hl2 := lens_le l (k + 1)
          have hlk := lens_take l k hlt
          have htk : (l.take (k + 1)).flatten = (l.take k).flatten ++ l[k] := by rw [List.take_succ_eq_append_getElem hlt, List.flatten_append]; simp only [List.flatten_cons, List.flatten_nil, List.append_nil]; rfl
          have HTK := Lib.hid htk; clear htk
          have hfl := flatten_len (l.take k)
          obtain ⟨b, o, rfl, hb, hc⟩ := HR.out (by omega)
          obtain ⟨row, hz, hcell, hR⟩ := hc k hlt
          obtain ⟨A2, C2, rfl, hR2⟩ := hR
          have e0 := hcell 0 (by omega)
          simp at e0
          have e0 := K2.cell e0 (by simp)
          have hlow := hO2.base
          have hR3 : Syms (ownB u6 ++ S) wr (.slice A2 l[k].length C2) l[k] := SlOf.move hR2 symRow_stab (by omega) K2 (by simp) (fun x hx => by
            rcases List.mem_append.1 hx with h | h
            · exact .inr (hlow x h).1
            · exact .inl h)
          clear hc hcell hz hR2
          obtain ⟨A4, C4, hv4⟩ := hO2.slice
          subst hv4
          obtain ⟨rows2, hs2, hlr2, hel2⟩ := hR3
          generalize l[k] = lk at e0 hs2 hlr2 hel2 HTK hlk
          have hlk2 : (l.take k).flatten.length + lk.length ≤ lens l := by omega
          clear hlk hl2 hfl
          generalize (l.take k).flatten = acc at hO2 hroom2 HTK hlk2
          by_cases h0 : lk.length = 0
          · obtain rfl : lk = [] := List.eq_nil_of_length_eq_zero h0
            have hcap : acc.length ≤ C4 := by
              obtain ⟨rows, h1, h2, h3⟩ := hO2
              rcases h2.2 with ⟨_, h4⟩ | ⟨g, cap, cur, hv, _, _, h4, _⟩
              · omega
              · simp only [Value.slice.injEq] at hv; omega
            have hrun := fun w ty => run_append_none w ty A4 acc.length C4 A2 C2 hcap
            have HRUN := Lib.hid hrun
            have HFIN : Hid (OwnL SymRow S wr w.heap.size 39 3 (.slice A4 acc.length C4) (l.take (k + 1)).flatten ∧ (0 < lens l → ∃ g cap, (Value.slice A4 acc.length C4) = .slice (some ⟨g, 0, none⟩) (l.take (k + 1)).flatten.length cap ∧ lens l ≤ cap)) := Lib.hid (by rw [HTK.out, List.append_nil]; exact ⟨hO2, hroom2⟩)
            clear hrun hs2 hlr2 hel2 hroom2 hO2 h0
            go_wp2_with (at_builtin; refine Lib.wpList_append_run wr rfl _ _ 40 40 rfl (.slice A4 acc.length C4) (.slice A2 0 C2) rfl rfl _ _ (HRUN.out _ _) ?_)
            go_roundw
            case rel => exact ⟨k + 1, by have := HLT.out; omega, by go_num, K2, HFIN.out⟩
            case measure => simp [intOf]; have := HLT.out; omega
          · obtain ⟨g, cap, hv, hcap⟩ := hroom2 (by omega)
            simp only [Value.slice.injEq, true_and] at hv
            obtain ⟨rfl, rfl⟩ := hv
            obtain ⟨rows, hlr, hown, hel⟩ := hO2
            have hsz2 : rows2.length = lk.length := hlr2
            rw [← hsz2] at h0 e0
            have hs2' := hs2
            obtain ⟨a5, c5, hv5, hm5, hr5⟩ := hs2'
            rw [← hsz2] at hv5 hs2
            simp only [Value.slice.injEq, true_and] at hv5
            obtain ⟨rfl, rfl⟩ := hv5
            obtain ⟨b5, o5, rfl, hb5, hc5⟩ := hr5 (Nat.pos_of_ne_zero h0)
            have hrs : ∀ i (h : i < rows2.length), rows2[i].size = 3 := fun i hi => (hc5 i hi).1
            have hnews := Sl.news (by omega) hs2
            have hone : ∀ u ∈ rows2.flatMap Array.toList, u.oneCell' = true := fun u hu => by
              obtain ⟨x, hx, hu⟩ := List.mem_flatMap.1 hu
              obtain ⟨i, hi, rfl⟩ := List.getElem_of_mem hx
              obtain ⟨A6, C6, hrow, _⟩ := hel2 i (by omega) hi
              rw [hrow] at hu
              simp at hu
              rcases hu with rfl | rfl | rfl <;> rfl
            have hnl := flat_len 3 rows2 hrs
            rw [hsz2] at hnl
            have HSZ := Lib.hid hsz2
            obtain ⟨i0, hi0, hz0, hz1, hz2⟩ := info_parts info_sym
            have HS := Lib.hid hnews
            have HONE := Lib.hid hone
            have HNL := Lib.hid hnl
            have HEL := Lib.hid hel
            have HEL2 := Lib.hid hel2
            have HRS := Lib.hid hrs
            clear hnews hone hnl hel hel2 hrs hroom2 hr5 hc5 hs2
            rw [hsz2] at e0
            clear hsz2
            go_wp2_with (at_builtin; go_loud (refine wpList_append_fits wr rfl _ _ 40 rfl w.heap.size 39 i0 3 Tryz.underlying40 hi0 hz1 g acc.length C4 _ rfl hown ⟨b5, o5, none⟩ lk.length _ (rows2.flatMap Array.toList) rfl HNL.out HS.out HONE.out (by omega) ?_); intro w5 O5 G5)
            have hvl : rows2.length = lk.length := HSZ.out
            have KG := Keep.ofGrown (v := .slice (some ⟨g, 0, none⟩) acc.length C4) G5
            have hO5 := OwnL.appendL (S := S) (v := .slice (some ⟨g, 0, none⟩) acc.length C4) rows hlr HEL.out symRow_stab rows2 hvl (fun i hi hi' => ⟨HRS.out i hi', HEL2.out i hi hi'⟩) O5 G5 (.inl rfl)
            have hacc : (l.take (k + 1)).flatten = acc ++ lk := HTK.out
            have HFIN : Hid (OwnL SymRow S w5 w.heap.size 39 3 (.slice (some ⟨g, 0, none⟩) (acc.length + lk.length) C4) (l.take (k + 1)).flatten ∧ (0 < lens l → ∃ g' cap', (Value.slice (some ⟨g, 0, none⟩) (acc.length + lk.length) C4) = .slice (some ⟨g', 0, none⟩) (l.take (k + 1)).flatten.length cap' ∧ lens l ≤ cap')) := Lib.hid (by
              rw [hacc]
              exact ⟨hO5, fun _ => ⟨g, C4, by rw [List.length_append], hcap⟩⟩)
            have K5 := K2.then KG (fun b hb => .inr (hlow b hb).1)
            clear O5 G5 KG hO5 hown hacc
            go_wp2
            go_roundw
            case rel => exact ⟨k + 1, by have := HLT.out; omega, by go_num, K5, HFIN.out⟩
            case measure => simp [intOf]; have := HLT.out; omega
        · obtain rfl : k = l.length := by omega
          rw [List.take_length] at hO2
          have hlow := hO2.base
          have hrd : Syms S wr u6 l.flatten := hO2.read symRow_stab (fun b hb => .inl hb) (fun b hb hb' => by have := (hlow b hb).1; have := hS b hb'; omega)
          have HRD := Lib.hid hrd
          clear hrd hroom2
          go_wp2
          go_ret
          exact ⟨⟨_, rfl, HRD.out, fun b hb => (hlow b hb).1⟩, K2⟩
end Go.Proofs.YtacihjabkiedcaaGreatDoor
/- Who is come to: one nonterminal is looked at. -/
namespace Go.Proofs.YtacihjabkiedcaaGreatDoor
open Go Go.RowKit Go.MapKept

def boolC (bs : List Bool) : Array Value := (bs.map Value.bool).toArray
theorem boolC_at (bs : List Bool) (i : Nat) (h : i < bs.length) : (boolC bs)[i]? = some (.bool bs[i]) := by simp [boolC, h]
theorem boolC_set (bs : List Bool) (i : Nat) (b : Bool) : (boolC bs).setIfInBounds i (.bool b) = boolC (bs.set i b) := by
  apply Array.ext'
  simp [boolC, List.map_set]
def addI (l : List Int) (x : Int) : List Int := if x ∈ l then l else l ++ [x]
/-- What one symbol turns. -/
def lookF (q : List Bool × List Int) (s : SymS) : List Bool × List Int := if s.k = 2 ∧ q.1[s.n.toNat]? = some false then (q.1.set s.n.toNat true, addI q.2 s.n) else q
theorem lookF_len (q : List Bool × List Int) (s : SymS) : (lookF q s).1.length = q.1.length := by
  unfold lookF
  split <;> simp
theorem lookFold_len (l : List SymS) : ∀ q : List Bool × List Int, (l.foldl lookF q).1.length = q.1.length := by
  induction l with
  | nil => intro q; rfl
  | cons s l ih => intro q; rw [List.foldl_cons, ih, lookF_len]
theorem foldl_take {α β : Type} (f : β → α → β) (b : β) (l : List α) (k : Nat) (h : k < l.length) : (l.take (k + 1)).foldl f b = f ((l.take k).foldl f b) l[k] := by
  rw [List.take_succ_eq_append_getElem h, List.foldl_append]
  rfl

set_option maxRecDepth 20000 in
set_option maxHeartbeats 4000000 in
theorem look_any (S : List Nat) (tb gb ob rb mb cap k : Nat) (A K : Option Addr) (n C m D : Nat) (ps : List ProdS) (out : List Bool) (todo : List Int) (w : World) (hk : k < ps.length) (hn : ps.length ≤ 1000000) (hcat : ∀ p ∈ ps, lens p.a ≤ 1000000)
    (hsym : ∀ p ∈ ps, ∀ a ∈ p.a, ∀ s ∈ a, s.k = 2 → 0 ≤ s.n ∧ s.n < out.length) (hol : out.length ≤ 1000000) (hS : ∀ b ∈ S, b < w.heap.size) (hrS : rb ∈ S) (hmS : mb ∈ S)
    (BT : Blk w tb #[.map (some mb)] 51) (BG : Blk w gb #[.slice A ps.length C, .slice K m D] 25) (BO : Blk w ob #[.slice (some ⟨rb, 0, none⟩) out.length cap] 29) (BR : Blk w rb (boolC out) 4) (HS : SetI w mb todo) (hne : rb ≠ tb ∧ rb ≠ gb ∧ rb ≠ ob)
    (HP : Prods S w (.slice A ps.length C) ps) :
    Calls Tryz.prog 34 #[.int .i64 k, .pointer (some ⟨tb, 0, none⟩), .pointer (some ⟨gb, 0, none⟩), .pointer (some ⟨ob, 0, none⟩)] w fun e w' => e = .returned (.tuple #[]) ∧ Blk w' rb (boolC (ps[k].a.flatten.foldl lookF (out, todo.erase (k : Int))).1) 4 ∧ SetI w' mb (ps[k].a.flatten.foldl lookF (out, todo.erase (k : Int))).2 ∧ Keep [rb, mb] w w' := by
  have hmr : mb ≠ rb := fun e => by
    subst e
    obtain ⟨es, clk, h1, _⟩ := HS
    unfold MapB at h1
    unfold Blk at BR
    rw [h1] at BR
    cases BR
  have hmt : mb ≠ tb := fun e => by
    subst e
    obtain ⟨es, clk, h1, _⟩ := HS
    unfold MapB at h1
    unfold Blk at BT
    rw [h1] at BT
    cases BT
  have hmg : mb ≠ gb := fun e => by
    subst e
    obtain ⟨es, clk, h1, _⟩ := HS
    unfold MapB at h1
    unfold Blk at BG
    rw [h1] at BG
    cases BG
  have hmo : mb ≠ ob := fun e => by
    subst e
    obtain ⟨es, clk, h1, _⟩ := HS
    unfold MapB at h1
    unfold Blk at BO
    rw [h1] at BO
    cases BO
  obtain ⟨w1, hdel, HS1, K1⟩ := set_del HS (k : Int) 0
  have BT1 := BT.keep K1 (by simpa using Ne.symm hmt)
  have BG1 := BG.keep K1 (by simpa using Ne.symm hmg)
  have BO1 := BO.keep K1 (by simpa using Ne.symm hmo)
  have BR1 := BR.keep K1 (by simpa using Ne.symm hmr)
  have HP1 : Prods S w1 (.slice A ps.length C) ps := SlOf.move HP prodRow_stab (by omega) K1 (fun x hx => .inl (by simp at hx; subst hx; exact hmS)) (fun x hx => .inl hx)
  have hP2 := HP1
  obtain ⟨_, _, hv, hlen, hr⟩ := SlOf.at hP2
  simp only [Value.slice.injEq, true_and] at hv
  obtain ⟨rfl, rfl⟩ := hv
  obtain ⟨b, o, rfl, hb, hc⟩ := hr (by omega)
  obtain ⟨prow, hz, hcell, hR⟩ := hc k hk
  have hsk : ∀ s ∈ ps[k].a.flatten, s.k = 2 → 0 ≤ s.n ∧ s.n < out.length := fun s hs => by
    obtain ⟨a, ha, hs⟩ := List.mem_flatten.1 hs
    exact hsym _ (List.getElem_mem _) a ha s hs
  have hlk := hcat _ (List.getElem_mem hk)
  obtain ⟨A2, C2, N2, F2, rfl, hR2, hR3⟩ := hR
  have e0 := hcell 0 (by omega)
  simp at e0
  generalize ps[k].a = al at e0 hR2 hsk hlk ⊢
  have t0 := BT.cell 0
  have g0 := BG1.cell 0
  have hkl : (k : Int) < (ps.length : Int) := by omega
  have hcall := concat_any S _ al w1 hR2 hlk (fun b hb => Nat.lt_of_lt_of_le (hS b hb) K1.size)
  have HC := Lib.hid hcall
  clear hcell hc hr hz hR2 hR3 hcall hsym hcat
  go_enter Tryz.func34, Tryz.ntmps34
  go_wp2_with fail
  refine HC.out.mono ?_
  rintro e w2 ⟨⟨v2, rfl, hsy, hlow⟩, K2⟩
  clear HC hdel HP hP2 HP1
  have BT2 := BT1.keep K2 (by simp)
  have BO2 := BO1.keep K2 (by simp)
  have BR2 := BR1.keep K2 (by simp)
  have HS2 := HS1.keep K2 (by simp)
  have K12 := (K1.mono (S' := [rb, mb]) (by simp)).trans (K2.mono (by simp))
  have hfl := flatten_len al
  have hT0 : Keep [rb, mb] w2 w2 ∧ Blk w2 rb (boolC ((al.flatten.take 0).foldl lookF (out, todo.erase (k : Int))).1) 4 ∧ SetI w2 mb ((al.flatten.take 0).foldl lookF (out, todo.erase (k : Int))).2 := ⟨Keep.refl _ _, BR2, HS2⟩
  have HT0 := Lib.hid hT0
  have hfl2 : al.flatten.length ≤ 1000000 := by omega
  generalize hfe : al.flatten = fl at hsy hsk hfl2 HT0
  have HFE := Lib.hid hfe; clear hfe
  obtain ⟨A4, C4, hv4, _, _⟩ := SlOf.at hsy
  subst hv4
  have HK := Lib.hid (⟨hne, hmr, hmt, hmo⟩ : (rb ≠ tb ∧ rb ≠ gb ∧ rb ≠ ob) ∧ mb ≠ rb ∧ mb ≠ tb ∧ mb ≠ ob)
  clear hT0 BT BG BO BR HS BT1 BG1 BO1 BR1 HS1 BR2 HS2 t0 g0 e0 hfl hlk hne hmr hmt hmo hmg
  have HSK := Lib.hid hsk; clear hsk
  go_wp2
  go_loopw [17] (fun i wr => ∃ j : Nat, j ≤ fl.length ∧ i = .int .i64 j ∧ Keep [rb, mb] w2 wr ∧ Blk wr rb (boolC ((fl.take j).foldl lookF (out, todo.erase (k : Int))).1) 4 ∧ SetI wr mb ((fl.take j).foldl lookF (out, todo.erase (k : Int))).2) (fun i _ => fl.length - (intOf i).toNat)
  case atStart => exact ⟨0, by omega, rfl, HT0.out⟩
  case round =>
    clear HT0
    obtain ⟨j, hj, rfl, Kr, BRr, HSr⟩ := hrel
    by_cases hlt : j < fl.length
    · have hlt' : (j : Int) < (fl.length : Int) := by omega
      have HLT := Lib.hid hlt
      have hsy3 : Syms S wr (.slice A4 fl.length C4) fl := SlOf.move hsy symRow_stab (by omega) Kr (fun x hx => .inl (by simp at hx; rcases hx with rfl | rfl <;> assumption)) (fun x hx => .inl hx)
      obtain ⟨_, _, hv, _, hr⟩ := SlOf.at hsy3
      simp only [Value.slice.injEq, true_and] at hv
      obtain ⟨rfl, rfl⟩ := hv
      obtain ⟨b5, o5, rfl, hb5, hc5⟩ := hr (by omega)
      obtain ⟨srow, hz, hcell, hR⟩ := hc5 j hlt
      obtain ⟨A6, C6, rfl, _⟩ := hR
      have e0 := hcell 0 (by omega)
      have e1 := hcell 1 (by omega)
      have e2 := hcell 2 (by omega)
      simp at e0 e1 e2
      have hsn := HSK.out fl[j] (List.getElem_mem _)
      have HTK : Hid ((fl.take (j + 1)).foldl lookF (out, todo.erase (k : Int)) = lookF ((fl.take j).foldl lookF (out, todo.erase (k : Int))) fl[j]) := Lib.hid (foldl_take _ _ _ _ hlt)
      have hql := lookFold_len (fl.take j) (out, todo.erase (k : Int))
      generalize (fl.take j).foldl lookF (out, todo.erase (k : Int)) = q at BRr HSr HTK hql
      obtain ⟨q1, q2⟩ := q
      generalize fl[j] = s at e0 e1 e2 hsn HTK
      simp only at BRr HSr hql
      have HQL := Lib.hid hql; clear hql
      obtain ⟨⟨n1, n2, n3⟩, n4, n5, n6⟩ := HK.out
      have BTr := BT2.keep Kr (by simp; exact ⟨Ne.symm n1, Ne.symm n5⟩)
      have BOr := BO2.keep Kr (by simp; exact ⟨Ne.symm n3, Ne.symm n6⟩)
      clear hcell hc5 hr hz hsy3
      obtain ⟨sk, sr, sn0⟩ := s
      simp only at e0 e1 e2 hsn
      by_cases h2 : sk = 2
      · subst h2
        obtain ⟨hs0, hs1⟩ := hsn rfl
        obtain ⟨sn, rfl⟩ : ∃ sn : Nat, sn0 = sn := ⟨sn0.toNat, by omega⟩
        have hlq : sn < q1.length := by have := HQL.out; omega
        have hsno : sn < out.length := by omega
        have hsno' : (sn : Int) < (out.length : Int) := by omega
        clear hsn hs0 hs1
        have KA := (Keep.refl [] wr).alloc (.cells #[.int .i64 2, .slice A6 sr.length C6, .int .i64 sn] 39)
        have BRa := BRr.keep KA (by simp)
        have HSa := HSr.keep KA (by simp)
        have BTa := BTr.keep KA (by simp)
        have BOa := BOr.keep KA (by simp)
        have o0 := BOa.cell 0
        have r0 := BRa.cell sn
        rw [boolC_at _ _ hlq] at r0
        cases hq : q1[sn] with
        | true =>
          rw [hq] at r0
          have HFIN : Hid (Keep [rb, mb] w2 (wr.alloc (.cells #[.int .i64 2, .slice A6 sr.length C6, .int .i64 sn] 39)) ∧ Blk (wr.alloc (.cells #[.int .i64 2, .slice A6 sr.length C6, .int .i64 sn] 39)) rb (boolC ((fl.take (j + 1)).foldl lookF (out, todo.erase (k : Int))).1) 4 ∧ SetI (wr.alloc (.cells #[.int .i64 2, .slice A6 sr.length C6, .int .i64 sn] 39)) mb ((fl.take (j + 1)).foldl lookF (out, todo.erase (k : Int))).2) := Lib.hid (by
            rw [HTK.out, lookF, if_neg (by simp [hlq, hq])]
            exact ⟨Kr.trans (KA.mono (by simp)), BRa, HSa⟩)
          clear hq
          go_wp2
          go_roundw
          case rel => exact ⟨j + 1, by have := HLT.out; omega, by go_num, HFIN.out⟩
          case measure => simp [intOf]; have := HLT.out; omega
        | false =>
          rw [hq] at r0
          have HQ := Lib.hid hq; clear hq
          have t0 := BTa.cell 0
          have KS := ((Keep.refl [rb, mb] wr).setCell (p := ⟨rb, sn, none⟩) (by simp) (.bool true)).alloc (.cells #[.int .i64 2, .slice A6 sr.length C6, .int .i64 sn] 39)
          have BRs : Blk ((wr.setCell ⟨rb, sn, none⟩ (.bool true)).alloc (.cells #[.int .i64 2, .slice A6 sr.length C6, .int .i64 sn] 39)) rb (boolC (q1.set sn true)) 4 := by rw [← boolC_set]; exact (BRr.set sn (.bool true)).alloc _
          have HSs : SetI ((wr.setCell ⟨rb, sn, none⟩ (.bool true)).alloc (.cells #[.int .i64 2, .slice A6 sr.length C6, .int .i64 sn] 39)) mb q2 := HSr.keep (((Keep.refl [rb] _).setCell (by simp) _).alloc _) (by simpa using n4)
          obtain ⟨w9, hadd, HS9, K9⟩ := set_add HSs.drew (sn : Int)
          have f0 := BRa.frozen sn
          have HFIN : Hid (Keep [rb, mb] w2 w9 ∧ Blk w9 rb (boolC ((fl.take (j + 1)).foldl lookF (out, todo.erase (k : Int))).1) 4 ∧ SetI w9 mb ((fl.take (j + 1)).foldl lookF (out, todo.erase (k : Int))).2) := Lib.hid (by
            have hq := HQ.out
            rw [HTK.out, lookF, if_pos (by simp [hlq, hq])]
            exact ⟨(Kr.trans KS.drew).trans (K9.mono (by simp)), BRs.drew.keep K9 (by simpa using Ne.symm n4), HS9⟩)
          have t1 := BTr.cell 0
          have s3 := (BTr.setOther ⟨rb, sn, none⟩ (by simp; exact fun e => n1 e.symm) (.bool true)).cell 0
          have s5 := ((BTr.setOther ⟨rb, sn, none⟩ (by simp; exact fun e => n1 e.symm) (.bool true)).alloc (.cells #[.int .i64 2, .slice A6 sr.length C6, .int .i64 sn] 39)).cell 0
          have hrlt := BRr.lt
          have BSs := (Blk.new wr #[.int .i64 2, .slice A6 sr.length C6, .int .i64 sn] 39).setOther ⟨rb, sn, none⟩ (by simp; omega) (.bool true)
          have s2 := BSs.cell 2
          have s4 := (BTa.setOther ⟨rb, sn, none⟩ (by simp; exact fun e => n1 e.symm) (.bool true)).cell 0
          clear BSs HSs BRs KS KA
          go_wp2
          go_region
          all_goals
            go_wp2
            go_roundw
            case rel => exact ⟨j + 1, by have := HLT.out; omega, by go_num, HFIN.out⟩
            case measure => simp [intOf]; have := HLT.out; omega
      · have h2b : (sk == 2) = false := by simpa using h2
        have KA := (Keep.refl [] wr).alloc (.cells #[.int .i64 sk, .slice A6 sr.length C6, .int .i64 sn0] 39)
        have BRa := BRr.keep KA (by simp)
        have HSa := HSr.keep KA (by simp)
        have HFIN : Hid (Keep [rb, mb] w2 (wr.alloc (.cells #[.int .i64 sk, .slice A6 sr.length C6, .int .i64 sn0] 39)) ∧ Blk (wr.alloc (.cells #[.int .i64 sk, .slice A6 sr.length C6, .int .i64 sn0] 39)) rb (boolC ((fl.take (j + 1)).foldl lookF (out, todo.erase (k : Int))).1) 4 ∧ SetI (wr.alloc (.cells #[.int .i64 sk, .slice A6 sr.length C6, .int .i64 sn0] 39)) mb ((fl.take (j + 1)).foldl lookF (out, todo.erase (k : Int))).2) := Lib.hid (by
          rw [HTK.out, lookF, if_neg (by simp [h2])]
          exact ⟨Kr.trans (KA.mono (by simp)), BRa, HSa⟩)
        clear h2 hsn
        go_wp2
        go_roundw
        case rel => exact ⟨j + 1, by have := HLT.out; omega, by go_num, HFIN.out⟩
        case measure => simp [intOf]; have := HLT.out; omega
    · obtain rfl : j = fl.length := by omega
      rw [List.take_length] at BRr HSr
      go_wp2
      go_end0
      exact ⟨rfl, by rw [HFE.out]; exact BRr, by rw [HFE.out]; exact HSr, K12.trans Kr⟩
end Go.Proofs.YtacihjabkiedcaaGreatDoor
