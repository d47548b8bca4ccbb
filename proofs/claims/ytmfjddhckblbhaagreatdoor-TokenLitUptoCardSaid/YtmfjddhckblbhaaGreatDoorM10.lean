/- Arguments that are read as data: ranges. -/
import Derived.Test.YtmfjddhckblbhaaGreatDoorM8
import Derived.ProofKit
import Derived.Deep.Slices
import Derived.Deep.Fields
import Derived.Lib.SmallJoins
set_option linter.unusedVariables false
set_option linter.unusedSimpArgs false
namespace Go.Proofs.YtmfjddhckblbhaaGreatDoor
open Go Go.RowKit Go.ChangeShapes Go.WideShapes Go.Deep Go.Joins

section
variable {H : Type} {enc : TypeId × Value → H} {w : World} {base : Nat} {spare : Nat → Bool} {held : Bool}
theorem list_of {α : Type} (R : Nat → α → Prop) : ∀ (n : Nat), (∀ i, i < n → ∃ x, R i x) → ∃ xs : List α, xs.length = n ∧ ∀ i (h : i < xs.length), R i xs[i]
  | 0, _ => ⟨[], rfl, fun i h => absurd h (by simp)⟩
  | n + 1, h => by
    obtain ⟨xs, h1, h2⟩ := list_of R n (fun i hi => h i (by omega))
    obtain ⟨x, hx⟩ := h n (by omega)
    refine ⟨xs ++ [x], by simp [h1], fun i hi => ?_⟩
    by_cases e : i < xs.length
    · rw [List.getElem_append_left e]; exact h2 i e
    · have : i = xs.length := by simp at hi; omega
      subst this
      rw [List.getElem_append_right (by omega)]
      simp only [Nat.sub_self, List.getElem_cons_zero]
      rw [h1]; exact hx
theorem slice_read {α : Type} (R : List Nat → World → α → Array Value → Prop) (k : Nat) (hk : 0 < k) {T e : TypeId} (hT : Tryz.prog.underlying T = some (.slice e)) (hC : Tryz.prog.cellsOf e = k) {fuel : Nat} {v : Value} {x : DataW H × List MemPlace}
    (h : DataW.trod enc Tryz.prog w base spare held fuel T [v] = some x) (hel : ∀ n cs y, cs.length = k → DataW.trod enc Tryz.prog w base spare held n e cs = some y → ∃ a, R [] w a cs.toArray) :
    ∃ A xs C, v = .slice A (xs : List α).length C ∧ SlOf R [] w k v xs := by
  rcases open_slice hT h with ⟨h0, _⟩ | ⟨a, len, cap, m, n, D, Pl, hcs, hb, hl, hm, hmm, hx, hi⟩
  · simp only [List.cons.injEq, and_true] at h0
    subst h0
    exact ⟨none, [], 0, rfl, SlOf.nil _ _ _⟩
  · simp only [List.cons.injEq, and_true] at hcs
    subst hcs
    have hml : len ≤ m := by rw [hmm]; split <;> omega
    obtain ⟨xs, hxl, hxs⟩ := list_of (fun i (p : α × Array Value) => p.2.size = k ∧ R [] w p.1 p.2 ∧ ∀ j, j < k → w.cell? (a.add (i * k + j)) = p.2[j]?) len (fun i hi' => by
      obtain ⟨cs', hc, ht⟩ := hi i (by omega)
      rw [hC] at hc
      obtain ⟨_, hcl, hat⟩ := World.cells?_some hc
      obtain ⟨y, hy⟩ := hel n cs' _ hcl ht
      refine ⟨(y, cs'.toArray), by simpa using hcl, hy, fun j hj => ?_⟩
      rw [← Go.Deep.add_add, hat j hj]
      simp)
    refine ⟨some a, xs.map (·.1), cap, by simp [hxl], xs.map (·.2), ?_, by simp, fun i h1 h2 => ?_⟩
    · refine ⟨some a, cap, by simp [hxl], ⟨by simp only [List.length_map, hxl]; unfold maxLen at hm; omega, by simp only [List.length_map, hxl]; omega⟩, fun hp => ?_⟩
      have hp' : 0 < xs.length := by simpa using hp
      have h00 := (hxs 0 hp').2.2 0 hk
      have hsz := (hxs 0 hp').1
      have hsp : a.spot = none := by
        have : (a.add (0 * k + 0)) = a := by simp [Addr.add]
        rw [this, Array.getElem?_eq_getElem (by omega)] at h00
        exact World.cell?_spot h00
      obtain ⟨b, o, sp⟩ := a
      simp only at hsp
      subst hsp
      refine ⟨b, o, rfl, by simp, fun i hi' => ?_⟩
      have hi2 : i < xs.length := by simpa using hi'
      rw [List.getElem_map]
      refine ⟨(hxs i hi2).1, fun j hj => ?_⟩
      have hadd : (⟨b, o, none⟩ : Addr).add (i * k + j) = ⟨b, o + i * k + j, none⟩ := by
        unfold Addr.add
        split
        · rename_i h9
          rw [Nat.add_assoc, h9, Nat.add_zero]
        · simp only [Nat.add_assoc]
      rw [← (hxs i hi2).2.2 j hj, hadd]
    · rw [List.getElem_map, List.getElem_map]
      exact (hxs i (by simpa using h1)).2.1
theorem field_read {e : TypeId} {fs : Array Field} {fuel : Nat} {cs : List Value} {x : DataW H × List MemPlace} (he : Tryz.prog.underlying e = some (.struct fs)) (hone : oneCellFields Tryz.prog fs = true) (hC : Tryz.prog.cellsOf e = fs.size)
    (h : DataW.trod enc Tryz.prog w base spare held fuel e cs = some x) (j : Nat) (f : Field) (hj : fs[j]? = some f) : ∃ v y n, cs[j]? = some v ∧ DataW.trod enc Tryz.prog w base spare held n f.type [v] = some y := by
  obtain ⟨ys, n', hn', hy, hlen, hyl, hf⟩ := DataW.trod_struct he h
  obtain ⟨ho, hk⟩ := hone_of hone j f hj
  have hjl : j < fs.size := (Array.getElem?_eq_some_iff.1 hj).1
  have hv : cs[j]? = some (cs[j]'(by omega)) := List.getElem?_eq_getElem (by omega)
  have h1 := hf j f hj
  rw [ho, hk] at h1
  have hone' : (cs.drop j).take 1 = [cs[j]'(by omega)] := by
    rw [List.drop_eq_getElem_cons (by omega)]
    rfl
  rw [hone'] at h1
  exact ⟨_, _, n', hv, h1.trans (List.getElem?_eq_getElem (by omega))⟩
theorem int_read {fuel : Nat} {v : Value} {x : DataW H × List MemPlace} (h : DataW.trod enc Tryz.prog w base spare held fuel 3 [v] = some x) : ∃ n, v = .int .i64 n := by
  obtain ⟨n, h1, _⟩ := DataW.trod_int Tryz.underlying3 h
  simp only [List.cons.injEq, and_true] at h1
  exact ⟨n, h1⟩
theorem list2 {cs : List Value} {a b : Value} (hl : cs.length = 2) (h0 : cs[0]? = some a) (h1 : cs[1]? = some b) : cs = [a, b] := by
  match cs, hl with
  | [x, y], _ => simp at h0 h1; simp [h0, h1]
theorem list3 {cs : List Value} {a b c : Value} (hl : cs.length = 3) (h0 : cs[0]? = some a) (h1 : cs[1]? = some b) (h2 : cs[2]? = some c) : cs = [a, b, c] := by
  match cs, hl with
  | [x, y, z], _ => simp at h0 h1 h2; simp [h0, h1, h2]
theorem cells_rng : Tryz.prog.cellsOf 44 = 2 := by kernel_rfl
theorem rngs_read {fuel : Nat} {v : Value} {x : DataW H × List MemPlace} (h : DataW.trod enc Tryz.prog w base spare held fuel 22 [v] = some x) : ∃ A l C, v = .slice A (l : List Rng).length C ∧ SlOf RngRow [] w 2 v l := by
  refine slice_read RngRow 2 (by omega) Tryz.underlying22 cells_rng h (fun n cs y hl hy => ?_)
  obtain ⟨v0, y0, n0, h0, t0⟩ := field_read Tryz.underlying44 (by kernel_rfl) cells_rng hy 0 _ rfl
  obtain ⟨v1, y1, n1, h1, t1⟩ := field_read Tryz.underlying44 (by kernel_rfl) cells_rng hy 1 _ rfl
  obtain ⟨a, rfl⟩ := int_read t0
  obtain ⟨b, rfl⟩ := int_read t1
  exact ⟨⟨a, b⟩, by rw [list2 hl h0 h1]; rfl⟩
end
end Go.Proofs.YtmfjddhckblbhaaGreatDoor
