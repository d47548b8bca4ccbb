/- Bytes that are an argument: how they are read as data, and as a string. -/
import Derived.Test.YtmfjddhckblbhaaGreatDoorM10
import Derived.Test.YtmfjddhckblbhaaGreatDoorM5
set_option linter.unusedVariables false
set_option linter.unusedSimpArgs false
namespace Go.Proofs.YtmfjddhckblbhaaGreatDoor
open Go Go.RowKit Go.ChangeShapes Go.WideShapes Go.Deep Go.Joins

/-- A byte's cell. -/
def BytR (_ : List Nat) (_ : World) (x : Int) (row : Array Value) : Prop := row = #[.int .u8 x]
def bytS (ns : List Int) : ByteArray := ⟨(ns.map fun n => UInt8.ofNat n.toNat).toArray⟩
theorem bytS_size (ns : List Int) : (bytS ns).size = ns.length := by
  show ((ns.map fun n => UInt8.ofNat n.toNat).toArray).size = ns.length
  simp
theorem bytR_stab : Stab BytR := by
  rintro S T S' w w' x row h K hT hS
  exact h
theorem foldl_pushI (l : List Int) : ∀ (r : ByteArray), l.foldl (fun r n => r.push (UInt8.ofNat n.toNat)) r = ⟨r.data ++ (l.map fun n => UInt8.ofNat n.toNat).toArray⟩ := by
  induction l with
  | nil => intro r; simp
  | cons x l ih =>
    intro r
    simp only [List.foldl_cons, ih, List.map_cons]
    simp [ByteArray.push]
theorem bytes_conv {S : List Nat} {w : World} {A : Option Addr} {n C : Nat} {ns : List Int} (H : SlOf BytR S w 1 (.slice A n C) ns) :
    (Go.convert 37 9 (.slice A n C)).run Tryz.prog w = .ok (.string (bytS ns)) w := by
  obtain ⟨A2, C2, e, _, hts⟩ := SlOf.at H
  simp only [Value.slice.injEq] at e
  obtain ⟨rfl, rfl, rfl⟩ := e
  rw [run_convert_bytes_string w _ _ 5 _ _ _ Tryz.underlying37 Tryz.underlying5 Tryz.underlying9]
  cases A with
  | none =>
    have hl : ns = [] := by
      rcases Nat.eq_zero_or_pos ns.length with h | h
      · exact List.eq_nil_of_length_eq_zero h
      · obtain ⟨b, o, hb, _⟩ := hts h
        cases hb
    subst hl
    rfl
  | some a =>
    rw [run_bytesToString w _ _ _ ns]
    · rw [foldl_pushI]; simp [bytS]
    · have := run_loadCells_list (P := Tryz.prog) (w := w) a (ns.map (Value.int .u8)) (fun j v hv => by
        have hj : j < ns.length := by
          have := (List.getElem?_eq_some_iff.1 hv).1
          simpa using this
        obtain ⟨b, o, hb, _, hc⟩ := hts (by omega)
        obtain ⟨row, _, hcell, hrow⟩ := hc j hj
        have h0 := hcell 0 (by omega)
        rw [show row = _ from hrow] at h0
        have e1 : v = .int .u8 ns[j] := by
          rw [List.getElem?_map, List.getElem?_eq_getElem hj] at hv
          exact (Option.some.inj hv).symm
        obtain rfl := Option.some.inj hb
        rw [e1]
        simp only [Nat.mul_one, Nat.add_zero, List.getElem?_toArray, List.getElem?_cons_zero] at h0
        by_cases hj0 : j = 0
        · subst hj0; simpa [Addr.add] using h0
        · simpa [Addr.add, hj0] using h0)
      rw [List.length_map] at this
      exact this
section
variable {H : Type} {enc : TypeId × Value → H} {w : World} {base : Nat} {spare : Nat → Bool} {held : Bool}
theorem cells_byte : Tryz.prog.cellsOf 5 = 1 := by kernel_rfl
theorem bytes_read {fuel : Nat} {v : Value} {x : DataW H × List MemPlace} (h : DataW.trod enc Tryz.prog w base spare held fuel 37 [v] = some x) : ∃ A l C, v = .slice A (l : List Int).length C ∧ SlOf BytR [] w 1 v l := by
  refine slice_read BytR 1 (by omega) Tryz.underlying37 cells_byte h (fun n cs y hl hy => ?_)
  match cs, hl with
  | [c], _ =>
    obtain ⟨n, h1, _⟩ := DataW.trod_int Tryz.underlying5 hy
    simp only [List.cons.injEq, and_true] at h1
    exact ⟨n, by rw [h1]; rfl⟩
end
end Go.Proofs.YtmfjddhckblbhaaGreatDoor
