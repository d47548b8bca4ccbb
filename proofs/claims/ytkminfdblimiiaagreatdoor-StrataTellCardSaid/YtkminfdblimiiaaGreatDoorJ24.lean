/- How an argument of the type of nonterminals is opened. -/
import Derived.Test.YtkminfdblimiiaaGreatDoorJ20
set_option linter.unusedVariables false
set_option linter.unusedSimpArgs false
namespace Go.Proofs.YtkminfdblimiiaaGreatDoor.RowG
open Go.ChangeShapes Go.WideShapes Go.ChangeAt Go.RowKit Go.Joins Go.Deep

theorem prodCells : Tryz.prog.cellsOf 29 = 3 := by kernel_rfl
set_option maxRecDepth 100000 in
theorem open_prod {H : Type} {enc : TypeId × Value → H} {W : World} {r : Reach} {b0 : Nat} {t : TypeId} {v : Value} {d : DataW H} {p : List MemPlace} {base : Nat} {spare : Nat → Bool} {held : Bool} (ht : t = 29)
    (hv : Value.okWide Tryz.prog W r b0 t v) (h : DataW.Trod enc Tryz.prog W base spare held t v d p) :
    ∃ (q : ProdS) (A : Option Addr) (C : Nat) (N : Option Addr) (F : Nat), v = .agg #[.slice A q.a.length C, .int .i64 q.marks, .slice N q.nt.length F] ∧ Alts [] W (.slice A q.a.length C) q.a ∧ SlOf RngRow [] W 2 (.slice N q.nt.length F) q.nt ∧ q.marks ≤ 9223372036854775807 := by
  have hu : Tryz.prog.underlying t = _ := (congrArg Tryz.prog.underlying ht).trans Tryz.underlying29
  have hc : Tryz.prog.cellsOf t = 3 := (congrArg Tryz.prog.cellsOf ht).trans prodCells
  clear ht
  obtain ⟨v0, v1, v2, y0, y1, y2, n, rfl, _, _, h0, h1, h2⟩ := open_agg3 hu (by kernel_rfl) hc hv h
  obtain ⟨A, l, C, rfl, hp⟩ := alts_read h0
  obtain ⟨a, ha, _, hw⟩ := DataW.trod_int Tryz.underlying3 h1
  obtain ⟨B, s, D, rfl, hq⟩ := rngs_read h2
  simp only [List.cons.injEq, and_true] at ha
  subst ha
  refine ⟨⟨l, a, s⟩, A, C, B, D, rfl, hp, hq, ?_⟩
  have hw' := hw
  simp [Lit.wf, IntKind.max, IntKind.min, IntKind.bits, IntKind.signed] at hw'
  show a ≤ 9223372036854775807
  omega
end Go.Proofs.YtkminfdblimiiaaGreatDoor.RowG
