/- Of whom there is a text: Makes and Vain. -/
import Derived.Test.YtacihjabkiedcaaGreatDoorH16
import Derived.Laws.EntriesVeiled
import Derived.Test.YtacihjabkiedcaaGreatDoorH14
set_option linter.unusedVariables false
set_option linter.unusedSimpArgs false
namespace Go.Proofs.YtacihjabkiedcaaGreatDoor
open Go Go.RowKit Go.MapKept

def SomesOK (sm : List Rng → Bool) (ps : List ProdS) : Prop := ∀ p ∈ ps, ∀ a ∈ p.a, ∀ s ∈ a, SomeOK sm s
/-- The head of Makes' rounds. -/
def MkAt2 (rb : Nat) (w4 : World) (out : List Bool) (wr : World) : Prop := Keep [rb] w4 wr ∧ Blk wr rb (boolC out) 4
set_option maxRecDepth 20000 in
set_option maxHeartbeats 4000000 in
theorem makesR_any (sm : List Rng → Bool) (S : List Nat) (A K : Option Addr) (C m D : Nat) (ps : List ProdS) (w : World) (HP : Prods S w (.slice A ps.length C) ps) (hS : ∀ b ∈ S, b < w.heap.size) (hsm : SomesOK sm ps) :
    Calls Tryz.prog 18 #[.agg #[.slice A ps.length C, .slice K m D]] w fun e w' => (∃ v, e = .returned v ∧ BoolV w' w.heap.size v (makesR sm ps)) ∧ Keep [] w w' := by
  have K0 := (Keep.refl [] w).alloc (.cells #[.slice A ps.length C, .slice K m D] 25)
  have HP0 : Prods S _ (.slice A ps.length C) ps := SlOf.move HP prodRow_stab (by omega) K0 (by simp) (fun x hx => .inl hx)
  have B0 := Blk.new w #[.slice A ps.length C, .slice K m D] 25
  have hcall := may_any S (.slice A ps.length C) (.slice K m D) ps _ HP0
  have HC := Lib.hid hcall; clear hcall
  cases hg : gmay ps with
  | false =>
    have hr : makesR sm ps = [] := by simp [makesR, hg]
    rw [hr]
    go_enter Tryz.func18, Tryz.ntmps18
    go_wp2_with fail
    refine HC.out.mono ?_
    rintro e w1 ⟨rfl, K1⟩
    rw [hg]
    go_wp2
    go_ret
    exact ⟨⟨_, rfl, .inl ⟨rfl, rfl⟩⟩, K0.trans K1⟩
  | true =>
    obtain ⟨hl0, hl1⟩ := gmay_len hg
    have hr : makesR sm ps = makesF sm ps := by simp [makesR, hg]
    rw [hr]
    clear hr
    have HG := Lib.hid hg
    have HSM := Lib.hid hsm
    clear hsm
    have hmf : ∀ (fn : Fn) (first cap : Array Value) (w : World), (Instr.makeFunc fn first cap).run Tryz.prog w = .ok (.func fn first cap) w := fun _ _ _ _ => rfl
    go_enter Tryz.func18, Tryz.ntmps18
    go_wp2_with fail
    refine HC.out.mono ?_
    rintro e w1 ⟨rfl, K1⟩
    rw [hg]
    have B1 := B0.keep K1 (by simp)
    have b0 := B1.cell 0
    have hmk := make_bools w1 ps.length (by omega)
    have hszw : w.heap.size < w1.heap.size := B1.lt
    have KA := (((Keep.refl [] w1).alloc (.cells (boolC (List.replicate ps.length false)) 4)).alloc (.cells #[.slice (some ⟨w1.heap.size, 0, none⟩) ps.length ps.length] 29)).alloc (.cells #[.func (.func 37) #[] #[.pointer (some ⟨w1.heap.size + 1, 0, none⟩)]] 55)
    have BR0 := ((Blk.new w1 (boolC (List.replicate ps.length false)) 4).alloc (.cells #[.slice (some ⟨w1.heap.size, 0, none⟩) ps.length ps.length] 29)).alloc (.cells #[.func (.func 37) #[] #[.pointer (some ⟨w1.heap.size + 1, 0, none⟩)]] 55)
    have BO0 := (Blk.new' (w1.alloc (.cells (boolC (List.replicate ps.length false)) 4)) #[.slice (some ⟨w1.heap.size, 0, none⟩) ps.length ps.length] 29 (b := w1.heap.size + 1) (by simp)).alloc (.cells #[.func (.func 37) #[] #[.pointer (some ⟨w1.heap.size + 1, 0, none⟩)]] 55)
    have BV0 := Blk.new' ((w1.alloc (.cells (boolC (List.replicate ps.length false)) 4)).alloc (.cells #[.slice (some ⟨w1.heap.size, 0, none⟩) ps.length ps.length] 29)) #[.func (.func 37) #[] #[.pointer (some ⟨w1.heap.size + 1, 0, none⟩)]] 55 (b := w1.heap.size + 1 + 1) (by simp)
    have BG0 := B1.keep KA (by simp)
    have HP4 : Prods (w1.heap.size :: S) _ (.slice A ps.length C) ps := SlOf.move (S := S) (SlOf.move (S' := S) HP0 prodRow_stab (by omega) K1 (by simp) (fun x hx => .inl hx)) prodRow_stab (by omega) KA (by simp) (fun x hx => by
      rcases List.mem_cons.1 hx with rfl | hx
      · exact .inr (Nat.le_refl _)
      · exact .inl hx)
    obtain ⟨W4, hW4⟩ : ∃ W, W = ((w1.alloc (.cells (boolC (List.replicate ps.length false)) 4)).alloc (.cells #[.slice (some ⟨w1.heap.size, 0, none⟩) ps.length ps.length] 29)).alloc (.cells #[.func (.func 37) #[] #[.pointer (some ⟨w1.heap.size + 1, 0, none⟩)]] 55) := ⟨_, rfl⟩
    have hT0 : ∃ f out, makesL sm ps f out = makesF sm ps ∧ falses out < f ∧ out.length = ps.length ∧ MkAt2 w1.heap.size W4 out W4 := ⟨_, _, rfl, by simp [falses, List.countP_replicate], by simp, Keep.refl _ _, by rw [hW4]; exact BR0⟩
    have HT0 := Lib.hid hT0
    rw [← hW4] at BO0 BV0 BG0 HP4 KA
    have HBO := Lib.hid BO0
    have HBV := Lib.hid BV0
    have HBG := Lib.hid BG0
    have HPP := Lib.hid HP4
    have HKK := Lib.hid (K0.trans (K1.trans KA))
    have HW4 := Lib.hid hW4
    clear hT0 BO0 BV0 BG0 HP4 KA BR0 HP0 HP K0 hg B0 hW4
    go_wp2
    rw [← HW4.out]
    clear hmk b0
    go_loopw [6] (fun mv wr => ∃ f out b, mv = .bool b ∧ (b = true → makesL sm ps f out = makesF sm ps ∧ falses out < f) ∧ (b = false → out = makesF sm ps) ∧ out.length = ps.length ∧ MkAt2 w1.heap.size W4 out wr) (fun mv wr => 2 * falseN wr w1.heap.size + (match mv with | .bool true => 1 | _ => 0))
    case atStart =>
      obtain ⟨f, out, h1, h2, h3, h4⟩ := HT0.out
      exact ⟨f, out, true, rfl, fun _ => ⟨h1, h2⟩, fun h => absurd h (by simp), h3, h4⟩
    case round =>
      clear HT0 HW4
      obtain ⟨f, out, b, rfl, hb1, hb2, hol, Kr, BRr⟩ := hrel
      have BOr := HBO.out.keep Kr (by simp)
      have BGr := HBG.out.keep Kr (by simp; omega)
      have g0 := BGr.cell 0
      have o0 := BOr.cell 0
      cases b with
      | false =>
        have hres := hb2 rfl
        have HFIN : Hid (BoolV wr w.heap.size (.slice (some ⟨w1.heap.size, 0, none⟩) ps.length ps.length) (makesF sm ps) ∧ Keep [] w wr) := Lib.hid ⟨.inr ⟨by rw [← hres]; intro e; rw [e] at hol; simp at hol; omega, _, by rw [← hres, hol], by rw [← hres]; exact BRr, by omega⟩, HKK.out.then Kr (fun x hx => by simp at hx; subst hx; right; omega)⟩
        clear hres hb1 hb2 hol BRr Kr
        go_wp2
        go_ret
        exact ⟨⟨_, rfl, HFIN.out.1⟩, HFIN.out.2⟩
      | true =>
        obtain ⟨hgo, hf⟩ := hb1 rfl
        clear hb1 hb2
        obtain ⟨f, rfl⟩ : ∃ m, f = m + 1 := ⟨f - 1, by omega⟩
        have hless := mpass_less sm ps out ps.length
        have hgo2 : (if (mpass sm ps ps.length (out, false)).2 = true then makesL sm ps f (mpass sm ps ps.length (out, false)).1 else (mpass sm ps ps.length (out, false)).1) = makesF sm ps := hgo
        have hm1 : falseN wr w1.heap.size = falses out := falseN_of BRr
        have HHH := Lib.hid (⟨hless, hgo2, hm1, hf, hol⟩ : _ ∧ _ ∧ _ ∧ _ ∧ _)
        have hT1 : MkAt2 w1.heap.size W4 (mpass sm ps 0 (out, false)).1 wr := ⟨Kr, BRr⟩
        have HT1 := Lib.hid hT1
        clear hless hgo2 hm1 hT1 hf hgo hol Kr BRr BOr BGr
        obtain ⟨wo, rfl⟩ : ∃ wo : World, wo = wr := ⟨_, rfl⟩
        go_wp2_with fail
        clear g0 o0
        go_loopw [6, 22] (fun mv i wr => ∃ k : Nat, k ≤ ps.length ∧ i = .int .i64 k ∧ mv = .bool (mpass sm ps k (out, false)).2 ∧ MkAt2 w1.heap.size W4 (mpass sm ps k (out, false)).1 wr) (fun _ i _ => ps.length - (intOf i).toNat)
        case atStart => exact ⟨0, by omega, rfl, rfl, HT1.out⟩
        case round =>
          clear HT1
          obtain ⟨k, hk, rfl, rfl, Kr, BRr⟩ := hrel
          by_cases hlt : k < ps.length
          · have hlt' : (k : Int) < (ps.length : Int) := by omega
            have HLT := Lib.hid hlt
            have HSU : Hid (mpass sm ps (k + 1) (out, false) = mstep sm ps (mpass sm ps k (out, false)) k) := Lib.hid (mpass_succ _ _ _ _)
            have hql : (mpass sm ps k (out, false)).1.length = ps.length := by rw [mpass_len]; exact HHH.out.2.2.2.2
            generalize mpass sm ps k (out, false) = q at BRr HSU hql
            obtain ⟨q1, q2⟩ := q
            simp only at BRr hql ⊢
            have hP2 : Prods (w1.heap.size :: S) wr (.slice A ps.length C) ps := SlOf.move HPP.out prodRow_stab (by omega) Kr (fun x hx => .inl (by simp at hx ⊢; simp [hx])) (fun x hx => .inl hx)
            obtain ⟨_, _, hv, _, hr⟩ := SlOf.at hP2
            simp only [Value.slice.injEq, true_and] at hv
            obtain ⟨rfl, rfl⟩ := hv
            obtain ⟨b, o, rfl, hb, hc⟩ := hr (by omega)
            obtain ⟨prow, hz, hcell, hR⟩ := hc k hlt
            have hsy := gmay_sym HG.out ps[k] (List.getElem_mem _)
            have hso := HSM.out ps[k] (List.getElem_mem _)
            have HST : Hid (mstep sm ps (q1, q2) k = if q1[k]? = some false ∧ ps[k].a.any (makesB sm q1) = true then (q1.set k true, true) else (q1, q2)) := Lib.hid (by unfold mstep; rw [List.getElem?_eq_getElem hlt]; rfl)
            obtain ⟨A2, C2, N2, F2, rfl, hR2, hR3⟩ := hR
            have e0 := hcell 0 (by omega)
            have e1 := hcell 1 (by omega)
            have e2 := hcell 2 (by omega)
            simp at e0 e1 e2
            generalize ps[k] = p at e0 e1 e2 hR2 hR3 hsy hso HST
            have KB := (Keep.refl [] wr).alloc (.cells #[.slice A2 p.a.length C2, .int .i64 p.marks, .slice N2 p.nt.length F2] 37)
            have BOr := (HBO.out.keep Kr (by simp)).keep KB (by simp)
            have BVr := (HBV.out.keep Kr (by simp; omega)).keep KB (by simp)
            have BRr2 := BRr.keep KB (by simp)
            have o0 := BOr.cell 0
            have hkq : k < q1.length := by omega
            have r0 := BRr2.cell k
            rw [boolC_at _ _ hkq] at r0
            clear hcell hc hr hz hP2
            cases hq : q1[k] with
            | true =>
              rw [hq] at r0
              have HFIN : Hid ((mpass sm ps (k + 1) (out, false)).2 = q2 ∧ MkAt2 w1.heap.size W4 (mpass sm ps (k + 1) (out, false)).1 (wr.alloc (.cells #[.slice A2 p.a.length C2, .int .i64 p.marks, .slice N2 p.nt.length F2] 37))) := Lib.hid (by
                rw [HSU.out, HST.out, if_neg (by simp [hkq, hq])]
                exact ⟨rfl, Kr.trans (KB.mono (by simp)), BRr2⟩)
              clear hq hsy hso
              go_wp2
              go_roundw
              case rel => exact ⟨k + 1, by have := HLT.out; omega, by go_num, by rw [HFIN.out.1], HFIN.out.2⟩
              case measure => simp [intOf]; have := HLT.out; omega
            | false =>
              rw [hq] at r0
              have hp : PredOn p.a AltRow (w1.heap.size :: S) (wr.alloc (.cells #[.slice A2 p.a.length C2, .int .i64 p.marks, .slice N2 p.nt.length F2] 37)) 39 #[.pointer (some ⟨w1.heap.size + 1 + 1, 0, none⟩)] (fun row => row.getD 0 undef) (makesB sm q1) :=
                ⟨fun _ _ => by kernel_rfl, fun a ha row w' Kw h => makes_any sm _ _ _ ps.length q1 _ a row w' (BVr.keep Kw (by simp)) (by rw [hql]; exact BOr.keep Kw (by simp)) (BRr2.keep Kw (by simp)) (by omega) (by rw [hql]; exact hsy a ha) (hso a ha) h⟩
              have hcall := altContainsOn_any (w1.heap.size :: S) (.slice A2 p.a.length C2) p.a _ _ _ _ (SlOf.move hR2 altRow_stab (by omega) KB (by simp) (fun x hx => .inl hx)) hp
              have HC2 := Lib.hid hcall
              have HQ := Lib.hid (⟨hq, hkq⟩ : _ ∧ _)
              clear hcall hp hq hsy hso
              go_wp2_with fail
              refine HC2.out.mono ?_
              rintro e w5 ⟨rfl, K5⟩
              clear HC2
              have BR5 := BRr2.keep K5 (by simp)
              have BO5 := BOr.keep K5 (by simp)
              have o5 := BO5.cell 0
              have r5 := BR5.cell k
              rw [boolC_at _ _ hkq] at r5
              have f5 := BR5.frozen k
              cases hany : p.a.any (makesB sm q1) with
              | false =>
                have HFIN : Hid ((mpass sm ps (k + 1) (out, false)).2 = q2 ∧ MkAt2 w1.heap.size W4 (mpass sm ps (k + 1) (out, false)).1 w5) := Lib.hid (by
                  rw [HSU.out, HST.out, if_neg (by simp [hany])]
                  exact ⟨rfl, (Kr.trans (KB.mono (by simp))).trans (K5.mono (by simp)), BR5⟩)
                clear hany
                go_wp2
                go_roundw
                case rel => exact ⟨k + 1, by have := HLT.out; omega, by go_num, by rw [HFIN.out.1], HFIN.out.2⟩
                case measure => simp [intOf]; have := HLT.out; omega
              | true =>
                have KS := (Keep.refl [w1.heap.size] w5).setCell (p := ⟨w1.heap.size, k, none⟩) (by simp) (.bool true)
                have HFIN : Hid ((mpass sm ps (k + 1) (out, false)).2 = true ∧ MkAt2 w1.heap.size W4 (mpass sm ps (k + 1) (out, false)).1 (w5.setCell ⟨w1.heap.size, k, none⟩ (.bool true))) := Lib.hid (by
                  have h9 := HQ.out.1
                  rw [HSU.out, HST.out, if_pos ⟨by rw [List.getElem?_eq_getElem hkq, h9], hany⟩]
                  exact ⟨rfl, ((Kr.trans (KB.mono (by simp))).trans (K5.mono (by simp))).trans KS, by rw [← boolC_set]; exact BR5.set k (.bool true)⟩)
                clear hany KS
                go_wp2
                go_roundw
                case rel => exact ⟨k + 1, by have := HLT.out; omega, by go_num, by rw [HFIN.out.1], HFIN.out.2⟩
                case measure => simp [intOf]; have := HLT.out; omega
          · obtain rfl : k = ps.length := by omega
            obtain ⟨p1, p2, p3, p4, p5⟩ := HHH.out
            have hml : (mpass sm ps ps.length (out, false)).1.length = ps.length := by rw [mpass_len]; exact p5
            have hm2 := falseN_of BRr
            generalize mpass sm ps ps.length (out, false) = q at p1 p2 BRr hml hm2
            obtain ⟨q1, q2⟩ := q
            have HFIN : Hid ((∃ f out b, (Value.bool q2) = .bool b ∧ (b = true → makesL sm ps f out = makesF sm ps ∧ falses out < f) ∧ (b = false → out = makesF sm ps) ∧ out.length = ps.length ∧ MkAt2 w1.heap.size W4 out wr) ∧ 2 * falseN wr w1.heap.size + (match (Value.bool q2) with | .bool true => 1 | _ => 0) < 2 * falseN wo w1.heap.size + 1) := Lib.hid (by
              simp only at p1 p2 BRr hml hm2
              cases q2 with
              | true =>
                simp at p1 p2
                exact ⟨⟨f, q1, true, rfl, fun _ => ⟨p2, by omega⟩, fun h => absurd h (by simp), hml, Kr, BRr⟩, by simp; omega⟩
              | false =>
                simp at p1 p2
                refine ⟨⟨0, q1, false, rfl, fun h => absurd h (by simp), fun _ => p2, hml, Kr, BRr⟩, ?_⟩
                simp only
                rw [hm2, p1, p3]; omega)
            clear p1 p2 p3 p4 p5 hm2 BRr Kr hml
            go_wp2
            exact HFIN.out
/-- What Vain hands back. -/
def vainR (sm : List Rng → Bool) (ps : List ProdS) : Int := idxB (makesR sm ps) false
set_option maxHeartbeats 2000000 in
theorem vainR_any (sm : List Rng → Bool) (S : List Nat) (A K : Option Addr) (C m D : Nat) (ps : List ProdS) (w : World) (HP : Prods S w (.slice A ps.length C) ps) (hS : ∀ b ∈ S, b < w.heap.size) (hsm : SomesOK sm ps) :
    Calls Tryz.prog 22 #[.agg #[.slice A ps.length C, .slice K m D]] w fun e w' => e = .returned (.int .i64 (vainR sm ps)) ∧ Keep [] w w' := by
  have K0 := (Keep.refl [] w).alloc (.cells #[.slice A ps.length C, .slice K m D] 25)
  have HP0 : Prods S _ (.slice A ps.length C) ps := SlOf.move HP prodRow_stab (by omega) K0 (by simp) (fun x hx => .inl hx)
  have hcall := makesR_any sm S A K C m D ps _ HP0 (fun b hb => Nat.lt_of_lt_of_le (hS b hb) K0.size) hsm
  have HC := Lib.hid hcall; clear hcall HP0 HP hsm
  have hlen := makesR_len sm ps
  unfold vainR
  generalize makesR sm ps = bs at HC hlen ⊢
  go_enter Tryz.func22, Tryz.ntmps22
  go_wp2_with fail
  refine HC.out.mono ?_
  rintro e w1 ⟨⟨v, rfl, hB⟩, K1⟩
  have hcall := bindex_any _ _ _ false _ hB (by omega)
  have HC2 := Lib.hid hcall
  clear HC hcall hB
  go_wp2_with fail
  refine HC2.out.mono ?_
  rintro e w2 ⟨rfl, rfl⟩
  go_wp2
  go_ret
  exact ⟨rfl, K0.trans K1⟩
end Go.Proofs.YtacihjabkiedcaaGreatDoor
namespace Go.Proofs.YtacihjabkiedcaaGreatDoor
open Go Go.RowKit Go.MapKept

/-- Some bool was handed back. -/
def SomeB (e : Ending) : Prop := ∃ b, e = .returned (.bool b)
set_option maxRecDepth 20000 in
set_option maxHeartbeats 4000000 in
theorem few_any (S : List Nat) (A K : Option Addr) (C m D : Nat) (ps : List ProdS) (w : World) (HP : Prods S w (.slice A ps.length C) ps) (hmk : m ≤ 9223372036854775807) :
    Calls Tryz.prog 14 #[.agg #[.slice A ps.length C, .slice K m D]] w fun e w' => SomeB e ∧ Keep [] w w' := by
  have K0 := (Keep.refl [] w).alloc (.cells #[.slice A ps.length C, .slice K m D] 25)
  have HP0 : Prods S _ (.slice A ps.length C) ps := SlOf.move HP prodRow_stab (by omega) K0 (by simp) (fun x hx => .inl hx)
  have B0 := Blk.new w #[.slice A ps.length C, .slice K m D] 25
  clear HP
  have hm := (SlOf.at HP0)
  obtain ⟨_, _, hv, hlen, hr⟩ := hm
  simp only [Value.slice.injEq, true_and] at hv
  obtain ⟨rfl, rfl⟩ := hv
  have hlen1 := hlen.1
  have HR := Lib.hid hr
  clear hr HP0 hlen
  go_enter Tryz.func14, Tryz.ntmps14
  by_cases h62 : 62 < ps.length
  · have h62' : (62 : Int) < (ps.length : Int) := by omega
    go_wp2
    go_ret
    exact ⟨⟨_, rfl⟩, K0⟩
  · have h62' : (ps.length : Int) ≤ 62 := by omega
    by_cases h12 : 12 < m
    · have h12' : (12 : Int) < (m : Int) := by omega
      go_wp2
      go_ret
      exact ⟨⟨_, rfl⟩, K0⟩
    · have h12' : (m : Int) ≤ 12 := by omega
      have hd1 : decide ((62 : Int) < (ps.length : Int)) = false := by simp; omega
      have hd2 : decide ((12 : Int) < (m : Int)) = false := by simp; omega
      go_wp2
      generalize w.alloc (.cells #[.slice A ps.length C, .slice K m D] 25) = W at HR B0 K0 ⊢
      have b0 := B0.cell 0
      go_loop [3, 4, 5, 6] (fun n i _ _ => ∃ k : Nat, k ≤ ps.length ∧ i = .int .i64 k ∧ ∃ x, n = .int .i64 x) (fun _ i _ _ => ps.length - (intOf i).toNat)
      case atStart => exact ⟨0, by omega, rfl, _, rfl⟩
      case round =>
        obtain ⟨k, hk, rfl, x, rfl⟩ := hrel
        by_cases hlt : k < ps.length
        · have hlt' : (k : Int) < (ps.length : Int) := by omega
          have HLT := Lib.hid hlt
          obtain ⟨b, o, rfl, hb, hc⟩ := HR.out (by omega)
          obtain ⟨prow, hz, hcell, hR⟩ := hc k hlt
          obtain ⟨A2, C2, N2, F2, rfl, hR2, hR3⟩ := hR
          have e0 := hcell 0 (by omega)
          have e2 := hcell 2 (by omega)
          simp at e0 e2
          generalize ps[k] = p at e0 e2 hR2 hR3
          have hm2 := (SlOf.at hR2)
          obtain ⟨_, _, hv, hlen2, hr2⟩ := hm2
          simp only [Value.slice.injEq, true_and] at hv
          obtain ⟨rfl, rfl⟩ := hv
          have hlen2 := hlen2.1
          have HR2 := Lib.hid hr2
          clear hr2 hR2 hR3 hcell hc hz
          go_wp2
          go_loop [3, 5, 6] (fun n i _ => ∃ k : Nat, k ≤ p.a.length ∧ i = .int .i64 k ∧ ∃ x, n = .int .i64 x) (fun _ i _ => p.a.length - (intOf i).toNat)
          case atStart => exact ⟨0, by omega, rfl, _, rfl⟩
          case round =>
            obtain ⟨k2, hk2, rfl, x2, rfl⟩ := hrel
            by_cases hlt2 : k2 < p.a.length
            · have hlt2' : (k2 : Int) < (p.a.length : Int) := by omega
              have HLT2 := Lib.hid hlt2
              obtain ⟨b2, o2, rfl, hb2, hc2⟩ := HR2.out (by omega)
              obtain ⟨arow, hz2, hcell2, hR4⟩ := hc2 k2 hlt2
              obtain ⟨A3, C3, rfl, hR5⟩ := hR4
              have e3 := hcell2 0 (by omega)
              simp at e3
              generalize p.a[k2] = al at e3 hR5
              have hm3 := (SlOf.at hR5)
              obtain ⟨_, _, hv, hlen3, hr3⟩ := hm3
              simp only [Value.slice.injEq, true_and] at hv
              obtain ⟨rfl, rfl⟩ := hv
              have hlen3 := hlen3.1
              have HR3 := Lib.hid hr3
              clear hr3 hR5 hcell2 hc2 hz2
              go_wp2
              go_loop [3, 6] (fun n i => ∃ k : Nat, k ≤ al.length ∧ i = .int .i64 k ∧ ∃ x, n = .int .i64 x) (fun _ i => al.length - (intOf i).toNat)
              case atStart => exact ⟨0, by omega, rfl, _, rfl⟩
              case round =>
                obtain ⟨k3, hk3, rfl, x3, rfl⟩ := hrel
                by_cases hlt3 : k3 < al.length
                · have hlt3' : (k3 : Int) < (al.length : Int) := by omega
                  have HLT3 := Lib.hid hlt3
                  by_cases hx : x3 < 1000
                  · obtain ⟨b3, o3, rfl, hb3, hc3⟩ := HR3.out (by omega)
                    obtain ⟨srow, hz3, hcell3, hR6⟩ := hc3 k3 hlt3
                    obtain ⟨A4, C4, rfl, hR7⟩ := hR6
                    have e4 := hcell3 1 (by omega)
                    simp at e4
                    clear hR7 hcell3 hc3 hz3
                    go_wp2
                    go_round
                    case rel => exact ⟨k3 + 1, by have := HLT3.out; omega, by go_num, _, rfl⟩
                    case measure => simp [intOf]; have := HLT3.out; omega
                  · have hx' : 1000 ≤ x3 := by omega
                    have hd3 : decide (x3 < 1000) = false := by simp; omega
                    clear hx
                    go_wp2
                    go_round
                    case rel => exact ⟨k2 + 1, by have := HLT2.out; omega, by go_num, _, rfl⟩
                    case measure => simp [intOf]; have := HLT2.out; omega
                · obtain rfl : k3 = al.length := by omega
                  go_wp2
                  go_round
                  case rel => exact ⟨k2 + 1, by have := HLT2.out; omega, by go_num, _, rfl⟩
                  case measure => simp [intOf]; have := HLT2.out; omega
            · obtain rfl : k2 = p.a.length := by omega
              go_wp2
              · go_ret
                exact ⟨⟨_, rfl⟩, K0⟩
              · go_round
                case rel => exact ⟨k + 1, by have := HLT.out; omega, by go_num, _, rfl⟩
                case measure => simp [intOf]; have := HLT.out; omega
        · obtain rfl : k = ps.length := by omega
          go_wp2
          go_ret
          exact ⟨⟨_, rfl⟩, K0⟩
end Go.Proofs.YtacihjabkiedcaaGreatDoor
namespace Go.Proofs.YtacihjabkiedcaaGreatDoor
open Go Go.RowKit Go.MapKept

def f11b : FileS := ⟨[], [⟨⟨#[97]⟩, 0, .mk 4 ⟨#[]⟩ [] [.mk 0 ⟨#[97]⟩ [] [] 4, .mk 1 ⟨#[120]⟩ [] [] 6] 4, [], 0⟩]⟩
def g11a : GramS := ⟨[⟨[[⟨0, [⟨120, 120⟩], 0⟩]], 0, []⟩, ⟨[[⟨2, [], 0⟩]], 0, []⟩], []⟩
def g11b : GramS := ⟨[⟨[[⟨2, [], 0⟩, ⟨0, [⟨120, 120⟩], 0⟩]], 0, []⟩], []⟩
theorem text11a : TextOK 3 t11a f11a g11a := by
  refine ⟨by decide, by decide, by decide, by kernel_rfl, by kernel_rfl, ⟨by decide, ?_, by decide, okFile_of (by kernel_rfl), by kernel_rfl, rfl⟩⟩
  · show [(⟨#[97]⟩ : ByteArray), ⟨#[98]⟩].Nodup
    decide
theorem text11b : TextOK 3 t11b f11b g11b := by
  refine ⟨by decide, by decide, by decide, by kernel_rfl, by kernel_rfl, ⟨by decide, ?_, by decide, okFile_of (by kernel_rfl), by kernel_rfl, rfl⟩⟩
  · show [(⟨#[97]⟩ : ByteArray)].Nodup
    decide
def smN : List Rng → Bool := fun _ => false
theorem r11a1 : fromR g11a.p 1 = [true, false] := by kernel_rfl
theorem r11a2 : lostR g11a.p = 1 := by kernel_rfl
theorem r11a3 : vainR smN g11a.p = -1 := by kernel_rfl
theorem r11b3 : vainR smN g11b.p = 0 := by kernel_rfl
theorem somes_of (sm : List Rng → Bool) (ps : List ProdS) (h : (ps.all fun p => p.a.all fun a => a.all fun s => s.k == 0 || s.k == 2) = true) : SomesOK sm ps := by
  intro p hp a ha s hs h2 h0
  have h1 := List.all_eq_true.1 (List.all_eq_true.1 (List.all_eq_true.1 h p hp) a ha) s hs
  simp [h2, h0] at h1
set_option maxHeartbeats 2000000 in
theorem bools_any (lo : Nat) (v u : Value) (bs cs : List Bool) (w : World) (H : BoolV w lo v bs) (G : BoolV w lo u cs) (hn : bs.length ≤ 1000000) (hm : cs.length ≤ 1000000) :
    Calls Tryz.prog 15 #[v, u] w fun e w' => e = .returned (.bool (decide (bs = cs))) ∧ Keep [] w w' := by
  obtain ⟨A, C, rfl, hC, hc⟩ := H.cells
  obtain ⟨B, D, rfl, hD, hd⟩ := G.cells
  have HH := Lib.hid hc; clear hc H
  have GG := Lib.hid hd; clear hd G
  by_cases hl : bs.length = cs.length
  · have hlb : ((bs.length : Int) != (cs.length : Int)) = false := by simp [hl]
    have HL := Lib.hid hl
    have hl2 : (cs.length : Int) = (bs.length : Int) := by omega
    clear hl
    go_enter Tryz.func15, Tryz.ntmps15
    go_wp2
    go_loopw [5] (fun i wr => ∃ k : Nat, k ≤ bs.length ∧ i = .int .i64 k ∧ Hid (∀ j (hj : j < k) (h1 : j < bs.length) (h2 : j < cs.length), bs[j] = cs[j]) ∧ Keep [] w wr) (fun i _ => bs.length - (intOf i).toNat)
    case atStart => exact ⟨0, by omega, rfl, Lib.hid (fun j hj => by omega), Keep.refl _ _⟩
    case round =>
      obtain ⟨k, hk, rfl, hno, Kr⟩ := hrel
      by_cases hlt : k < bs.length
      · have hlt' : (k : Int) < (bs.length : Int) := by omega
        have hltc : k < cs.length := by omega
        obtain ⟨b, rfl, hc⟩ := HH.out (by omega)
        obtain ⟨c, rfl, hd⟩ := GG.out (by omega)
        have e0 := Kr.cell (hc k hlt) (by simp)
        have e1 := Kr.cell (hd k hltc) (by simp)
        have HLT := Lib.hid hlt
        have HE : Hid (bs[k] = cs[k] → ∀ j (hj : j < k + 1) (h1 : j < bs.length) (h2 : j < cs.length), bs[j] = cs[j]) := Lib.hid (fun he j hj h1 h2 => by
          by_cases e : j = k
          · subst e; exact he
          · exact hno.out j (by omega) h1 h2)
        have HN : Hid (bs[k] ≠ cs[k] → decide (bs = cs) = false) := Lib.hid (fun hne => by simp; intro e; subst e; exact hne rfl)
        clear hc hd hno
        generalize bs[k] = x at e0 HE HN
        generalize cs[k] = y at e1 HE HN
        cases x <;> cases y
        · go_wp2
          go_quiet (fail)
          go_wp2
          go_roundw
          case rel => exact ⟨k + 1, by have := HLT.out; omega, by go_num, Lib.hid (HE.out (by simp)), Kr.drewN _⟩
          case measure => simp [intOf]; have := HLT.out; omega
        · go_wp2
          go_quiet (fail)
          go_wp2
          go_ret
          rw [HN.out (by simp)]
          exact ⟨rfl, Kr.drewN _⟩
        · go_wp2
          go_quiet (fail)
          go_wp2
          go_ret
          rw [HN.out (by simp)]
          exact ⟨rfl, Kr.drewN _⟩
        · go_wp2
          go_quiet (fail)
          go_wp2
          go_roundw
          case rel => exact ⟨k + 1, by have := HLT.out; omega, by go_num, Lib.hid (HE.out (by simp)), Kr.drewN _⟩
          case measure => simp [intOf]; have := HLT.out; omega
      · have heq : decide (bs = cs) = true := by
          simp only [decide_eq_true_eq]
          exact List.ext_getElem HL.out (fun j h1 h2 => hno.out j (by omega) h1 h2)
        have HEQ := Lib.hid heq
        obtain rfl : k = bs.length := by omega
        clear heq hno
        go_wp2
        go_ret
        rw [HEQ.out]
        exact ⟨rfl, Kr⟩
  · have hlb : ((bs.length : Int) != (cs.length : Int)) = true := by simp; omega
    have hne : decide (bs = cs) = false := by simp; intro e; exact hl (by rw [e])
    rw [hne]
    clear hl hne
    go_enter Tryz.func15, Tryz.ntmps15
    go_wp2
    go_ret
    exact ⟨rfl, Keep.refl _ _⟩
end Go.Proofs.YtacihjabkiedcaaGreatDoor
namespace Go.Proofs.YtacihjabkiedcaaGreatDoor
open Go Go.RowKit Go.MapKept

structure AwF (g h : GramS) : Prop where
  a : fromR g.p 1 = [true, false]
  b : lostR g.p = 1
  c : vainR smN g.p = -1
  d : vainR smN h.p = 0
  e : SomesOK smN g.p
  f : SomesOK smN h.p
theorem awF : AwF g11a g11b := ⟨r11a1, r11a2, r11a3, r11b3, somes_of _ _ (by kernel_rfl), somes_of _ _ (by kernel_rfl)⟩
set_option maxRecDepth 20000 in
set_option maxHeartbeats 2000000 in
theorem awake11_any (w : World) : Calls Tryz.prog 13 #[] w fun e w' => e = .returned (.bool true) ∧ Keep [] w w' := by
  have hA := text_any 3 t11a f11a g11a text11a
  have hB := text_any 3 t11b f11b g11b text11b
  have hF := awF
  generalize g11a = g at hA hF
  generalize g11b = h at hB hF
  have HA := Lib.hid hA
  have HB := Lib.hid hB
  have HF := Lib.hid hF
  clear hA hB hF
  go_enter Tryz.func13, Tryz.ntmps13
  go_wp2_with fail
  refine (HA.out _).mono ?_
  rintro e w1 ⟨⟨row, rfl, hg⟩, K1⟩
  obtain ⟨A1, C1, D1, E1, rfl, hP, hK⟩ := hg
  go_wp2_with fail
  refine (HB.out _).mono ?_
  rintro e w2 ⟨⟨row, rfl, hg2⟩, K2⟩
  obtain ⟨A2, C2, D2, E2, rfl, hP2, hK2⟩ := hg2
  have B1 := (Blk.new w1 #[.slice A1 g.p.length C1, .slice D1 g.keys.length E1] 25).keep K2 (by simp)
  have K1a := (Keep.refl [] w1).alloc (.cells #[.slice A1 g.p.length C1, .slice D1 g.keys.length E1] 25)
  have hPw2 : Prods [] w2 (.slice A1 g.p.length C1) g.p := SlOf.move (SlOf.move (S' := []) hP prodRow_stab (by omega) K1a (by simp) (fun x hx => .inl hx)) prodRow_stab (by omega) K2 (by simp) (fun x hx => .inl hx)
  have K3 := (Keep.refl [] w2).alloc (.cells #[.slice A2 h.p.length C2, .slice D2 h.keys.length E2] 25)
  have B1b := B1.keep K3 (by simp)
  have b1 := B1b.cell
  have hP3 : Prods [] _ (.slice A1 g.p.length C1) g.p := SlOf.move hPw2 prodRow_stab (by omega) K3 (by simp) (fun x hx => .inl hx)
  have hQ3 : Prods [] _ (.slice A2 h.p.length C2) h.p := SlOf.move hP2 prodRow_stab (by omega) K3 (by simp) (fun x hx => .inl hx)
  have B2 := Blk.new w2 #[.slice A2 h.p.length C2, .slice D2 h.keys.length E2] 25
  go_wp2_with fail
  refine (from_any [] A1 D1 C1 g.keys.length E1 g.p 1 _ hP3 (by simp)).mono ?_
  rintro e w4 ⟨⟨v, rfl, hbv⟩, K4⟩
  rw [HF.out.a] at hbv
  have K5 := (Keep.refl [] w4).alloc (.cells #[.bool true, .bool false] 4)
  have hbv5 := hbv.keep K5 (by simp)
  have hlit : BoolV (w4.alloc (.cells #[.bool true, .bool false] 4)) w4.heap.size (.slice (some ⟨w4.heap.size, 0, none⟩) 2 2) [true, false] := .inr ⟨by simp, _, rfl, Blk.new w4 #[.bool true, .bool false] 4, Nat.le_refl _⟩
  have hcall := bools_any _ _ _ _ _ _ hbv5 (hlit.mono K4.size) (by simp) (by simp)
  have hdec : decide ([true, false] = [true, false]) = true := by decide
  rw [hdec] at hcall
  have HC := Lib.hid hcall; clear hcall hbv5 hlit hbv hdec
  go_wp2_with fail
  refine HC.out.mono ?_
  rintro e w6 ⟨rfl, K6⟩
  clear HC
  have K46 := (K4.trans K5).trans K6
  have B1c := B1b.keep K46 (by simp)
  have b1 := B1c.cell
  have B2c := B2.keep K46 (by simp)
  have hP4 : Prods [] w6 (.slice A1 g.p.length C1) g.p := SlOf.move hP3 prodRow_stab (by omega) K46 (by simp) (fun x hx => .inl hx)
  have hQ4 : Prods [] w6 (.slice A2 h.p.length C2) h.p := SlOf.move hQ3 prodRow_stab (by omega) K46 (by simp) (fun x hx => .inl hx)
  go_wp2_with fail
  refine (lost_any [] A1 D1 C1 g.keys.length E1 g.p _ hP4 (by simp)).mono ?_
  rintro e w7 ⟨rfl, K7⟩
  rw [HF.out.b]
  have B1d := B1c.keep K7 (by simp)
  have b1 := B1d.cell
  have hP5 : Prods [] w7 (.slice A1 g.p.length C1) g.p := SlOf.move hP4 prodRow_stab (by omega) K7 (by simp) (fun x hx => .inl hx)
  have hQ5 : Prods [] w7 (.slice A2 h.p.length C2) h.p := SlOf.move hQ4 prodRow_stab (by omega) K7 (by simp) (fun x hx => .inl hx)
  have B2d := B2c.keep K7 (by simp)
  go_wp2_with fail
  refine (vainR_any smN [] A1 D1 C1 g.keys.length E1 g.p _ hP5 (by simp) HF.out.e).mono ?_
  rintro e w8 ⟨rfl, K8⟩
  rw [HF.out.c]
  have B2e := B2d.keep K8 (by simp)
  have b2 := B2e.cell
  have hQ6 : Prods [] w8 (.slice A2 h.p.length C2) h.p := SlOf.move hQ5 prodRow_stab (by omega) K8 (by simp) (fun x hx => .inl hx)
  go_wp2_with fail
  refine (vainR_any smN [] A2 D2 C2 h.keys.length E2 h.p _ hQ6 (by simp) HF.out.f).mono ?_
  rintro e w9 ⟨rfl, K9⟩
  rw [HF.out.d]
  have KF := ((((((((K1.trans K1a).trans K2).trans K3)).trans K46).trans K7).trans K8).trans K9)
  go_wp2
  go_ret
  exact ⟨rfl, KF⟩
end Go.Proofs.YtacihjabkiedcaaGreatDoor
namespace Go.Proofs.YtacihjabkiedcaaGreatDoor
open Go Go.RowKit Go.MapKept

theorem idxB_cases (bs : List Bool) : (idxB bs false = -1 ∧ ∀ j (h : j < bs.length), bs[j] = true) ∨ ∃ i, ∃ h : i < bs.length, idxB bs false = i ∧ bs[i] = false ∧ ∀ j (hj : j < i), bs[j] = true := by
  unfold idxB
  cases hf : bs.findIdx? (fun b => b == false) with
  | none =>
    left
    refine ⟨rfl, fun j h => ?_⟩
    rw [List.findIdx?_eq_none_iff] at hf
    have := hf bs[j] (List.getElem_mem _)
    simpa using this
  | some i =>
    right
    rw [List.findIdx?_eq_some_iff_getElem] at hf
    obtain ⟨h, h1, h2⟩ := hf
    exact ⟨i, h, rfl, by simpa using h1, fun j hj => by have := h2 j hj; simpa using this⟩
set_option maxRecDepth 20000 in
set_option maxHeartbeats 4000000 in
theorem reachLost_walk (A K : Option Addr) (C m D : Nat) (ps : List ProdS) (w : World) (HP : Prods [] w (.slice A ps.length C) ps) (hmk : m ≤ 9223372036854775807) :
    Calls Tryz.prog 4 #[.agg #[.slice A ps.length C, .slice K m D]] w fun e w' => e = .returned (.bool true) ∧ Keep [] w w' := by
  have K0 := (Keep.refl [] w).alloc (.cells #[.slice A ps.length C, .slice K m D] 25)
  have HP0 : Prods [] _ (.slice A ps.length C) ps := SlOf.move HP prodRow_stab (by omega) K0 (by simp) (fun x hx => .inl hx)
  have B0 := Blk.new w #[.slice A ps.length C, .slice K m D] 25
  clear HP
  go_enter Tryz.func4, Tryz.ntmps4
  go_wp2_with fail
  refine (awake11_any _).mono ?_
  rintro e w1 ⟨rfl, K1⟩
  have B1 := B0.keep K1 (by simp)
  have b1 := B1.cell
  have HP1 : Prods [] w1 (.slice A ps.length C) ps := SlOf.move HP0 prodRow_stab (by omega) K1 (by simp) (fun x hx => .inl hx)
  go_wp2_with fail
  refine (few_any [] A K C m D ps _ HP1 hmk).mono ?_
  rintro e w2 ⟨⟨b, rfl⟩, K2⟩
  have B2 := B1.keep K2 (by simp)
  have b2 := B2.cell
  have HP2 : Prods [] w2 (.slice A ps.length C) ps := SlOf.move HP1 prodRow_stab (by omega) K2 (by simp) (fun x hx => .inl hx)
  have KF := (K0.trans K1).trans K2
  clear HP0 HP1 B0 B1 b1
  cases b with
  | false =>
    go_wp2
    go_ret
    exact ⟨rfl, KF⟩
  | true =>
    go_wp2_with fail
    refine (may_any [] (.slice A ps.length C) (.slice K m D) ps _ HP2).mono ?_
    rintro e w3 ⟨rfl, K3⟩
    have B3 := B2.keep K3 (by simp)
    have b3 := B3.cell
    have HP3 : Prods [] w3 (.slice A ps.length C) ps := SlOf.move HP2 prodRow_stab (by omega) K3 (by simp) (fun x hx => .inl hx)
    have KF3 := KF.trans K3
    clear HP2 B2 b2
    cases hg : gmay ps with
    | false =>
      go_wp2
      go_ret
      exact ⟨rfl, KF3⟩
    | true =>
      obtain ⟨hl0, hl1⟩ := gmay_len hg
      have hlen : (fromR ps 0).length = ps.length := by
        unfold fromR
        rw [if_pos ⟨hg, by omega, by omega⟩, fromF_len]
      have hlost : lostR ps = idxB ((fromR ps 0).set 0 true) false := by
        unfold lostR
        rw [if_neg (by omega)]
      have hF := fun w H => from_any [] A K C m D ps 0 w H (by simp)
      have HF := Lib.hid hF
      have hL := fun w H => lost_any [] A K C m D ps w H (by simp)
      have HL := Lib.hid hL
      generalize lostR ps = n at hlost HL
      generalize fromR ps 0 = xs at hlen hlost HF
      have HLEN := Lib.hid hlen
      have HLOST := Lib.hid hlost
      clear hF hL hg hlen hlost
      go_wp2_with fail
      refine (HL.out _ HP3).mono ?_
      rintro e w4 ⟨rfl, K4⟩
      have B4 := B3.keep K4 (by simp)
      have b4 := B4.cell
      have HP4 : Prods [] w4 (.slice A ps.length C) ps := SlOf.move HP3 prodRow_stab (by omega) K4 (by simp) (fun x hx => .inl hx)
      go_wp2_with fail
      refine (HF.out _ HP4).mono ?_
      rintro e w5 ⟨⟨v, rfl, hv⟩, K5⟩
      have B5 := B4.keep K5 (by simp)
      have b5 := B5.cell
      obtain ⟨AX, CX, rfl, hCX, hcx⟩ := hv.cells
      obtain ⟨bx, rfl, hcx2⟩ := hcx (by have := HLEN.out; omega)
      have KF5 := (KF3.trans K4).trans K5
      have hx0 : (xs.set 0 true)[0]'(by have := HLEN.out; simp; omega) = true := by simp
      have hlen := HLEN.out
      have hxj : ∀ j (h : j < xs.length), j ≠ 0 → (xs.set 0 true)[j]'(by simpa using h) = xs[j] := fun j h hj => by rw [List.getElem_set_ne (by omega)]
      have hc := idxB_cases (xs.set 0 true)
      rw [← HLOST.out] at hc
      have HC0 : True := trivial
      have hn0 : n ≠ 0 := by
        rcases hc with ⟨h, _⟩ | ⟨i, h, h1, h2, _⟩
        · omega
        · intro e
          have : i = 0 := by omega
          subst this
          rw [hx0] at h2
          cases h2
      have hn1 : n < (xs.length : Int) ∧ -1 ≤ n := by
        rcases hc with ⟨h, _⟩ | ⟨i, h, h1, _⟩
        · omega
        · simp at h; omega
      have hd0 : (n == 0) = false := beq_eq_false_iff_ne.2 hn0
      have hd1 : decide ((xs.length : Int) ≤ n) = false := by simp; omega
      have hd2 : decide (n < -1) = false := by simp; omega
      have hd3 : ((xs.length : Int) != (ps.length : Int)) = false := by simp; omega
      have hxl : 0 < xs.length ∧ xs.length ≤ 60 := by omega
      obtain ⟨hxl0, hxl1⟩ := hxl
      have HC := Lib.hid (⟨hc, hxj⟩ : _ ∧ _)
      have HCX := Lib.hid hcx2
      have hn2 := hn1.1
      have hn3 := hn1.2
      clear hc hxj hx0 hcx hcx2 hn0 hn1 hv B4 b4 HP3 HP4 B3 b3 hlen
      go_wp2
      go_loop [7] (fun i => ∃ k : Nat, 1 ≤ k ∧ k ≤ xs.length ∧ i = .int .i64 k ∧ Hid (∀ j (h : j < xs.length), 1 ≤ j → j < k → xs[j] = true)) (fun i => xs.length - (intOf i).toNat)
      case atStart => exact ⟨1, by omega, by omega, rfl, Lib.hid (fun j h h1 h2 => by omega)⟩
      case round =>
        obtain ⟨k, hk1, hk, rfl, hno⟩ := hrel
        by_cases hlt : k < xs.length
        · have hlt' : (k : Int) < (xs.length : Int) := by omega
          have HLT := Lib.hid hlt
          have e0 := HCX.out k hlt
          have HT : Hid (xs[k] = true → ∀ j (h : j < xs.length), 1 ≤ j → j < k + 1 → xs[j] = true) := Lib.hid (fun hx j h h1 h2 => by
            by_cases e : j = k
            · subst e; exact hx
            · exact hno.out j h h1 (by omega))
          have HN : Hid (xs[k] = false → (n == (k : Int)) = true) := Lib.hid (fun hx => by
            obtain ⟨hc, hxj⟩ := HC.out
            rcases hc with ⟨_, hall⟩ | ⟨i, h, h1, h2, h3⟩
            · have h9 := hall k (by simpa using hlt)
              have h8 := (hxj k hlt (by omega)).symm.trans h9
              have h7 := h8.symm.trans hx
              cases h7
            · have hi : i < xs.length := by simpa using h
              have hi0 : i ≠ 0 := by
                intro e; subst e
                simp at h2
              rw [hxj i hi hi0] at h2
              have : i = k := by
                rcases Nat.lt_trichotomy i k with hh | hh | hh
                · have := hno.out i hi (by omega) hh
                  rw [h2] at this; cases this
                · exact hh
                · have h9 := h3 k hh
                  have h8 := (hxj k hlt (by omega)).symm.trans h9
                  have h7 := h8.symm.trans hx
                  cases h7
              simp [h1, this])
          generalize xs[k] = x at e0 HT HN
          cases x with
          | true =>
            have HT2 : Hid (∀ j (h : j < xs.length), 1 ≤ j → j < k + 1 → xs[j] = true) := Lib.hid (HT.out rfl)
            clear HT HN hno
            go_wp2
            go_round
            case rel => exact ⟨k + 1, by omega, by have := HLT.out; omega, by go_num, HT2⟩
            case measure => simp [intOf]; have := HLT.out; omega
          | false =>
            have hres := HN.out rfl
            clear HT HN hno
            go_wp2
            go_ret
            exact ⟨rfl, KF5⟩
        · obtain rfl : k = xs.length := by omega
          have hres : (n == -1) = true := by
            obtain ⟨hc, hxj⟩ := HC.out
            rcases hc with ⟨h, _⟩ | ⟨i, h, h1, h2, _⟩
            · simp [h]
            · have hi : i < xs.length := by simpa using h
              have hi0 : i ≠ 0 := by
                intro e; subst e
                simp at h2
              rw [hxj i hi hi0, hno.out i hi (by omega) hi] at h2
              cases h2
          clear hno
          go_wp2
          go_ret
          exact ⟨rfl, KF5⟩
end Go.Proofs.YtacihjabkiedcaaGreatDoor
