/- Who is empty, told round by round: the walk of the iterator. -/
import Derived.Test.YtbpidoiellcccaaGreatDoorK14
import Derived.RangeFuncNested
import Derived.RangeFuncBound
import Derived.RangeFuncCalls
import Derived.RangeFuncLeaves
import Derived.Shelf.Abstract
import Derived.Shelf.RegionOpen
import Derived.OwnWalkIn
import Derived.TacticsInMore
import Derived.LoopNIn
import Derived.LoopIn
set_option linter.unusedVariables false
set_option linter.unusedSimpArgs false
namespace Go.Proofs.YtbpidoiellcccaaGreatDoor
open Go Go.RowKit Go.MapKept Go.Shelf
attribute [local go_sem] Oper.semAt_some

/-- Since w0 the set alone has turned, and holds these. -/
def NAt (w0 : World) (mb : Nat) (L : List Int) (W : World) : Prop := Keep [mb] w0 W ∧ SetI W mb L

set_option maxRecDepth 20000 in
set_option maxHeartbeats 4000000 in
theorem found1_any (n l qb fb mb : Nat) (A K : Option Addr) (C m D : Nat) (S : List Nat) (ps : List ProdS) (w0 : World) (HP : Prods (mb :: S) w0 (.slice A ps.length C) ps) (hps : ps.length ≤ 1000000)
    (BQ : Blk w0 qb #[.pointer (some ⟨fb, 0, none⟩)] 71) (BF : Blk w0 fb #[.slice A ps.length C, .slice K m D, .map (some mb)] 116) (hq : qb ≠ mb) (hf : fb ≠ mb)
    (B : World → Prop) (hB : ∀ W W', Keep [] W W' → B W → B W') (hn : 1 ≤ n)
    (hY : ∀ L (x : Nat) W1, NAt w0 mb L W1 → B W1 → x < ps.length → (x : Int) ∉ L → YieldAt Fence.wide (n - 1) Tryz.prog l #[.int .i64 x] W1 fun e W' => e = .returned (.bool true) ∧ NAt w0 mb (L ++ [(x : Int)]) W' ∧ B W')
    (W : World) (h0 : NAt w0 mb [] W) (hB0 : B W) :
    CallsIn Fence.wide n Tryz.prog 77 #[.func (.yield l) #[] #[], .pointer (some ⟨qb, 0, none⟩)] W fun e W' => (∃ v, e = .returned v) ∧ NAt w0 mb (emptyF ps) W' ∧ B W' := by
  have HBQ := Lib.hid BQ
  have HBF := Lib.hid BF
  have HPP := Lib.hid HP
  have HHB := Lib.hid hB
  have HHY := Lib.hid hY
  have HQM := Lib.hid (⟨hq, hf⟩ : _ ∧ _)
  have HT0 := Lib.hid (⟨h0, hB0⟩ : _ ∧ _)
  clear BQ BF HP hB hY hq hf h0 hB0
  refine callsIn_of_wp Tryz.func77 rfl trivial ?_ rfl
  simp only [Tryz.ntmps77, List.size_toArray, List.length_cons, List.length_nil, Nat.reduceAdd, Nat.reduceSub, Array.replicate_succ, Array.replicate_zero, List.push_toArray, List.append_toArray, List.nil_append, List.cons_append]
  gi_wp2
  gi_loopw [3] (fun mv wr => ∃ f L b, mv = .bool b ∧ (b = true → emptyL ps f L = emptyF ps ∧ falses (bl ps.length L) < f) ∧ (b = false → L = emptyF ps) ∧ NAt w0 mb L wr ∧ B wr) (fun mv wr => 2 * falses (bl ps.length (setN wr mb)) + (match mv with | .bool true => 1 | _ => 0))
  case atStart =>
    exact ⟨ps.length + 1, [], true, rfl, fun _ => ⟨rfl, by have := falses_nil ps.length; omega⟩, fun h => absurd h (by simp), HT0.out.1, HT0.out.2⟩
  case round =>
    clear HT0
    obtain ⟨f, L, b, rfl, hb1, hb2, hN, hBr⟩ := hrel
    cases b with
    | false =>
      have hres := hb2 rfl
      subst hres
      clear hb1 hb2
      gi_wp2
      go_end0
      exact ⟨⟨_, rfl⟩, hN, hBr⟩
    | true =>
      obtain ⟨hgo, hf⟩ := hb1 rfl
      clear hb1 hb2
      obtain ⟨f, rfl⟩ : ∃ m, f = m + 1 := ⟨f - 1, by omega⟩
      have hgo2 : (if (epass ps ps.length (L, false)).2 = true then emptyL ps f (epass ps ps.length (L, false)).1 else (epass ps ps.length (L, false)).1) = emptyF ps := hgo
      have hless := epass_less ps L ps.length
      have hm1 : setN wr mb = L := setN_of hN.2
      have HHH := Lib.hid (⟨hless, hgo2, hm1, hf⟩ : _ ∧ _ ∧ _ ∧ _)
      have q0 := (HBQ.out.keep hN.1 (by simp [HQM.out.1])).cell 0
      have g0 := (HBF.out.keep hN.1 (by simp [HQM.out.2])).cell 0
      have HT1 := Lib.hid (⟨hN, hBr⟩ : NAt w0 mb (epass ps 0 (L, false)).1 wr ∧ B wr)
      clear hless hgo2 hm1 hf hgo hN hBr
      obtain ⟨wo, rfl⟩ : ∃ wo : World, wo = wr := ⟨_, rfl⟩
      gi_wp2
      clear g0 q0
      gi_loopw [3, 13] (fun mv i wr => ∃ k : Nat, k ≤ ps.length ∧ i = .int .i64 k ∧ mv = .bool (epass ps k (L, false)).2 ∧ NAt w0 mb (epass ps k (L, false)).1 wr ∧ B wr) (fun _ i _ => ps.length - (intOf i).toNat)
      case atStart => exact ⟨0, by omega, rfl, rfl, HT1.out.1, HT1.out.2⟩
      case round =>
        clear HT1
        obtain ⟨k, hk, rfl, rfl, hN, hBr⟩ := hrel
        by_cases hlt : k < ps.length
        · have hlt' : (k : Int) < (ps.length : Int) := by omega
          have HLT := Lib.hid hlt
          have HSU : Hid (epass ps (k + 1) (L, false) = estep ps (epass ps k (L, false)) k) := Lib.hid (epass_succ _ _ _)
          generalize epass ps k (L, false) = q at hN HSU
          obtain ⟨q1, q2⟩ := q
          obtain ⟨Kr, hS⟩ := hN
          have hP2 : Prods (mb :: S) wr (.slice A ps.length C) ps := SlOf.move HPP.out prodRow_stab (by omega) Kr (fun x hx => .inl (by simp at hx ⊢; simp [hx])) (fun x hx => .inl hx)
          obtain ⟨_, _, hv, _, hr⟩ := SlOf.at hP2
          simp only [Value.slice.injEq, true_and] at hv
          obtain ⟨rfl, rfl⟩ := hv
          obtain ⟨b, o, rfl, hb, hc⟩ := hr (by omega)
          obtain ⟨prow, hz, hcell, hR⟩ := hc k hlt
          have HST : Hid (estep ps (q1, q2) k = if (k : Int) ∈ q1 then (q1, q2) else if ps[k].a.any (onlyF q1) = true then (q1 ++ [(k : Int)], true) else (q1, q2)) := Lib.hid (by unfold estep; rw [List.getElem?_eq_getElem hlt]; rfl)
          obtain ⟨A2, C2, N2, F2, rfl, hR2, hR3⟩ := hR
          have e0 := hcell 0 (by omega)
          have e1 := hcell 1 (by omega)
          have e2 := hcell 2 (by omega)
          simp at e0 e1 e2
          generalize ps[k] = p at e0 e1 e2 hR2 hR3 HST
          have KB := (Keep.refl [] wr).alloc (.cells #[.slice A2 p.a.length C2, .int .i64 p.marks, .slice N2 p.nt.length F2] 41)
          have KB2 := Kr.trans (KB.mono (by simp))
          have BQr := HBQ.out.keep KB2 (by simp [HQM.out.1])
          have BFr := HBF.out.keep KB2 (by simp [HQM.out.2])
          have q0 := BQr.cell 0
          have g2 := BFr.cell 2
          have S2 := hS.keep KB (by simp)
          have hlook := set_look S2 (k : Int)
          have hB2 := HHB.out _ _ KB hBr
          clear hcell hc hr hz hP2
          by_cases hin : (k : Int) ∈ q1
          · have hdec : decide ((k : Int) ∈ q1) = true := by simp [hin]
            rw [hdec] at hlook
            have HFIN : Hid ((epass ps (k + 1) (L, false)).2 = q2 ∧ NAt w0 mb (epass ps (k + 1) (L, false)).1 (wr.alloc (.cells #[.slice A2 p.a.length C2, .int .i64 p.marks, .slice N2 p.nt.length F2] 41)) ∧ B (wr.alloc (.cells #[.slice A2 p.a.length C2, .int .i64 p.marks, .slice N2 p.nt.length F2] 41))) := Lib.hid (by
              rw [HSU.out, HST.out, if_pos hin]
              exact ⟨rfl, ⟨KB2, S2⟩, hB2⟩)
            clear hdec hin BQr BFr S2 hB2 hS Kr hBr hR2 hR3 KB KB2
            gi_wp2
            refine ⟨trivial, ?_⟩
            gi_wp2
            go_roundw
            case rel => exact ⟨k + 1, by have := HLT.out; omega, by go_num, by rw [HFIN.out.1], HFIN.out.2.1, HFIN.out.2.2⟩
            case measure => simp [intOf]; have := HLT.out; omega
          · have hdec : decide ((k : Int) ∈ q1) = false := by simp [hin]
            rw [hdec] at hlook
            have hp : PredM p.a (mb :: S) (wr.alloc (.cells #[.slice A2 p.a.length C2, .int .i64 p.marks, .slice N2 p.nt.length F2] 41)) 39 (.pointer (some ⟨fb, 0, none⟩)) (onlyF q1) :=
              ⟨fun _ _ => by kernel_rfl, fun a _ row w' Kw h => by
                obtain ⟨A3, C3, rfl, h3⟩ := h
                exact only_any fb mb _ K ps.length _ m D q1 (mb :: S) a A3 C3 w' ⟨BFr.keep Kw (by simp), S2.keep Kw (by simp), HQM.out.2⟩ h3⟩
            have hcall := altContainsM_any (mb :: S) (.slice A2 p.a.length C2) p.a _ _ _ _ (SlOf.move hR2 altRow_stab (by omega) KB (by simp) (fun x hx => .inl hx)) hp
            have HC2 := Lib.hid hcall
            have HIN := Lib.hid (⟨hin, KB2, S2, hB2⟩ : _ ∧ _ ∧ _ ∧ _)
            have hmf : ∀ (fn : Fn) (first cap : Array Value) (w : World), (Instr.makeFunc fn first cap).run Tryz.prog w = .ok (.func fn first cap) w := fun _ _ _ _ => rfl
            clear hcall hp hdec hin BQr BFr S2 hB2 hS Kr hBr hR2 hR3 KB KB2
            gi_wp2_with fail
            refine ⟨trivial, (callsIn_wide.2 HC2.out).mono ?_⟩
            rintro e w5 ⟨rfl, K5⟩
            clear HC2 hlook q0 g2
            obtain ⟨hin, KB2, S2, hB2⟩ := HIN.out
            have K05 := KB2.trans (K5.mono (by simp))
            have S5 := S2.keep K5 (by simp)
            have hB5 := HHB.out _ _ K5 hB2
            clear HIN
            cases hany : p.a.any (onlyF q1) with
            | false =>
              have HFIN : Hid ((epass ps (k + 1) (L, false)).2 = q2 ∧ NAt w0 mb (epass ps (k + 1) (L, false)).1 w5 ∧ B w5) := Lib.hid (by
                rw [HSU.out, HST.out, if_neg hin, if_neg (by simp [hany])]
                exact ⟨rfl, ⟨K05, S5⟩, hB5⟩)
              clear hany hin KB2 S2 hB2 K05 S5 hB5 K5 hmf
              gi_wp2
              go_roundw
              case rel => exact ⟨k + 1, by have := HLT.out; omega, by go_num, by rw [HFIN.out.1], HFIN.out.2.1, HFIN.out.2.2⟩
              case measure => simp [intOf]; have := HLT.out; omega
            | true =>
              have hst : epass ps (k + 1) (L, false) = (q1 ++ [(k : Int)], true) := by rw [HSU.out, HST.out, if_neg hin, if_pos hany]
              obtain ⟨fn, tmps, assign, body, hy, hRd⟩ := HHY.out q1 k w5 ⟨K05, S5⟩ hB5 HLT.out hin
              have HRD := Lib.hid hRd
              have HSTT := Lib.hid hst
              clear hst hRd hany hin KB2 S2 hB2 K05 S5 hB5 K5 hmf
              gi_wp2
              refine HRD.out.mono ?_
              rintro e W3 ⟨rfl, hN3, hB3⟩
              have HFIN : Hid ((epass ps (k + 1) (L, false)).2 = true ∧ NAt w0 mb (epass ps (k + 1) (L, false)).1 W3 ∧ B W3) := Lib.hid (by rw [HSTT.out]; exact ⟨rfl, hN3, hB3⟩)
              clear hN3 hB3 HRD hy HSTT
              gi_wp2
              go_roundw
              case rel => exact ⟨k + 1, by have := HLT.out; omega, by go_num, by rw [HFIN.out.1], HFIN.out.2.1, HFIN.out.2.2⟩
              case measure => simp [intOf]; have := HLT.out; omega
        · obtain rfl : k = ps.length := by omega
          obtain ⟨hless, hgo, hm1, hf⟩ := HHH.out
          have HFIN : Hid (NAt w0 mb (epass ps ps.length (L, false)).1 wr ∧ B wr ∧ setN wr mb = (epass ps ps.length (L, false)).1) := Lib.hid ⟨hN, hBr, setN_of hN.2⟩
          clear hN hBr
          gi_wp2
          case roundEnd =>
            rw [HFIN.out.2.2, hm1]
            generalize epass ps ps.length (L, false) = q at hless hgo HFIN ⊢
            obtain ⟨q1, q2⟩ := q
            simp only at hless hgo HFIN ⊢
            cases q2 with
            | true =>
              rw [if_pos rfl] at hgo
              have hl : falses (bl ps.length q1) < falses (bl ps.length L) := by
                rcases hless with ⟨h, _⟩ | ⟨_, h⟩
                · cases h
                · exact h
              exact ⟨⟨f, q1, true, rfl, fun _ => ⟨hgo, by omega⟩, fun h => absurd h (by simp), HFIN.out.1, HFIN.out.2.1⟩, by simp only; omega⟩
            | false =>
              rw [if_neg (by simp)] at hgo
              have hl : q1 = L := by
                rcases hless with ⟨_, h⟩ | ⟨h, _⟩
                · exact h
                · cases h
              exact ⟨⟨f, q1, false, rfl, fun h => absurd h (by simp), fun _ => hgo, HFIN.out.1, HFIN.out.2.1⟩, by rw [hl]; simp⟩
end Go.Proofs.YtbpidoiellcccaaGreatDoor
