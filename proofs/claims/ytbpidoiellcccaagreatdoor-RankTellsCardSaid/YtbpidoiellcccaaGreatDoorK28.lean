/- The references' words: whether ranges, symbols, nonterminals may be. -/
import Derived.Test.YtbpidoiellcccaaGreatDoorK15
import Derived.Deep.RegionHeld3
set_option linter.unusedVariables false
set_option linter.unusedSimpArgs false
namespace Go.Proofs.YtbpidoiellcccaaGreatDoor
open Go Go.RowKit

theorem rmay_bad {l : List Rng} {k : Nat} (hk : k < l.length) (h : badAt l k = true) : rmay l = false := by
  simp only [rmay, Bool.not_eq_false', List.any_eq_true, List.mem_range]
  exact ⟨k, hk, h⟩
theorem rmay_good {l : List Rng} (h : ∀ j, j < l.length → badAt l j = false) : rmay l = true := by
  simp only [rmay, Bool.not_eq_true', List.any_eq_false, List.mem_range]
  intro j hj
  simp [h j hj]
set_option maxRecDepth 20000 in
set_option maxHeartbeats 4000000 in
theorem rmay2_any (S : List Nat) (A : Option Addr) (n C : Nat) (l : List Rng) (w : World) (H : Rngs S w (.slice A n C) l) :
    Calls Tryz.prog 50 #[.slice A n C] w fun e w' => e = .returned (.bool (rmay l)) ∧ Keep [] w w' := by
  obtain ⟨rfl, hm, _⟩ := Rngs.len H
  have HH := Lib.hid H
  clear H
  go_enter Tryz.func50, Tryz.ntmps50
  go_wp2
  go_loopw [3] (fun i wr => ∃ k : Nat, k ≤ l.length ∧ i = .int .i64 k ∧ Hid (∀ j, j < k → badAt l j = false) ∧ Keep [] w wr) (fun i _ => l.length - (intOf i).toNat)
  case atStart => exact ⟨0, by omega, rfl, Lib.hid (fun j hj => by omega), Keep.refl _ _⟩
  case round =>
    obtain ⟨k, hk, rfl, hn, Kr⟩ := hrel
    by_cases hlt : k < l.length
    · have hlt' : (k : Int) < (l.length : Int) := by omega
      have HLT := Lib.hid hlt
      obtain ⟨b, o, rfl, _, e0, e1⟩ := Rngs.pick (HH.out.mv0 Kr) k hlt
      have hbk : badAt l k = (decide (l[k].lo < 0) || decide (l[k].hi < l[k].lo) || decide (1114111 < l[k].hi) || (decide (0 < k) && decide (l[k].lo - 1 ≤ (rngAt l (k - 1)).hi))) := by
        have hat : rngAt l k = l[k] := by simp [rngAt, hlt] <;> rfl
        rw [badAt, hat] <;> rfl
      have HP : Hid (0 < k → wr.cell? ⟨b, o + (k - 1) * 2 + 1, none⟩ = some (.int .i64 (rngAt l (k - 1)).hi) ∧ (rngAt l (k - 1)).hi ≤ 1114111 ∧ 0 ≤ (rngAt l (k - 1)).hi) := Lib.hid (fun h0 => by
        obtain ⟨b', o', he, _, _, e⟩ := Rngs.pick (HH.out.mv0 Kr) (k - 1) (by omega)
        simp only [Option.some.injEq, Addr.mk.injEq, and_true] at he
        obtain ⟨rfl, rfl⟩ := he
        have hg := hn.out (k - 1) (by omega)
        simp only [badAt, Bool.or_eq_false_iff, decide_eq_false_iff_not] at hg
        refine ⟨by simpa [rngAt, show k - 1 < l.length by omega] using e, by omega, by omega⟩)
      generalize l[k].lo = lo at e0 hbk
      generalize l[k].hi = hi at e1 hbk
      have HBK := Lib.hid hbk
      clear hbk
      by_cases h1 : hi < lo
      · have hF : rmay l = false := rmay_bad hlt (by rw [HBK.out]; simp [h1])
        have hd : decide (hi < lo) = true := by simpa using h1
        have HF := Lib.hid hF
        clear hn HP HBK hF
        go_wp2
        go_quiet (fail)
        go_wp2
        go_ret
        exact ⟨by rw [HF.out]; rfl, Kr.drewN _⟩
      · have hd1 : decide (hi < lo) = false := by simpa using h1
        by_cases h2 : lo < 0
        · have hF : rmay l = false := rmay_bad hlt (by rw [HBK.out]; simp [h2])
          have hd : decide (lo < 0) = true := by simpa using h2
          have HF := Lib.hid hF
          clear hn HP HBK hF h1
          go_wp2
          go_quiet (fail)
          go_wp2
          go_ret
          exact ⟨by rw [HF.out]; rfl, Kr.drewN _⟩
        · have hd2 : decide (lo < 0) = false := by simpa using h2
          by_cases h3 : 1114111 < hi
          · have hF : rmay l = false := rmay_bad hlt (by rw [HBK.out]; simp [h3])
            have hd : decide (1114111 < hi) = true := by simpa using h3
            have HF := Lib.hid hF
            clear hn HP HBK hF h1 h2
            go_wp2
            go_quiet (fail)
            go_wp2
            go_ret
            exact ⟨by rw [HF.out]; rfl, Kr.drewN _⟩
          · have hd3 : decide (1114111 < hi) = false := by simpa using h3
            by_cases h4 : 0 < k
            · obtain ⟨m, rfl⟩ : ∃ m, k = m + 1 := ⟨k - 1, by omega⟩
              obtain ⟨e2, hq1, hq2⟩ := HP.out h4
              rw [show m + 1 - 1 = m by omega] at e2 hq1 hq2
              generalize hqq : (rngAt l m).hi = q at e2 hq1 hq2
              have HQQ := Lib.hid hqq
              have hd4 : decide ((0 : Int) < ((m + 1 : Nat) : Int)) = true := by simp
              have hw1 : IntKind.i64.wrap (q + 2) = q + 2 := IntWalk.i64_in _ (by omega)
              have hw2 : IntKind.i64.wrap ((m : Int) + 1 - 1) = (m : Int) := by rw [show (m : Int) + 1 - 1 = m by omega]; exact IntWalk.i64_in _ (by omega)
              have hw3 : IntKind.i64.wrap (m : Int) = (m : Int) := IntWalk.i64_in _ (by omega)
              have hk1 : (0 : Int) ≤ (m : Int) := by omega
              have hk2 : (m : Int) < (l.length : Int) := by omega
              clear hqq
              by_cases h5 : lo < q + 2
              · have hF : rmay l = false := rmay_bad hlt (by rw [HBK.out]; rw [show m + 1 - 1 = m by omega, HQQ.out]; simp; omega)
                have hd5 : decide (lo < q + 2) = true := by simpa using h5
                have HF := Lib.hid hF
                clear hn HP HBK hF h1 h2 h3
                go_wp2
                go_quiet (fail)
                go_wp2
                go_ret
                exact ⟨by rw [HF.out]; rfl, Kr.drewN _⟩
              · have hd5 : decide (lo < q + 2) = false := by simpa using h5
                have hb : badAt l (m + 1) = false := by rw [HBK.out]; rw [show m + 1 - 1 = m by omega, HQQ.out]; simp; omega
                have hn2 : Hid (∀ j, j < m + 1 + 1 → badAt l j = false) := Lib.hid (fun j hj => by
                  by_cases e : j = m + 1
                  · rw [e]; exact hb
                  · exact hn.out j (by omega))
                clear hn HP HBK hb h1 h2 h3 h5
                go_wp2
                go_quiet (fail)
                go_wp2
                go_roundw
                case rel => exact ⟨m + 1 + 1, by have := HLT.out; omega, by go_num, hn2, Kr.drewN _⟩
                case measure => simp [intOf]; have := HLT.out; omega
            · have hd4 : decide ((0 : Int) < (k : Int)) = false := by simp; omega
              have hd4' : decide (0 < k) = false := by simp; omega
              have hb : badAt l k = false := by rw [HBK.out]; simp; omega
              have hn2 : Hid (∀ j, j < k + 1 → badAt l j = false) := Lib.hid (fun j hj => by
                obtain rfl : j = k := by omega
                exact hb)
              clear hn HP HBK hb h1 h2 h3 h4
              go_wp2
              go_quiet (fail)
              go_wp2
              go_roundw
              case rel => exact ⟨k + 1, by have := HLT.out; omega, by go_num, hn2, Kr.drewN _⟩
              case measure => simp [intOf]; have := HLT.out; omega
    · obtain rfl : k = l.length := by omega
      have hF : rmay l = true := rmay_good hn.out
      have HF := Lib.hid hF
      clear hF hn
      go_wp2
      go_ret
      exact ⟨by rw [HF.out]; rfl, Kr⟩
end Go.Proofs.YtbpidoiellcccaaGreatDoor
namespace Go.Proofs.YtbpidoiellcccaaGreatDoor
open Go Go.RowKit

set_option maxRecDepth 20000 in
set_option maxHeartbeats 4000000 in
theorem sym8_any (S : List Nat) (s : SymS) (row : Array Value) (many : Nat) (w : World) (H : SymRow S w s row) :
    Calls Tryz.prog 51 #[.agg row, .int .i64 many] w fun e w' => e = .returned (.bool (!symBad many s)) ∧ Keep [] w w' := by
  obtain ⟨A, C, rfl, hR⟩ := H
  obtain ⟨sk, sr, sn⟩ := s
  simp only at hR ⊢
  have K0 := (Keep.refl [] w).alloc (.cells #[.int .i64 sk, .slice A sr.length C, .int .i64 sn] 43)
  have B0 := Blk.new w #[.int .i64 sk, .slice A sr.length C, .int .i64 sn] 43
  have hR0 := hR.mv0 K0
  have hlen := (Rngs.len hR).2.1
  obtain ⟨r, hr⟩ : ∃ r, r = !symBad many ⟨sk, sr, sn⟩ := ⟨_, rfl⟩
  rw [← hr]
  have HRES := Lib.hid hr
  clear hR hr
  go_enter Tryz.func51, Tryz.ntmps51
  go_wp2_with fail
  refine (rmay2_any S A sr.length C sr _ hR0).mono ?_
  rintro e w1 ⟨rfl, K1⟩
  have B1 := B0.keep K1 (by simp)
  have b1 := B1.cell
  have hR1 := Lib.hid (hR0.mv0 K1)
  have HK := Lib.hid (K0.trans K1)
  clear hR0 B0 K0 K1
  by_cases h2 : sk = 2
  · subst h2
    by_cases h3 : 0 ≤ sn
    · by_cases h4 : sn < many
      · have hd4 : decide (sn < (many : Int)) = true := by simpa using h4
        cases h5 : ((sr.length : Int) == 0) with
        | true =>
          have hF : r = true := by rw [HRES.out]; simp at h5; simp [symBad, h5]; omega
          have HF := Lib.hid hF
          clear hF
          go_wp2
          go_ret
          exact ⟨by rw [HF.out]; rfl, HK.out⟩
        | false =>
          have h6 : 0 < sr.length := by have := beq_eq_false_iff_ne.1 h5; omega
          have hF : r = false := by rw [HRES.out]; simp [symBad, h6]
          have HF := Lib.hid hF
          clear hF
          go_wp2
          go_ret
          exact ⟨by rw [HF.out]; rfl, HK.out⟩
      · have hF : r = false := by rw [HRES.out]; simp [symBad]; intro _ _; omega
        have hd4 : decide (sn < (many : Int)) = false := by simpa using h4
        have HF := Lib.hid hF
        clear hF h4
        go_wp2
        go_ret
        exact ⟨by rw [HF.out]; rfl, HK.out⟩
    · have hF : r = false := by rw [HRES.out]; simp [symBad]; intro _ _; omega
      have hd3 : decide (0 ≤ sn) = false := by simpa using h3
      have HF := Lib.hid hF
      clear hF h3
      go_wp2
      go_ret
      exact ⟨by rw [HF.out]; rfl, HK.out⟩
  · have h2b : (sk == 2) = false := by simpa using h2
    cases h0 : (sk == 0) with
    | true =>
      obtain rfl : sk = 0 := by simpa using h0
      clear h2 h0 h2b
      go_wp2
      go_loop [6] (fun i => ∃ k : Nat, k ≤ sr.length ∧ i = .int .i64 k ∧ Hid (∀ j (h : j < sr.length), j < k → sr[j].hi ≤ 255)) (fun i => sr.length - (intOf i).toNat)
      case atStart => exact ⟨0, by omega, rfl, Lib.hid (fun j h h' => by omega)⟩
      case round =>
        obtain ⟨k, hk, rfl, hn⟩ := hrel
        by_cases hlt : k < sr.length
        · have hlt' : (k : Int) < (sr.length : Int) := by omega
          have HLT := Lib.hid hlt
          obtain ⟨b, o, rfl, _, e0, e1⟩ := Rngs.pick hR1.out k hlt
          by_cases hh : 255 < sr[k].hi
          · have hF : r = false := by
              rw [HRES.out]
              have : sr.any (fun x => decide (255 < x.hi)) = true := List.any_eq_true.2 ⟨sr[k], List.getElem_mem _, by simpa using hh⟩
              simp [symBad, setR, this]
            have hd : decide (255 < sr[k].hi) = true := by simpa using hh
            generalize sr[k].hi = hi at e1 hd hh
            have HF := Lib.hid hF
            clear hF hn
            go_wp2
            go_ret
            exact ⟨by rw [HF.out]; rfl, HK.out⟩
          · have hn2 : Hid (∀ j (h : j < sr.length), j < k + 1 → sr[j].hi ≤ 255) := Lib.hid (fun j h h' => by
              by_cases e : j = k
              · subst e; omega
              · exact hn.out j h (by omega))
            have hd : decide (255 < sr[k].hi) = false := by simpa using hh
            generalize sr[k].hi = hi at e1 hd hh
            clear hn
            go_wp2
            go_round
            case rel => exact ⟨k + 1, by have := HLT.out; omega, by go_num, hn2⟩
            case measure => simp [intOf]; have := HLT.out; omega
        · obtain rfl : k = sr.length := by omega
          have hany : sr.any (fun x => decide (255 < x.hi)) = false := by
            rw [List.any_eq_false]
            intro x hx
            obtain ⟨j, hj, rfl⟩ := List.getElem_of_mem hx
            have := hn.out j hj hj
            simp; omega
          have hF : r = (rmay sr && (sn == 0)) := by
            rw [HRES.out]
            simp only [symBad, setR, beq_self_eq_true, Bool.true_and, hany, Bool.not_false, Bool.and_true]
            simp [Bool.and_comm]
          have HF := Lib.hid hF
          clear hF hn hany
          generalize rmay sr = q at HF ⊢
          cases h5 : (sn == 0) with
          | true =>
            cases q
            all_goals
              go_wp2
              go_ret
              exact ⟨by rw [HF.out, h5]; rfl, HK.out⟩
          | false =>
            cases q
            all_goals
              go_wp2
              go_ret
              exact ⟨by rw [HF.out, h5]; rfl, HK.out⟩
    | false =>
      clear h2
      go_wp2
      go_loop [6] (fun i => ∃ k : Nat, k ≤ sr.length ∧ i = .int .i64 k) (fun i => sr.length - (intOf i).toNat)
      case atStart => exact ⟨0, by omega, rfl⟩
      case round =>
        obtain ⟨k, hk, rfl⟩ := hrel
        by_cases hlt : k < sr.length
        · have hlt' : (k : Int) < (sr.length : Int) := by omega
          have HLT := Lib.hid hlt
          go_wp2
          go_round
          case rel => exact ⟨k + 1, by have := HLT.out; omega, by go_num⟩
          case measure => simp [intOf]; have := HLT.out; omega
        · obtain rfl : k = sr.length := by omega
          have hF : r = ((sk == 1) && (rmay sr && (sn == 0))) := by
            rw [HRES.out]
            have hn2 : ¬sk = 2 := by simpa using h2b
            have hn0 : ¬sk = 0 := by simpa using h0
            have hany : sr.any (fun r => sk == 0 && decide (255 < r.hi)) = false := by simp [h0]
            by_cases h1 : sk = 1
            · subst h1
              simp only [symBad, setR, hany]
              simp [Bool.and_comm]
            · simp [symBad, h1, hn2, hn0]
          have HF := Lib.hid hF
          clear hF
          generalize rmay sr = q at HF ⊢
          cases h1 : (sk == 1) with
          | true =>
            cases h5 : (sn == 0) <;> cases q
            all_goals
              go_wp2
              go_ret
              exact ⟨by rw [HF.out, h1, h5]; rfl, HK.out⟩
          | false =>
            go_wp2
            go_ret
            exact ⟨by rw [HF.out, h1]; rfl, HK.out⟩
end Go.Proofs.YtbpidoiellcccaaGreatDoor
namespace Go.Proofs.YtbpidoiellcccaaGreatDoor
open Go Go.RowKit

theorem gmay_badP {ps : List ProdS} {k : Nat} (hk : k < ps.length) (h : prodBad ps.length ps[k] = true) : gmay ps = false := by
  have : ps.any (prodBad ps.length) = true := List.any_eq_true.2 ⟨_, List.getElem_mem hk, h⟩
  rw [gmay, this]; rfl
theorem altOdd_bad {n : Nat} {l : List SymS} {k : Nat} (hk : k < l.length) (h : symBad n l[k] = true) : altOdd n l = true := by
  have : l.any (symBad n) = true := List.any_eq_true.2 ⟨_, List.getElem_mem hk, h⟩
  rw [altOdd, this]; simp
theorem prodBad_alt {n : Nat} {p : ProdS} {k : Nat} (hk : k < p.a.length) (h : altOdd n p.a[k] = true) : prodBad n p = true := by
  have : p.a.any (altOdd n) = true := List.any_eq_true.2 ⟨_, List.getElem_mem hk, h⟩
  rw [prodBad, this]; simp
set_option maxRecDepth 20000 in
set_option maxHeartbeats 8000000 in
theorem may8_any (S : List Nat) (A K : Option Addr) (C m D : Nat) (ps : List ProdS) (w : World) (HP : Prods S w (.slice A ps.length C) ps) :
    Calls Tryz.prog 24 #[.agg #[.slice A ps.length C, .slice K m D]] w fun e w' => e = .returned (.bool (gmay ps)) ∧ Keep [] w w' := by
  have K0 := (Keep.refl [] w).alloc (.cells #[.slice A ps.length C, .slice K m D] 25)
  have HP0 := Lib.hid (HP.mv0 K0)
  have B0 := Blk.new w #[.slice A ps.length C, .slice K m D] 25
  have hlen := (SlOf.len HP).2.1
  obtain ⟨r, hr⟩ : ∃ r, r = gmay ps := ⟨_, rfl⟩
  rw [← hr]
  have HRES := Lib.hid hr
  obtain ⟨W0, hW0⟩ : ∃ W, W = w.alloc (.cells #[.slice A ps.length C, .slice K m D] 25) := ⟨_, rfl⟩
  rw [← hW0] at K0 HP0 B0
  have HW := Lib.hid hW0
  have HB := Lib.hid B0
  have HK0 := Lib.hid K0
  clear HP hr hW0 B0 K0
  go_enter Tryz.func24, Tryz.ntmps24
  go_wp2
  rw [← HW.out]
  go_loopw [3] (fun i wr => ∃ k : Nat, k ≤ ps.length ∧ i = .int .i64 k ∧ Hid (∀ j (h : j < ps.length), j < k → prodBad ps.length ps[j] = false) ∧ Keep [] W0 wr) (fun i _ => ps.length - (intOf i).toNat)
  case atStart => exact ⟨0, by omega, rfl, Lib.hid (fun j h h' => by omega), Keep.refl _ _⟩
  case round =>
    obtain ⟨k, hk, rfl, hn, Kr⟩ := hrel
    have Br := HB.out.keep Kr (by simp)
    have b0 := Br.cell 0
    by_cases hlt : k < ps.length
    · have hlt' : (k : Int) < (ps.length : Int) := by omega
      have HLT := Lib.hid hlt
      obtain ⟨bp, op, A2, C2, N2, F2, rfl, _, e0, e1, e2, hA, hN⟩ := (HP0.out.mv0 Kr).pick k hlt
      have HBAD := Lib.hid (fun (h : prodBad ps.length ps[k] = true) => (by rw [HRES.out]; exact gmay_badP hlt h : r = false))
      have HGO := Lib.hid (fun (h : prodBad ps.length ps[k] = false) => (fun j hj hjk => by
        by_cases e : j = k
        · subst e; exact h
        · exact hn.out j hj (by omega) : ∀ j (h : j < ps.length), j < k + 1 → prodBad ps.length ps[j] = false))
      have HRES' := HRES
      clear hn HRES
      generalize hp : ps[k] = p at e0 e1 e2 hA hN HBAD HGO
      clear hp
      obtain ⟨pa, pm, pn⟩ := p
      simp only at e0 e1 e2 hA hN
      have hal := (SlOf.len hA).2.1
      have K1 := (Keep.refl [] wr).alloc (.cells #[.slice A2 pa.length C2, .int .i64 pm, .slice N2 pn.length F2] 41)
      have B1 := Blk.new wr #[.slice A2 pa.length C2, .int .i64 pm, .slice N2 pn.length F2] 41
      have hcall := rmay2_any S N2 pn.length F2 pn _ (hN.mv0 K1)
      have HC := Lib.hid hcall
      have HA := Lib.hid (hA.mv0 K1)
      have HKr := Lib.hid Kr
      have hsz : w.heap.size < wr.heap.size := Br.lt
      clear hcall hA hN Kr
      go_wp2_with fail
      refine HC.out.mono ?_
      rintro e w2 ⟨rfl, K2⟩
      have B2 := B1.keep K2 (by simp)
      have c2 := B2.cell
      have K02 := K1.trans K2
      have hA2 := HA.out.mv0 K2
      have g0 := (Br.keep K02 (by simp)).cell 0
      have HBr := Lib.hid Br
      have HK02 := Lib.hid (HKr.out.trans K02)
      clear HC HA B1 K1 b0 e0 e1 e2 Br K02 K2
      by_cases h1 : rmay pn = true
      · rw [h1]
        by_cases h2 : pa.length = 0
        · have hF := HBAD.out (by simp [prodBad, h2])
          have HF := Lib.hid hF
          have h2' : decide ((pa.length : Int) < 1) = true := by simp; omega
          clear hF HGO
          go_wp2
          go_ret
          exact ⟨by rw [HF.out]; rfl, HK0.out.trans HK02.out⟩
        · have h2' : decide ((pa.length : Int) < 1) = false := decide_eq_false (by omega)
          have h2'' : decide (pa.length < 1) = false := decide_eq_false (by omega)
          by_cases h3 : 8 < pa.length
          · have hF := HBAD.out (by simp [prodBad, h3])
            have HF := Lib.hid hF
            have h3' : (8 : Int) < (pa.length : Int) := by omega
            clear hF HGO
            go_wp2
            go_ret
            exact ⟨by rw [HF.out]; rfl, HK0.out.trans HK02.out⟩
          · have h3' : (pa.length : Int) ≤ 8 := by omega
            have h3b : decide ((8 : Int) < (pa.length : Int)) = false := decide_eq_false (by omega)
            by_cases h4 : pm < 0
            · have hF := HBAD.out (by simp [prodBad, h4])
              have HF := Lib.hid hF
              clear hF HGO
              go_wp2
              go_ret
              exact ⟨by rw [HF.out]; rfl, HK0.out.trans HK02.out⟩
            · have h4b : decide (pm < 0) = false := decide_eq_false h4
              by_cases h5 : 63 < pm
              · have hF := HBAD.out (by simp [prodBad, h5])
                have HF := Lib.hid hF
                have h4c : 0 ≤ pm := by omega
                clear hF HGO h4
                go_wp2
                go_ret
                exact ⟨by rw [HF.out]; rfl, HK0.out.trans HK02.out⟩
              · have h5b : decide (63 < pm) = false := decide_eq_false h5
                have HPB : Hid (prodBad ps.length ⟨pa, pm, pn⟩ = pa.any (altOdd ps.length)) := Lib.hid (by simp [prodBad, h1, h2, h3, h4, h5])
                have h4c : 0 ≤ pm := by omega
                have h5c : pm ≤ 63 := by omega
                have HA2 := Lib.hid hA2
                have HB2 := Lib.hid B2
                have HG0 := Lib.hid g0
                clear h2 h3 h4 h5 hA2 B2 h1
                go_wp2
                clear c2 g0
                obtain ⟨wo, rfl⟩ : ∃ wo : World, wo = wr := ⟨_, rfl⟩
                go_loopw [6] (fun i wr => ∃ q : Nat, q ≤ pa.length ∧ i = .int .i64 q ∧ Hid (∀ j (h : j < pa.length), j < q → altOdd ps.length pa[j] = false) ∧ Keep [] w2 wr) (fun i _ => pa.length - (intOf i).toNat)
                case atStart => exact ⟨0, by omega, rfl, Lib.hid (fun j h h' => by omega), Keep.refl _ _⟩
                case round =>
                  obtain ⟨q, hq, rfl, hqn, Kq⟩ := hrel
                  have c2 := (HB2.out.keep Kq (by simp)).cell
                  by_cases hql : q < pa.length
                  · have hql' : (q : Int) < (pa.length : Int) := by omega
                    have HQL := Lib.hid hql
                    obtain ⟨b2, o2, A3, C3, rfl, _, f0, hS⟩ := Alts.pick (HA2.out.mv0 Kq) q hql
                    have HABAD := Lib.hid (fun (h : altOdd ps.length pa[q] = true) => HBAD.out (prodBad_alt hql h))
                    have HAGO := Lib.hid (fun (h : altOdd ps.length pa[q] = false) => (fun j hj hjk => by
                      by_cases e : j = q
                      · subst e; exact h
                      · exact hqn.out j hj (by omega) : ∀ j (h : j < pa.length), j < q + 1 → altOdd ps.length pa[j] = false))
                    generalize pa[q] = al at f0 hS HABAD HAGO
                    have hll := (SlOf.len hS).2.1
                    have HKq := Lib.hid Kq
                    have HSS := Lib.hid hS
                    have HF0 := Lib.hid f0
                    clear hqn hS Kq
                    by_cases h6 : 40 < al.length
                    · have hF := HABAD.out (by simp [altOdd, h6])
                      have HF := Lib.hid hF
                      have h6' : (40 : Int) < (al.length : Int) := by omega
                      clear hF HGO HAGO
                      go_wp2
                      go_ret
                      exact ⟨by rw [HF.out]; rfl, HK0.out.trans (HK02.out.trans HKq.out)⟩
                    · have h6' : (al.length : Int) ≤ 40 := by omega
                      have HAO : Hid (altOdd ps.length al = al.any (symBad ps.length)) := Lib.hid (by simp [altOdd, h6])
                      clear h6
                      go_wp2
                      clear c2 f0
                      obtain ⟨wp, rfl⟩ : ∃ wp : World, wp = wr := ⟨_, rfl⟩
                      go_loopw [7] (fun i wr => ∃ t : Nat, t ≤ al.length ∧ i = .int .i64 t ∧ Hid (∀ j (h : j < al.length), j < t → symBad ps.length al[j] = false) ∧ Keep [] wp wr) (fun i _ => al.length - (intOf i).toNat)
                      case atStart => exact ⟨0, by omega, rfl, Lib.hid (fun j h h' => by omega), Keep.refl _ _⟩
                      case round =>
                        obtain ⟨t, ht, rfl, htn, Kt⟩ := hrel
                        have c2 := (HB2.out.keep (HKq.out.trans Kt) (by simp)).cell
                        have f0 := Keep.cell (T := []) Kt HF0.out (by simp)
                        by_cases htl : t < al.length
                        · have htl' : (t : Int) < (al.length : Int) := by omega
                          have HTL := Lib.hid htl
                          obtain ⟨b3, o3, A4, C4, rfl, _, s0, s1, s2, hR⟩ := Syms.pick (HSS.out.mv0 Kt) t htl
                          have HSBAD := Lib.hid (fun (h : symBad ps.length al[t] = true) => HABAD.out (altOdd_bad htl h))
                          have HSGO := Lib.hid (fun (h : symBad ps.length al[t] = false) => (fun j hj hjk => by
                            by_cases e : j = t
                            · subst e; exact h
                            · exact htn.out j hj (by omega) : ∀ j (h : j < al.length), j < t + 1 → symBad ps.length al[j] = false))
                          generalize al[t] = sy at s0 s1 s2 hR HSBAD HSGO
                          obtain ⟨sk, sr, sn⟩ := sy
                          simp only at s0 s1 s2 hR
                          have hcs : ∀ w', Keep [] wr w' → Calls Tryz.prog 51 #[.agg #[.int .i64 sk, .slice A4 sr.length C4, .int .i64 sn], .int .i64 ps.length] w' fun e w'' => e = .returned (.bool (!symBad ps.length ⟨sk, sr, sn⟩)) ∧ Keep [] wr w'' := fun w' K' =>
                            (sym8_any S ⟨sk, sr, sn⟩ _ ps.length w' ⟨A4, C4, rfl, hR.mv0 K'⟩).mono fun e w'' ⟨h1, h2⟩ => ⟨h1, K'.trans h2⟩
                          have gg := Keep.cell (T := []) (HKq.out.trans Kt) HG0.out (by simp)
                          have cc := (HB2.out.keep (HKq.out.trans Kt) (by simp)).cell 0
                          have hkp : ∀ w', Keep [] wr w' → w'.cell? ⟨wo.heap.size, 0, none⟩ = some (.slice (some ⟨b2, o2, none⟩) pa.length C2) ∧ w'.cell? ⟨b2, o2 + q, none⟩ = some (.slice (some ⟨b3, o3, none⟩) al.length C3) ∧
                              w'.cell? ⟨b3, o3 + t * 3, none⟩ = some (.int .i64 sk) ∧ w'.cell? ⟨b3, o3 + t * 3 + 1, none⟩ = some (.slice A4 sr.length C4) ∧ w'.cell? ⟨b3, o3 + t * 3 + 2, none⟩ = some (.int .i64 sn) ∧ w'.cell? ⟨w.heap.size, 0, none⟩ = some (.slice (some ⟨bp, op, none⟩) ps.length C) :=
                            fun w' K' => ⟨Keep.cell (T := []) K' cc (by simp), Keep.cell (T := []) K' f0 (by simp), Keep.cell (T := []) K' s0 (by simp), Keep.cell (T := []) K' s1 (by simp), Keep.cell (T := []) K' s2 (by simp), Keep.cell (T := []) K' gg (by simp)⟩
                          have HKP := Lib.hid hkp
                          have HCS := Lib.hid hcs
                          have HKt := Lib.hid Kt
                          have Kd := (Keep.refl [] wr).drew
                          clear htn hcs hkp gg cc s0 s1 s2 hR Kt
                          go_wp2
                          first
                            | (go_region_held3 (fun w' => w'.cell? ⟨wo.heap.size, 0, none⟩ = some (.slice (some ⟨b2, o2, none⟩) pa.length C2) ∧ w'.cell? ⟨b2, o2 + q, none⟩ = some (.slice (some ⟨b3, o3, none⟩) al.length C3) ∧
                                w'.cell? ⟨b3, o3 + t * 3, none⟩ = some (.int .i64 sk) ∧ w'.cell? ⟨b3, o3 + t * 3 + 1, none⟩ = some (.slice A4 sr.length C4) ∧ w'.cell? ⟨b3, o3 + t * 3 + 2, none⟩ = some (.int .i64 sn) ∧ w'.cell? ⟨w.heap.size, 0, none⟩ = some (.slice (some ⟨bp, op, none⟩) ps.length C))
                                (exact HKP.out _ (by assumption)) ((go_at_call 51; refine (HCS.out _ (by assumption)).mono ?_; rintro e w' ⟨rfl, K'⟩)))
                            | fail
                          cases hsb : symBad ps.length ⟨sk, sr, sn⟩ with
                          | true =>
                            have HF := Lib.hid (HSBAD.out hsb)
                            have HKF := Lib.hid (HK0.out.trans (HK02.out.trans (HKq.out.trans (HKt.out.trans ‹Keep [] wr w'›))))
                            clear hsb HSGO HSBAD
                            go_wp2
                            go_ret
                            exact ⟨by rw [HF.out]; rfl, HKF.out⟩
                          | false =>
                            have HN := Lib.hid (HSGO.out hsb)
                            have HKF := Lib.hid (HKt.out.trans ‹Keep [] wr w'›)
                            clear hsb HSGO HSBAD
                            go_wp2
                            go_roundw
                            case rel => exact ⟨t + 1, by have := HTL.out; omega, by go_num, Lib.hid HN.out, HKF.out⟩
                            case measure => simp [intOf]; have := HTL.out; omega
                        · obtain rfl : t = al.length := by omega
                          have hao : altOdd ps.length al = false := by
                            rw [HAO.out, List.any_eq_false]
                            intro x hx
                            obtain ⟨j, hj, rfl⟩ := List.getElem_of_mem hx
                            rw [htn.out j hj hj]; simp
                          have HN := Lib.hid (HAGO.out hao)
                          have HKF := Lib.hid (HKq.out.trans Kt)
                          clear hao htn HAGO HABAD
                          go_wp2
                          go_roundw
                          case rel => exact ⟨q + 1, by have := HQL.out; omega, by go_num, Lib.hid HN.out, HKF.out⟩
                          case measure => simp [intOf]; have := HQL.out; omega
                  · obtain rfl : q = pa.length := by omega
                    have hpb : prodBad ps.length ⟨pa, pm, pn⟩ = false := by
                      rw [HPB.out, List.any_eq_false]
                      intro x hx
                      obtain ⟨j, hj, rfl⟩ := List.getElem_of_mem hx
                      rw [hqn.out j hj hj]; simp
                    have HN := Lib.hid (HGO.out hpb)
                    have HKF := Lib.hid (HK02.out.trans Kq)
                    clear hpb hqn HGO HBAD
                    go_wp2
                    go_roundw
                    case rel => exact ⟨k + 1, by have := HLT.out; omega, by go_num, Lib.hid HN.out, HKF.out⟩
                    case measure => simp [intOf]; have := HLT.out; omega
      · have h1b : rmay pn = false := by simpa using h1
        have hF := HBAD.out (by simp [prodBad, h1b])
        have HF := Lib.hid hF
        rw [h1b]
        clear hF h1 h1b HGO
        go_wp2
        go_ret
        exact ⟨by rw [HF.out]; rfl, HK0.out.trans HK02.out⟩
    · obtain rfl : k = ps.length := by omega
      have hany : ps.any (prodBad ps.length) = false := by
        rw [List.any_eq_false]
        intro x hx
        obtain ⟨j, hj, rfl⟩ := List.getElem_of_mem hx
        rw [hn.out j hj hj]; simp
      by_cases h0 : 1 ≤ ps.length
      · have h0' : (1 : Int) ≤ (ps.length : Int) := by omega
        by_cases h6 : ps.length ≤ 60
        · have hF : r = true := by rw [HRES.out, gmay, hany]; simp; omega
          have HF := Lib.hid hF
          have h6' : (ps.length : Int) ≤ 60 := by omega
          clear hF hany hn
          go_wp2
          go_ret
          exact ⟨by rw [HF.out]; rfl, HK0.out.trans Kr⟩
        · have hF : r = false := by rw [HRES.out, gmay, hany]; simp; omega
          have HF := Lib.hid hF
          have h6' : decide ((ps.length : Int) ≤ 60) = false := decide_eq_false (by omega)
          clear hF hany hn
          go_wp2
          go_ret
          exact ⟨by rw [HF.out]; rfl, HK0.out.trans Kr⟩
      · have hF : r = false := by rw [HRES.out, gmay, hany]; simp; omega
        have HF := Lib.hid hF
        have h0' : decide ((1 : Int) ≤ (ps.length : Int)) = false := decide_eq_false (by omega)
        clear hF hany hn
        go_wp2
        go_ret
        exact ⟨by rw [HF.out]; rfl, HK0.out.trans Kr⟩
end Go.Proofs.YtbpidoiellcccaaGreatDoor
