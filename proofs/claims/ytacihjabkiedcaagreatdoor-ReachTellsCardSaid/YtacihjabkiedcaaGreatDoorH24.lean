/- By whom one may begin: the walk of null.Lefts. -/
import Derived.Test.YtacihjabkiedcaaGreatDoorH21
import Derived.Test.YtacihjabkiedcaaGreatDoorH23
set_option linter.unusedVariables false
set_option linter.unusedSimpArgs false
namespace Go.Proofs.YtacihjabkiedcaaGreatDoor
open Go Go.RowKit Go.MapKept

theorem SlOf.take {α : Type} {R : List Nat → World → α → Array Value → Prop} {S : List Nat} {w : World} {k : Nat} {A : Option Addr} {C : Nat} {xs : List α} (h : SlOf R S w k (.slice A xs.length C) xs) (i : Nat) (hi : i ≤ xs.length) : SlOf R S w k (.slice A (xs.take i).length C) (xs.take i) := by
  obtain ⟨rows, ⟨a, c, hv, hm, hr⟩, h2, h3⟩ := h
  simp only [Value.slice.injEq] at hv
  obtain ⟨rfl, _, rfl⟩ := hv
  refine ⟨rows.take i, ⟨A, C, ?_, ?_, fun hp => ?_⟩, by simp [h2], fun j hj hj' => ?_⟩
  · simp only [List.length_take]; rw [h2]
  · simp only [List.length_take]; omega
  · obtain ⟨b, o, ha, hb, hc⟩ := hr (by simp only [List.length_take] at hp; omega)
    refine ⟨b, o, ha, hb, fun j hj => ?_⟩
    simp only [List.getElem_take]
    exact hc j (by simp only [List.length_take] at hj; omega)
  · simp only [List.getElem_take]
    exact h3 j (by simp only [List.length_take] at hj; omega) (by simp only [List.length_take] at hj'; omega)
/-- The nonterminals by which the first k symbols let one begin. -/
def leftsTo (L : List Int) (a : List SymS) (k : Nat) : List Int := (List.range k).flatMap fun i => match a[i]? with
  | some s => if s.k = 2 ∧ onlyF L (a.take i) = true then [s.n] else []
  | none => []
theorem leftsTo_succ (L : List Int) (a : List SymS) (k : Nat) (h : k < a.length) : leftsTo L a (k + 1) = leftsTo L a k ++ (if a[k].k = 2 ∧ onlyF L (a.take k) = true then [a[k].n] else []) := by
  unfold leftsTo
  rw [List.range_succ, List.flatMap_append]
  simp [h]
theorem leftsTo_len (L : List Int) (a : List SymS) : ∀ k, k ≤ a.length → (leftsTo L a k).length ≤ k
  | 0, _ => by simp [leftsTo]
  | k + 1, h => by
    rw [leftsTo_succ L a k (by omega)]
    have := leftsTo_len L a k (by omega)
    split <;> simp <;> omega
def leftsAll (L : List Int) (al : List (List SymS)) : List Int := al.flatMap fun a => leftsTo L a a.length
theorem leftsAll_succ (L : List Int) (al : List (List SymS)) (j : Nat) (h : j < al.length) : leftsAll L (al.take (j + 1)) = leftsAll L (al.take j) ++ leftsTo L al[j] al[j].length := by
  unfold leftsAll
  rw [List.take_succ_eq_append_getElem h, List.flatMap_append]
  simp
theorem leftsAll_len (L : List Int) : ∀ al : List (List SymS), (leftsAll L al).length ≤ lens al
  | [] => by simp [leftsAll]
  | a :: al => by
    have ih := leftsAll_len L al
    have h1 := leftsTo_len L a a.length (Nat.le_refl _)
    simp only [leftsAll, List.flatMap_cons, List.length_append, lens, List.map_cons, List.sum_cons] at ih ⊢
    omega
theorem lens_take9 (al : List (List SymS)) (j : Nat) (h : j < al.length) : lens (al.take j) + al[j].length ≤ lens al := by
  unfold lens
  conv => rhs; rw [← List.take_append_drop j al]
  rw [List.map_append, List.sum_append, List.drop_eq_getElem_cons h, List.map_cons, List.sum_cons]
  omega
/-- By whom one may begin, al null.Lefts answers. -/
def leftsR (ps : List ProdS) (n : Int) : List Int := if gmay ps = true ∧ 0 ≤ n ∧ n < ps.length then compI (sortI (leftsAll (emptyF ps) ((ps[n.toNat]?).map (·.a) |>.getD []))) else []
def IntRow (_S : List Nat) (_w : World) (x : Int) (row : Array Value) : Prop := row = #[.int .i64 x]
theorem intRow_stab : Stab IntRow := fun _ _ _ _ _ _ _ h _ _ _ => h
theorem info_int : (Tryz.prog.info? 3).map (fun i => (i.zero, i.size, i.bytes)) = some (some (.int .i64 0), 1, 8) := by kernel_rfl
/-- The head of the rounds: what has been gathered. -/
def GotAt (w2 : World) (v : Value) (l : List Int) (wr : World) : Prop := OwnL IntRow [] wr w2.heap.size 3 1 v l ∧ Keep [] w2 wr
theorem ints_flat (l : List Int) : ∀ rows : List (Array Value), rows.length = l.length → (∀ i (h : i < l.length) (h' : i < rows.length), rows[i] = #[.int .i64 l[i]]) → rows.flatMap Array.toList = l.map (Value.int .i64) := by
  intro rows h1 h2
  have : rows = l.map (fun x => #[Value.int .i64 x]) := by
    refine List.ext_getElem (by simp [h1]) (fun i hi hi' => ?_)
    rw [h2 i (by omega) hi, List.getElem_map]
  rw [this]
  clear this h2 h1
  induction l with
  | nil => rfl
  | cons a l ih => simp [ih]
theorem GotAt.ints {w2 wr : World} {v : Value} {l : List Int} (h : GotAt w2 v l wr) (hl : l.length ≤ 1000000) : IntV wr w2.heap.size v l := by
  have hs := h.1.slice
  have hr := h.1.read (S' := []) intRow_stab (by simp) (by simp)
  have hty := OwnL.type h.1
  have hba := h.1.base
  obtain ⟨A, C, rfl⟩ := hs
  obtain ⟨A', C', hv, hm, hc⟩ := SlOf.at hr
  simp only [Value.slice.injEq, true_and] at hv
  obtain ⟨rfl, rfl⟩ := hv
  by_cases h0 : l = []
  · subst h0
    exact .inl ⟨rfl, A, C, rfl⟩
  · have hp : 0 < l.length := List.length_pos_iff.2 h0
    obtain ⟨b, o, rfl, _, hcell⟩ := hc hp
    have hb := hba b (by simp [ownB, Value.ownBlock])
    obtain ⟨cs, hcs⟩ := hty b (by simp [ownB, Value.ownBlock])
    refine .inr ⟨b, o, C, rfl, hb.1, hb.2, hm.2, hl, fun j hj => ?_⟩
    have hj' : j < l.length := by simpa using hj
    obtain ⟨row, _, hrow, hR⟩ := hcell j hj'
    have e0 := hrow 0 (by omega)
    rw [hR] at e0
    simp at e0
    refine ⟨?_, by simp [World.frozen?, hcs]⟩
    rw [getElem!_pos _ j hj]
    simpa using e0
end Go.Proofs.YtacihjabkiedcaaGreatDoor
namespace Go.Proofs.YtacihjabkiedcaaGreatDoor
open Go Go.RowKit Go.MapKept

theorem IntV.low {w : World} {base base' : Nat} {v : Value} {xs : List Int} (h : IntV w base v xs) (hb : base' ≤ base) : IntV w base' v xs := by
  rcases h with h | ⟨b, o, C, h1, h2, h3⟩
  · exact .inl h
  · exact .inr ⟨b, o, C, h1, Nat.le_trans hb h2, h3⟩
set_option maxRecDepth 20000 in
set_option maxHeartbeats 4000000 in
theorem lefts_any (A K : Option Addr) (C m D : Nat) (n : Int) (S : List Nat) (ps : List ProdS) (w : World) (HP : Prods S w (.slice A ps.length C) ps) (hS : ∀ b ∈ S, b < w.heap.size) (hlp : ps.length ≤ 9223372036854775807) :
    Calls Tryz.prog 29 #[.agg #[.slice A ps.length C, .slice K m D], .int .i64 n] w fun e w' => (∃ v, e = .returned v ∧ IntV w' w.heap.size v (leftsR ps n)) ∧ Keep [] w w' := by
  have K0 := (Keep.refl [] w).alloc (.cells #[.slice A ps.length C, .slice K m D] 25)
  have HP0 : Prods S _ (.slice A ps.length C) ps := SlOf.move HP prodRow_stab (by omega) K0 (by simp) (fun x hx => .inl hx)
  have B0 := Blk.new w #[.slice A ps.length C, .slice K m D] 25
  have hcall := may_any S (.slice A ps.length C) (.slice K m D) ps _ HP0
  have HC := Lib.hid hcall; clear hcall
  cases hg : gmay ps with
  | false =>
    have hr : leftsR ps n = [] := by simp [leftsR, hg]
    rw [hr]
    clear hr
    go_enter Tryz.func29, Tryz.ntmps29
    go_wp2_with fail
    refine HC.out.mono ?_
    rintro e w1 ⟨rfl, K1⟩
    rw [hg]
    go_wp2
    go_ret
    exact ⟨⟨_, rfl, .inl ⟨rfl, _, _, rfl⟩⟩, K0.trans K1⟩
  | true =>
    obtain ⟨hl0, hl1⟩ := gmay_len hg
    have HG := Lib.hid hg
    by_cases hn0 : n < 0
    · have hr : leftsR ps n = [] := by unfold leftsR; rw [if_neg]; rintro ⟨_, h, _⟩; omega
      rw [hr]
      clear hr
      go_enter Tryz.func29, Tryz.ntmps29
      go_wp2_with fail
      refine HC.out.mono ?_
      rintro e w1 ⟨rfl, K1⟩
      rw [hg]
      go_wp2
      go_ret
      exact ⟨⟨_, rfl, .inl ⟨rfl, _, _, rfl⟩⟩, K0.trans K1⟩
    · obtain ⟨k, rfl⟩ : ∃ k : Nat, n = k := ⟨n.toNat, by omega⟩
      by_cases hlt : k < ps.length
      · skip
        have hlt' : (k : Int) < (ps.length : Int) := by omega
        have hr : leftsR ps k = compI (sortI (leftsAll (emptyF ps) ps[k].a)) := by
          unfold leftsR
          rw [if_pos ⟨hg, by omega, by omega⟩]
          simp [hlt]
        obtain ⟨R, hRes⟩ : ∃ R, R = compI (sortI (leftsAll (emptyF ps) ps[k].a)) := ⟨_, rfl⟩
        rw [hr, ← hRes]
        have HRS := Lib.hid hRes
        clear hr hRes
        have hlens := gmay_lens hg ps[k] (List.getElem_mem _)
        have HPP := Lib.hid HP0
        have HSS := Lib.hid hS
        clear HP0 HP hS
        go_enter Tryz.func29, Tryz.ntmps29
        go_wp2_with fail
        refine HC.out.mono ?_
        rintro e w1 ⟨rfl, K1⟩
        rw [hg]
        have B1 := B0.keep K1 (by simp)
        have b0 := B1.cell 0
        have b1 := B1.cell 1
        have K01 := K0.trans K1
        have hsz : w.heap.size ≤ w1.heap.size := K01.size
        have hcall2 := nullOf_any A K C m D S ps w1 (SlOf.move HPP.out prodRow_stab (by omega) K1 (by simp) (fun x hx => .inl hx)) (fun b hb => Nat.lt_of_lt_of_le (HSS.out b hb) hsz) (by omega)
        have HC2 := Lib.hid hcall2
        clear hcall2 HC B0
        go_wp2_with fail
        refine HC2.out.mono ?_
        rintro e w2 ⟨rfl, hF, K2⟩
        clear HC2 b0 b1
        have c0 := (B1.keep K2 (by simp)).cell 0
        have hP2 : Prods S w2 (.slice A ps.length C) ps := SlOf.move HPP.out prodRow_stab (by omega) (K1.trans K2) (by simp) (fun x hx => .inl hx)
        obtain ⟨_, _, hv, _, hrd⟩ := SlOf.at hP2
        simp only [Value.slice.injEq, true_and] at hv
        obtain ⟨rfl, rfl⟩ := hv
        obtain ⟨b, o, rfl, hb, hc⟩ := hrd (by omega)
        obtain ⟨prow, hz, hcell, hR⟩ := hc k hlt
        obtain ⟨A2, C2, N2, F2, rfl, hR2, hR3⟩ := hR
        have e0 : w2.cell? ⟨b, o + k * 3, none⟩ = some (.slice A2 ps[k].a.length C2) := hcell 0 (by omega)
        generalize ps[k] = p at e0 hR2 hR3 hlens HRS
        have HF := Lib.hid hF
        have HA := Lib.hid hR2
        have HKW := Lib.hid (K01.trans K2)
        have HLN := Lib.hid hlens
        generalize emptyF ps = L at HF HRS
        have hal : p.a.length ≤ 9223372036854775807 := by obtain ⟨_, ⟨_, _, _, hm, _⟩, h2, _⟩ := hR2; omega
        clear hcell hc hrd hz hP2 hR2 hR3 hF K2 K1 K01 B1 HPP hlens
        go_wp2
        clear c0 e0
        go_loopw [6, 34] (fun out i wr => ∃ j : Nat, j ≤ p.a.length ∧ i = .int .i64 j ∧ GotAt w2 out (leftsAll L (p.a.take j)) wr) (fun _ i _ => p.a.length - (intOf i).toNat)
        case atStart => exact ⟨0, by omega, rfl, OwnL.nil _ _ _ _ _, Keep.refl _ _⟩
        case round =>
          obtain ⟨j, hj, rfl, hGot⟩ := hrel
          by_cases hjl : j < p.a.length
          · have hjl' : (j : Int) < (p.a.length : Int) := by omega
            have HJL := Lib.hid hjl
            have HW : SlOf AltRow S w2 1 (.slice A2 p.a.length C2) p.a := HA.out
            obtain ⟨_, _, hv, _, hr2⟩ := SlOf.at HW
            simp only [Value.slice.injEq, true_and] at hv
            obtain ⟨rfl, rfl⟩ := hv
            obtain ⟨b2, o2, rfl, hb2, hc2⟩ := hr2 (by omega)
            obtain ⟨row, hz2, hcell2, hRr⟩ := hc2 j hjl
            obtain ⟨A3, C3, rfl, hR3⟩ := hRr
            have e0 := hcell2 0 (by omega)
            simp only [Nat.mul_one, Nat.add_zero] at e0
            have e0 := (Keep.cell hGot.2 (v := .slice A3 p.a[j].length C3) e0 (by simp))
            have HSUM : Hid (leftsAll L (p.a.take (j + 1)) = leftsAll L (p.a.take j) ++ leftsTo L p.a[j] p.a[j].length) := Lib.hid (leftsAll_succ L p.a j hjl)
            have HLE : Hid ((leftsAll L (p.a.take j)).length + p.a[j].length ≤ 1000000) := Lib.hid (by have h1 := leftsAll_len L (p.a.take j); have h2 := lens_take9 p.a j hjl; have := HLN.out; omega)
            generalize leftsAll L (p.a.take j) = G0 at hGot HSUM HLE
            generalize p.a[j] = a at e0 hR3 HSUM HLE
            have haL : a.length ≤ 9223372036854775807 := by have := HLE.out; omega
            have HR3 := Lib.hid hR3
            have KG := Lib.hid hGot.2
            have HT1 : Hid (GotAt w2 u6 (G0 ++ leftsTo L a 0) wr) := Lib.hid (by simpa [leftsTo] using hGot)
            clear hcell2 hc2 hr2 hz2 HW hR3 hGot
            obtain ⟨wo, rfl⟩ : ∃ wo : World, wo = wr := ⟨_, rfl⟩
            go_wp2
            clear e0
            go_loopw [6, 40] (fun out i wr => ∃ t : Nat, t ≤ a.length ∧ i = .int .i64 t ∧ GotAt w2 out (G0 ++ leftsTo L a t) wr) (fun _ i _ => a.length - (intOf i).toNat)
            case atStart => exact ⟨0, by omega, rfl, HT1.out⟩
            case round =>
              obtain ⟨t, ht, rfl, hGot⟩ := hrel
              by_cases htl : t < a.length
              · have htl' : (t : Int) < (a.length : Int) := by omega
                have HTL := Lib.hid htl
                have hYs : Syms S wr (.slice A3 a.length C3) a := SlOf.move HR3.out symRow_stab (by omega) hGot.2 (by simp) (fun x hx => .inl hx)
                obtain ⟨_, _, hv, _, hr3⟩ := SlOf.at hYs
                simp only [Value.slice.injEq, true_and] at hv
                obtain ⟨rfl, rfl⟩ := hv
                obtain ⟨b3, o3, rfl, hb3, hc3⟩ := hr3 (by omega)
                obtain ⟨srow, hz3, hcell3, hRs⟩ := hc3 t htl
                obtain ⟨B4, E4, rfl, hR4⟩ := hRs
                have s0 : wr.cell? ⟨b3, o3 + t * 3, none⟩ = some (.int .i64 a[t].k) := hcell3 0 (by omega)
                have s1 : wr.cell? ⟨b3, o3 + t * 3 + 1, none⟩ = some (.slice B4 a[t].r.length E4) := hcell3 1 (by omega)
                have s2 : wr.cell? ⟨b3, o3 + t * 3 + 2, none⟩ = some (.int .i64 a[t].n) := hcell3 2 (by omega)
                have hYt := SlOf.take hYs t (by omega)
                have htk : (a.take t).length = t := by simp; omega
                have HSU : Hid (G0 ++ leftsTo L a (t + 1) = (G0 ++ leftsTo L a t) ++ (if a[t].k = 2 ∧ onlyF L (a.take t) = true then [a[t].n] else [])) := Lib.hid (by rw [leftsTo_succ L a t htl, List.append_assoc]; rfl)
                have hLb : (G0 ++ leftsTo L a t).length ≤ 1000000 := by have h1 := leftsTo_len L a t ht; have h2 := HLE.out; simp only [List.length_append]; omega
                generalize G0 ++ leftsTo L a t = l at hGot HSU hLb
                generalize a[t] = s at s0 s1 s2 hR4 HSU
                obtain ⟨sk, sr, sn⟩ := s
                simp only at s0 s1 s2 hR4 HSU
                have KB := (Keep.refl [] wr).alloc (.cells #[.int .i64 sk, .slice B4 sr.length E4, .int .i64 sn] 39)
                have BS := Blk.new wr #[.int .i64 sk, .slice B4 sr.length E4, .int .i64 sn] 39
                have hon := only_any _ _ _ _ _ _ _ _ L S (a.take t) _ C3 _ (HF.out.keep (hGot.2.trans KB) (by simp) (by simp)) (SlOf.move hYt symRow_stab (by omega) KB (by simp) (fun x hx => .inl hx))
                rw [htk] at hon
                have HON := Lib.hid hon
                have HGT := Lib.hid hGot
                clear hcell3 hc3 hr3 hz3 hYs hYt hR4 hon hGot
                by_cases h2 : sk = 2
                · subst h2
                  have htn : t ≤ C3 := by omega
                  go_wp2_with fail
                  refine HON.out.mono ?_
                  rintro e w5 ⟨rfl, K5⟩
                  have BS5 := BS.keep K5 (by simp)
                  have g2 := BS5.cell 2
                  have KR5 := KB.trans K5
                  have O5 : OwnL IntRow [] w5 w2.heap.size 3 1 u6 l := HGT.out.1.move intRow_stab KR5 (by simp) (fun x hx => .inl hx)
                  have KW5 := HGT.out.2.trans KR5
                  have htn2 : t ≤ a.length := by omega
                  cases hon : onlyF L (a.take t) with
                  | false =>
                    have HFIN : Hid (GotAt w2 u6 (G0 ++ leftsTo L a (t + 1)) w5) := Lib.hid (by
                      rw [HSU.out, if_neg (by rintro ⟨_, h⟩; rw [hon] at h; cases h), List.append_nil]
                      exact ⟨O5, KW5⟩)
                    clear HON HGT HSU hon O5 KW5 KR5 K5 BS5 g2 s0 s1 s2 KB BS
                    go_wp2
                    go_roundw
                    case rel => exact ⟨t + 1, by have := HTL.out; omega, by go_num, HFIN.out⟩
                    case measure => simp [intOf]; have := HTL.out; omega
                  | true =>
                    have HSU2 : Hid (G0 ++ leftsTo L a (t + 1) = l ++ [sn]) := Lib.hid (by rw [HSU.out, if_pos (by simp [hon])])
                    obtain ⟨A5, C5, rfl⟩ := O5.slice
                    obtain ⟨rows, hlr, hown, hel⟩ := O5
                    have HEL := Lib.hid hel
                    have HLR := Lib.hid hlr
                    have HKW5 := Lib.hid KW5
                    have hszz : w2.heap.size ≤ w5.heap.size := KW5.size
                    obtain ⟨i0, hi0, hz0, hz1, hz2⟩ := info_parts info_int
                    clear hel hlr HON HGT HSU hon KW5 KR5 K5 BS5 s0 s1 s2 KB BS
                    go_wp2_with (at_builtin; go_loud (refine wpList_append_lies _ rfl _ _ 44 rfl w2.heap.size 3 i0 (.int .i64 0) 1 8 Tryz.underlying44 hi0 hz0 hz1 hz2 rfl (by decide) _ l.length _ rfl (hown.alloc _) ⟨w5.heap.size, 0, none⟩ 1 1 [.int .i64 sn] rfl rfl (World.news_of_block (Blk.new' _ _ _ (by simp))) (by simp [Value.oneCell']) (by decide) (by unfold maxLen; omega) (by omega) (by simp; omega) _ rfl ?_); intro g cap w7 O7 G7 W7 L7)
                    have K57 := (Keep.refl [] w5).alloc (.cells #[.int .i64 sn] 3)
                    have hap := OwnL.append (R := IntRow) (S := []) (w := w5.alloc (.cells #[.int .i64 sn] 3)) (x := sn) (row := #[.int .i64 sn]) rows HLR.out (fun i hi hi' => ⟨(HEL.out i hi hi').1, (HEL.out i hi hi').2⟩) intRow_stab rfl rfl O7 G7 W7
                    have KF7 := (HKW5.out.trans K57).grown G7 (fun x hx => .inr (by
                      have := hown.lt x hx
                      omega))
                    have HFIN : Hid (GotAt w2 (.slice (some ⟨g, 0, none⟩) (l.length + 1) cap) (G0 ++ leftsTo L a (t + 1)) w7) := Lib.hid (by rw [HSU2.out]; exact ⟨hap, KF7⟩)
                    clear O7 G7 W7 L7 hap KF7 hown
                    go_wp2
                    go_roundw
                    case rel => exact ⟨t + 1, by have := HTL.out; omega, by go_num, HFIN.out⟩
                    case measure => simp [intOf]; have := HTL.out; omega
                · have h2b : (sk == 2) = false := by simpa using h2
                  have HFIN : Hid (GotAt w2 u6 (G0 ++ leftsTo L a (t + 1)) (wr.alloc (.cells #[.int .i64 sk, .slice B4 sr.length E4, .int .i64 sn] 39))) := Lib.hid (by
                    rw [HSU.out, if_neg (by rintro ⟨h, _⟩; exact h2 h), List.append_nil]
                    exact ⟨HGT.out.1.move intRow_stab KB (by simp) (fun x hx => .inl hx), HGT.out.2.trans KB⟩)
                  clear h2 HON HGT HSU
                  go_wp2
                  go_roundw
                  case rel => exact ⟨t + 1, by have := HTL.out; omega, by go_num, HFIN.out⟩
                  case measure => simp [intOf]; have := HTL.out; omega
              · obtain rfl : t = a.length := by omega
                have HFIN : Hid (GotAt w2 u6 (leftsAll L (p.a.take (j + 1))) wr) := Lib.hid (by rw [HSUM.out]; exact hGot)
                clear hGot
                go_wp2
                go_roundw
                case rel => exact ⟨j + 1, by have := HJL.out; omega, by go_num, HFIN.out⟩
                case measure => simp [intOf]; have := HJL.out; omega
          · obtain rfl : j = p.a.length := by omega
            have hI := hGot.ints (by have := leftsAll_len L (p.a.take p.a.length); rw [List.take_length] at this ⊢; have := HLN.out; omega)
            rw [List.take_length] at hI
            have HKK := Lib.hid (HKW.out.trans hGot.2)
            have HC7 := Lib.hid (sort_any _ _ _ _ hI)
            have hszz : w.heap.size ≤ w2.heap.size := HKW.out.size
            clear hGot hI
            go_wp2_with fail
            refine HC7.out.mono ?_
            rintro e w7 ⟨rfl, hI7, b7, hb7, K7⟩
            have HC8 := Lib.hid (compact_any _ _ _ _ hI7)
            have HK7 := Lib.hid (HKK.out.then K7 (fun x hx => by simp at hx; subst hx; right; omega))
            clear hI7 HC7 K7
            go_wp2_with fail
            refine HC8.out.mono ?_
            rintro e w8 ⟨⟨v8, rfl, hI8⟩, b8, hb8, K8⟩
            have HFIN : Hid (IntV w8 w.heap.size v8 R ∧ Keep [] w w8) := Lib.hid ⟨by rw [HRS.out]; exact hI8.low hszz, HK7.out.then K8 (fun x hx => by simp at hx; subst hx; right; omega)⟩
            clear hI8 HC8 K8
            go_wp2
            go_ret
            exact ⟨⟨v8, rfl, HFIN.out.1⟩, HFIN.out.2⟩
      · have hr : leftsR ps k = [] := by unfold leftsR; rw [if_neg]; rintro ⟨_, _, h⟩; omega
        rw [hr]
        clear hr
        have hle : ¬ (k : Int) < (ps.length : Int) := by omega
        go_enter Tryz.func29, Tryz.ntmps29
        go_wp2_with fail
        refine HC.out.mono ?_
        rintro e w1 ⟨rfl, K1⟩
        rw [hg]
        have b0 := (B0.keep K1 (by simp)).cell 0
        go_wp2
        go_ret
        exact ⟨⟨_, rfl, .inl ⟨rfl, _, _, rfl⟩⟩, K0.trans K1⟩
end Go.Proofs.YtacihjabkiedcaaGreatDoor
