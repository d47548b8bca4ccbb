/- Lists of numbers in memory; slices.Sort and slices.Compact on them. -/
import Derived.Test.YtacihjabkiedcaaGreatDoorG13
import Derived.Test.YtacihjabkiedcaaGreatDoorShelf2
import Derived.Test.YtacihjabkiedcaaGreatDoorG19
import Derived.Test.YtacihjabkiedcaaGreatDoorG17
import Derived.Test.YtacihjabkiedcaaGreatDoorG18
set_option linter.unusedVariables false
set_option linter.unusedSimpArgs false
namespace Go.Proofs.YtacihjabkiedcaaGreatDoor
open Go Go.RowKit Go.Sort

/-- The slice v, of a row from block base on, has these numbers. -/
def IntV (w : World) (base : Nat) (v : Value) (xs : List Int) : Prop :=
  (xs = [] ∧ ∃ A C, v = .slice A 0 C) ∨ ∃ b o C, v = .slice (some ⟨b, o, none⟩) xs.length C ∧ base ≤ b ∧ b < w.heap.size ∧ xs.length ≤ C ∧ xs.length ≤ 1000000 ∧ Holds (Value.int .i64) w b o xs.toArray
theorem keep_putRow {α : Type} [Inhabited α] (enc : α → Value) (w : World) (n b o : Nat) (d : Array α) (os : Array Obj) : Keep [b] w (grow (putRow enc (Sort.ahead w n) b o d) os) := by
  refine ⟨rfl, rfl, rfl, ?_, fun k hk hS => ?_⟩
  · simp [grow, putRow, mapBlock, Sort.ahead]
  · have hb : ¬ b = k := by simpa using fun e => hS (by simp [e])
    have h1 : (grow (putRow enc (Sort.ahead w n) b o d) os).heap[k]? = (putRow enc (Sort.ahead w n) b o d).heap[k]? := heap_grow_old _ _ (by simpa [putRow, mapBlock, Sort.ahead] using hk)
    rw [h1]
    simp [putRow, mapBlock, ahead, Array.getElem?_modify, hb]
def sortI (xs : List Int) : List Int := xs.mergeSort fun x y => decide (x ≤ y)
theorem sort_any (w : World) (base : Nat) (v : Value) (xs : List Int) (H : IntV w base v xs) :
    Calls Tryz.prog 53 #[v] w fun e w' => e = .returned (.tuple #[]) ∧ IntV w' base v (sortI xs) ∧ ∃ b, base ≤ b ∧ Keep [b] w w' := by
  rcases H with ⟨rfl, A, C, rfl⟩ | ⟨b, o, C, rfl, hb, hlt, hC, hl, hH⟩
  · refine (Any.slices_Sort_int_none Tryz.lays189 A C w).mono ?_
    rintro e w' ⟨rfl, rfl⟩
    exact ⟨rfl, .inl ⟨by simp [sortI], A, C, rfl⟩, base, Nat.le_refl _, (Keep.refl [] _).mono (by simp)⟩
  · refine (Any.slices_Sort_int Tryz.lays189 b o C xs w hH hlt (by omega)).mono ?_
    rintro e w' ⟨rfl, n, os, rfl⟩
    have hs : (sortI xs).length = xs.length := List.length_mergeSort _
    refine ⟨rfl, .inr ⟨b, o, C, by rw [hs], hb, ?_, by omega, by omega, ?_⟩, b, hb, keep_putRow _ _ _ _ _ _ _⟩
    · exact Nat.lt_of_lt_of_le hlt (keep_putRow _ _ _ _ _ _ _).size
    · refine holds_grow _ _ _ _ _ _ (by simp only [putRow, mapBlock, Sort.ahead, Array.size_modify]; exact hlt) ?_
      exact holds_putRow _ _ _ _ xs.toArray _ (holds_ahead _ _ _ _ _ _ hH) (by simp)
/-- As slices.Compact leaves it. -/
def compI (xs : List Int) : List Int := Lib.compact xs
theorem compI_sub (xs : List Int) : (compI xs).length ≤ xs.length ∧ ∀ x ∈ compI xs, x ∈ xs := by
  unfold compI Lib.compact Lib.compactUpTo
  constructor
  · simp only [List.length_map]
    exact Nat.le_trans (List.length_filter_le _ _) (by simp)
  · intro x hx
    simp only [List.mem_map, List.mem_filter, List.mem_range] at hx
    obtain ⟨i, ⟨hi, _⟩, rfl⟩ := hx
    rw [getElem!_pos xs.toArray i (by simpa using hi)]
    simp
theorem compact_any (w : World) (base : Nat) (v : Value) (xs : List Int) (H : IntV w base v xs) :
    Calls Tryz.prog 54 #[v] w fun e w' => (∃ v', e = .returned v' ∧ IntV w' base v' (compI xs)) ∧ ∃ b, base ≤ b ∧ Keep [b] w w' := by
  rcases H with ⟨rfl, A, C, rfl⟩ | ⟨b, o, C, rfl, hb, hlt, hC, hl, hH⟩
  · refine (Any.slices_Compact_int_empty Tryz.laysCompact A C w).mono ?_
    rintro e w' ⟨rfl, rfl⟩
    exact ⟨⟨_, rfl, .inl ⟨rfl, A, C, rfl⟩⟩, base, Nat.le_refl _, (Keep.refl [] _).mono (by simp)⟩
  · refine (Any.slices_Compact_int Tryz.laysCompact b o C xs w hH (by omega) hC).mono ?_
    rintro e w' ⟨rfl, n, rfl⟩
    have hs := (compI_sub xs).1
    have hk : Keep [b] w (putRow (Value.int .i64) (Sort.ahead w n) b o (Lib.compact xs ++ List.replicate (xs.length - (Lib.compact xs).length) 0).toArray) := by
      have := keep_putRow (Value.int .i64) w n b o (Lib.compact xs ++ List.replicate (xs.length - (Lib.compact xs).length) 0).toArray #[]
      simpa using this
    refine ⟨⟨_, rfl, .inr ⟨b, o, C, rfl, hb, Nat.lt_of_lt_of_le hlt hk.size, by omega, by omega, fun j hj => ?_⟩⟩, b, hb, hk⟩
    have hj' : j < (compI xs).length := by simpa using hj
    have hh := holds_putRow (Value.int .i64) (Sort.ahead w n) b o xs.toArray (Lib.compact xs ++ List.replicate (xs.length - (Lib.compact xs).length) 0).toArray (holds_ahead _ _ _ _ _ _ hH) (by
      have : (Lib.compact xs).length ≤ xs.length := hs
      simp; omega) j (by simp; unfold compI at hj'; omega)
    have e : (Lib.compact xs ++ List.replicate (xs.length - (Lib.compact xs).length) 0).toArray[j]! = (compI xs).toArray[j]! := by
      unfold compI at hj' ⊢
      rw [getElem!_pos _ j (by simp; omega), getElem!_pos _ j (by simpa using hj')]
      simp [List.getElem_append_left hj']
    rw [e] at hh
    exact hh
end Go.Proofs.YtacihjabkiedcaaGreatDoor
/- By whom one may begin: the walk of null.Lefts. -/
namespace Go.Proofs.YtacihjabkiedcaaGreatDoor
open Go Go.RowKit Go.MapKept

theorem SlOf.take {α : Type} {R : List Nat → World → α → Array Value → Prop} {S : List Nat} {w : World} {k : Nat} {A : Option Addr} {C : Nat} {xs : List α} (h : SlOf R S w k (.slice A xs.length C) xs) (i : Nat) (hi : i ≤ xs.length) : SlOf R S w k (.slice A (xs.take i).length C) (xs.take i) := by
  obtain ⟨rows, ⟨a, c, hv, hm, hr⟩, h2, h3⟩ := h
  simp only [Value.slice.injEq] at hv
  obtain ⟨rfl, _, rfl⟩ := hv
  refine ⟨rows.take i, ⟨A, C, ?_, ?_, fun hp => ?_⟩, by simp [h2], fun j hj hj' => ?_⟩
  · simp only [List.length_take]; rw [h2]
  · simp only [List.length_take]; omega
  · obtain ⟨b, o, ha, hb, hc⟩ := hr (by simp only [List.length_take] at hp; omega)
    refine ⟨b, o, ha, hb, fun j hj => ?_⟩
    simp only [List.getElem_take]
    exact hc j (by simp only [List.length_take] at hj; omega)
  · simp only [List.getElem_take]
    exact h3 j (by simp only [List.length_take] at hj; omega) (by simp only [List.length_take] at hj'; omega)
/-- The nonterminals by which the first k symbols let one begin. -/
def leftsTo (L : List Int) (a : List SymS) (k : Nat) : List Int := (List.range k).flatMap fun i => match a[i]? with
  | some s => if s.k = 2 ∧ onlyF L (a.take i) = true then [s.n] else []
  | none => []
theorem leftsTo_succ (L : List Int) (a : List SymS) (k : Nat) (h : k < a.length) : leftsTo L a (k + 1) = leftsTo L a k ++ (if a[k].k = 2 ∧ onlyF L (a.take k) = true then [a[k].n] else []) := by
  unfold leftsTo
  rw [List.range_succ, List.flatMap_append]
  simp [h]
theorem leftsTo_len (L : List Int) (a : List SymS) : ∀ k, k ≤ a.length → (leftsTo L a k).length ≤ k
  | 0, _ => by simp [leftsTo]
  | k + 1, h => by
    rw [leftsTo_succ L a k (by omega)]
    have := leftsTo_len L a k (by omega)
    split <;> simp <;> omega
def leftsAll (L : List Int) (al : List (List SymS)) : List Int := al.flatMap fun a => leftsTo L a a.length
theorem leftsAll_succ (L : List Int) (al : List (List SymS)) (j : Nat) (h : j < al.length) : leftsAll L (al.take (j + 1)) = leftsAll L (al.take j) ++ leftsTo L al[j] al[j].length := by
  unfold leftsAll
  rw [List.take_succ_eq_append_getElem h, List.flatMap_append]
  simp
theorem leftsAll_len (L : List Int) : ∀ al : List (List SymS), (leftsAll L al).length ≤ lens al
  | [] => by simp [leftsAll]
  | a :: al => by
    have ih := leftsAll_len L al
    have h1 := leftsTo_len L a a.length (Nat.le_refl _)
    simp only [leftsAll, List.flatMap_cons, List.length_append, lens, List.map_cons, List.sum_cons] at ih ⊢
    omega
theorem lens_take9 (al : List (List SymS)) (j : Nat) (h : j < al.length) : lens (al.take j) + al[j].length ≤ lens al := by
  unfold lens
  conv => rhs; rw [← List.take_append_drop j al]
  rw [List.map_append, List.sum_append, List.drop_eq_getElem_cons h, List.map_cons, List.sum_cons]
  omega
/-- By whom one may begin, al null.Lefts answers. -/
def leftsR (ps : List ProdS) (n : Int) : List Int := if gmay ps = true ∧ 0 ≤ n ∧ n < ps.length then compI (sortI (leftsAll (emptyF ps) ((ps[n.toNat]?).map (·.a) |>.getD []))) else []
def IntRow (_S : List Nat) (_w : World) (x : Int) (row : Array Value) : Prop := row = #[.int .i64 x]
theorem intRow_stab : Stab IntRow := fun _ _ _ _ _ _ _ h _ _ _ => h
theorem info_int : (Tryz.prog.info? 3).map (fun i => (i.zero, i.size, i.bytes)) = some (some (.int .i64 0), 1, 8) := by kernel_rfl
/-- The head of the rounds: what has been gathered. -/
def GotAt (w2 : World) (v : Value) (l : List Int) (wr : World) : Prop := OwnL IntRow [] wr w2.heap.size 3 1 v l ∧ Keep [] w2 wr
theorem ints_flat (l : List Int) : ∀ rows : List (Array Value), rows.length = l.length → (∀ i (h : i < l.length) (h' : i < rows.length), rows[i] = #[.int .i64 l[i]]) → rows.flatMap Array.toList = l.map (Value.int .i64) := by
  intro rows h1 h2
  have : rows = l.map (fun x => #[Value.int .i64 x]) := by
    refine List.ext_getElem (by simp [h1]) (fun i hi hi' => ?_)
    rw [h2 i (by omega) hi, List.getElem_map]
  rw [this]
  clear this h2 h1
  induction l with
  | nil => rfl
  | cons a l ih => simp [ih]
theorem GotAt.ints {w2 wr : World} {v : Value} {l : List Int} (h : GotAt w2 v l wr) (hl : l.length ≤ 1000000) : IntV wr w2.heap.size v l := by
  have hs := h.1.slice
  have hr := h.1.read (S' := []) intRow_stab (by simp) (by simp)
  have hty := OwnL.type h.1
  have hba := h.1.base
  obtain ⟨A, C, rfl⟩ := hs
  obtain ⟨A', C', hv, hm, hc⟩ := SlOf.at hr
  simp only [Value.slice.injEq, true_and] at hv
  obtain ⟨rfl, rfl⟩ := hv
  by_cases h0 : l = []
  · subst h0
    exact .inl ⟨rfl, A, C, rfl⟩
  · have hp : 0 < l.length := List.length_pos_iff.2 h0
    obtain ⟨b, o, rfl, _, hcell⟩ := hc hp
    have hb := hba b (by simp [ownB, Value.ownBlock])
    obtain ⟨cs, hcs⟩ := hty b (by simp [ownB, Value.ownBlock])
    refine .inr ⟨b, o, C, rfl, hb.1, hb.2, hm.2, hl, fun j hj => ?_⟩
    have hj' : j < l.length := by simpa using hj
    obtain ⟨row, _, hrow, hR⟩ := hcell j hj'
    have e0 := hrow 0 (by omega)
    rw [hR] at e0
    simp at e0
    refine ⟨?_, by simp [World.frozen?, hcs]⟩
    rw [getElem!_pos _ j hj]
    simpa using e0
end Go.Proofs.YtacihjabkiedcaaGreatDoor
/- By whom one may begin: the walk of null.Lefts. -/
namespace Go.Proofs.YtacihjabkiedcaaGreatDoor
open Go Go.RowKit Go.MapKept

theorem IntV.low {w : World} {base base' : Nat} {v : Value} {xs : List Int} (h : IntV w base v xs) (hb : base' ≤ base) : IntV w base' v xs := by
  rcases h with h | ⟨b, o, C, h1, h2, h3⟩
  · exact .inl h
  · exact .inr ⟨b, o, C, h1, Nat.le_trans hb h2, h3⟩
set_option maxRecDepth 20000 in
set_option maxHeartbeats 4000000 in
theorem lefts_any (A K : Option Addr) (C m D : Nat) (n : Int) (S : List Nat) (ps : List ProdS) (w : World) (HP : Prods S w (.slice A ps.length C) ps) (hS : ∀ b ∈ S, b < w.heap.size) (hlp : ps.length ≤ 9223372036854775807) :
    Calls Tryz.prog 29 #[.agg #[.slice A ps.length C, .slice K m D], .int .i64 n] w fun e w' => (∃ v, e = .returned v ∧ IntV w' w.heap.size v (leftsR ps n)) ∧ Keep [] w w' := by
  have K0 := (Keep.refl [] w).alloc (.cells #[.slice A ps.length C, .slice K m D] 25)
  have HP0 : Prods S _ (.slice A ps.length C) ps := SlOf.move HP prodRow_stab (by omega) K0 (by simp) (fun x hx => .inl hx)
  have B0 := Blk.new w #[.slice A ps.length C, .slice K m D] 25
  have hcall := may_any S (.slice A ps.length C) (.slice K m D) ps _ HP0
  have HC := Lib.hid hcall; clear hcall
  cases hg : gmay ps with
  | false =>
    have hr : leftsR ps n = [] := by simp [leftsR, hg]
    rw [hr]
    clear hr
    go_enter Tryz.func29, Tryz.ntmps29
    go_wp2_with fail
    refine HC.out.mono ?_
    rintro e w1 ⟨rfl, K1⟩
    rw [hg]
    go_wp2
    go_ret
    exact ⟨⟨_, rfl, .inl ⟨rfl, _, _, rfl⟩⟩, K0.trans K1⟩
  | true =>
    obtain ⟨hl0, hl1⟩ := gmay_len hg
    have HG := Lib.hid hg
    by_cases hn0 : n < 0
    · have hr : leftsR ps n = [] := by unfold leftsR; rw [if_neg]; rintro ⟨_, h, _⟩; omega
      rw [hr]
      clear hr
      go_enter Tryz.func29, Tryz.ntmps29
      go_wp2_with fail
      refine HC.out.mono ?_
      rintro e w1 ⟨rfl, K1⟩
      rw [hg]
      go_wp2
      go_ret
      exact ⟨⟨_, rfl, .inl ⟨rfl, _, _, rfl⟩⟩, K0.trans K1⟩
    · obtain ⟨k, rfl⟩ : ∃ k : Nat, n = k := ⟨n.toNat, by omega⟩
      by_cases hlt : k < ps.length
      · skip
        have hlt' : (k : Int) < (ps.length : Int) := by omega
        have hr : leftsR ps k = compI (sortI (leftsAll (emptyF ps) ps[k].a)) := by
          unfold leftsR
          rw [if_pos ⟨hg, by omega, by omega⟩]
          simp [hlt]
        obtain ⟨R, hRes⟩ : ∃ R, R = compI (sortI (leftsAll (emptyF ps) ps[k].a)) := ⟨_, rfl⟩
        rw [hr, ← hRes]
        have HRS := Lib.hid hRes
        clear hr hRes
        have hlens := gmay_lens hg ps[k] (List.getElem_mem _)
        have HPP := Lib.hid HP0
        have HSS := Lib.hid hS
        clear HP0 HP hS
        go_enter Tryz.func29, Tryz.ntmps29
        go_wp2_with fail
        refine HC.out.mono ?_
        rintro e w1 ⟨rfl, K1⟩
        rw [hg]
        have B1 := B0.keep K1 (by simp)
        have b0 := B1.cell 0
        have b1 := B1.cell 1
        have K01 := K0.trans K1
        have hsz : w.heap.size ≤ w1.heap.size := K01.size
        have hcall2 := nullOf_any A K C m D S ps w1 (SlOf.move HPP.out prodRow_stab (by omega) K1 (by simp) (fun x hx => .inl hx)) (fun b hb => Nat.lt_of_lt_of_le (HSS.out b hb) hsz) (by omega)
        have HC2 := Lib.hid hcall2
        clear hcall2 HC B0
        go_wp2_with fail
        refine HC2.out.mono ?_
        rintro e w2 ⟨rfl, hF, K2⟩
        clear HC2 b0 b1
        have c0 := (B1.keep K2 (by simp)).cell 0
        have hP2 : Prods S w2 (.slice A ps.length C) ps := SlOf.move HPP.out prodRow_stab (by omega) (K1.trans K2) (by simp) (fun x hx => .inl hx)
        obtain ⟨_, _, hv, _, hrd⟩ := SlOf.at hP2
        simp only [Value.slice.injEq, true_and] at hv
        obtain ⟨rfl, rfl⟩ := hv
        obtain ⟨b, o, rfl, hb, hc⟩ := hrd (by omega)
        obtain ⟨prow, hz, hcell, hR⟩ := hc k hlt
        obtain ⟨A2, C2, N2, F2, rfl, hR2, hR3⟩ := hR
        have e0 : w2.cell? ⟨b, o + k * 3, none⟩ = some (.slice A2 ps[k].a.length C2) := hcell 0 (by omega)
        generalize ps[k] = p at e0 hR2 hR3 hlens HRS
        have HF := Lib.hid hF
        have HA := Lib.hid hR2
        have HKW := Lib.hid (K01.trans K2)
        have HLN := Lib.hid hlens
        generalize emptyF ps = L at HF HRS
        have hal : p.a.length ≤ 9223372036854775807 := by obtain ⟨_, ⟨_, _, _, hm, _⟩, h2, _⟩ := hR2; omega
        clear hcell hc hrd hz hP2 hR2 hR3 hF K2 K1 K01 B1 HPP hlens
        go_wp2
        clear c0 e0
        go_loopw [6, 34] (fun out i wr => ∃ j : Nat, j ≤ p.a.length ∧ i = .int .i64 j ∧ GotAt w2 out (leftsAll L (p.a.take j)) wr) (fun _ i _ => p.a.length - (intOf i).toNat)
        case atStart => exact ⟨0, by omega, rfl, OwnL.nil _ _ _ _ _, Keep.refl _ _⟩
        case round =>
          obtain ⟨j, hj, rfl, hGot⟩ := hrel
          by_cases hjl : j < p.a.length
          · have hjl' : (j : Int) < (p.a.length : Int) := by omega
            have HJL := Lib.hid hjl
            have HW : SlOf AltRow S w2 1 (.slice A2 p.a.length C2) p.a := HA.out
            obtain ⟨_, _, hv, _, hr2⟩ := SlOf.at HW
            simp only [Value.slice.injEq, true_and] at hv
            obtain ⟨rfl, rfl⟩ := hv
            obtain ⟨b2, o2, rfl, hb2, hc2⟩ := hr2 (by omega)
            obtain ⟨row, hz2, hcell2, hRr⟩ := hc2 j hjl
            obtain ⟨A3, C3, rfl, hR3⟩ := hRr
            have e0 := hcell2 0 (by omega)
            simp only [Nat.mul_one, Nat.add_zero] at e0
            have e0 := (Keep.cell hGot.2 (v := .slice A3 p.a[j].length C3) e0 (by simp))
            have HSUM : Hid (leftsAll L (p.a.take (j + 1)) = leftsAll L (p.a.take j) ++ leftsTo L p.a[j] p.a[j].length) := Lib.hid (leftsAll_succ L p.a j hjl)
            have HLE : Hid ((leftsAll L (p.a.take j)).length + p.a[j].length ≤ 1000000) := Lib.hid (by have h1 := leftsAll_len L (p.a.take j); have h2 := lens_take9 p.a j hjl; have := HLN.out; omega)
            generalize leftsAll L (p.a.take j) = G0 at hGot HSUM HLE
            generalize p.a[j] = a at e0 hR3 HSUM HLE
            have haL : a.length ≤ 9223372036854775807 := by have := HLE.out; omega
            have HR3 := Lib.hid hR3
            have KG := Lib.hid hGot.2
            have HT1 : Hid (GotAt w2 u6 (G0 ++ leftsTo L a 0) wr) := Lib.hid (by simpa [leftsTo] using hGot)
            clear hcell2 hc2 hr2 hz2 HW hR3 hGot
            obtain ⟨wo, rfl⟩ : ∃ wo : World, wo = wr := ⟨_, rfl⟩
            go_wp2
            clear e0
            go_loopw [6, 40] (fun out i wr => ∃ t : Nat, t ≤ a.length ∧ i = .int .i64 t ∧ GotAt w2 out (G0 ++ leftsTo L a t) wr) (fun _ i _ => a.length - (intOf i).toNat)
            case atStart => exact ⟨0, by omega, rfl, HT1.out⟩
            case round =>
              obtain ⟨t, ht, rfl, hGot⟩ := hrel
              by_cases htl : t < a.length
              · have htl' : (t : Int) < (a.length : Int) := by omega
                have HTL := Lib.hid htl
                have hYs : Syms S wr (.slice A3 a.length C3) a := SlOf.move HR3.out symRow_stab (by omega) hGot.2 (by simp) (fun x hx => .inl hx)
                obtain ⟨_, _, hv, _, hr3⟩ := SlOf.at hYs
                simp only [Value.slice.injEq, true_and] at hv
                obtain ⟨rfl, rfl⟩ := hv
                obtain ⟨b3, o3, rfl, hb3, hc3⟩ := hr3 (by omega)
                obtain ⟨srow, hz3, hcell3, hRs⟩ := hc3 t htl
                obtain ⟨B4, E4, rfl, hR4⟩ := hRs
                have s0 : wr.cell? ⟨b3, o3 + t * 3, none⟩ = some (.int .i64 a[t].k) := hcell3 0 (by omega)
                have s1 : wr.cell? ⟨b3, o3 + t * 3 + 1, none⟩ = some (.slice B4 a[t].r.length E4) := hcell3 1 (by omega)
                have s2 : wr.cell? ⟨b3, o3 + t * 3 + 2, none⟩ = some (.int .i64 a[t].n) := hcell3 2 (by omega)
                have hYt := SlOf.take hYs t (by omega)
                have htk : (a.take t).length = t := by simp; omega
                have HSU : Hid (G0 ++ leftsTo L a (t + 1) = (G0 ++ leftsTo L a t) ++ (if a[t].k = 2 ∧ onlyF L (a.take t) = true then [a[t].n] else [])) := Lib.hid (by rw [leftsTo_succ L a t htl, List.append_assoc]; rfl)
                have hLb : (G0 ++ leftsTo L a t).length ≤ 1000000 := by have h1 := leftsTo_len L a t ht; have h2 := HLE.out; simp only [List.length_append]; omega
                generalize G0 ++ leftsTo L a t = l at hGot HSU hLb
                generalize a[t] = s at s0 s1 s2 hR4 HSU
                obtain ⟨sk, sr, sn⟩ := s
                simp only at s0 s1 s2 hR4 HSU
                have KB := (Keep.refl [] wr).alloc (.cells #[.int .i64 sk, .slice B4 sr.length E4, .int .i64 sn] 39)
                have BS := Blk.new wr #[.int .i64 sk, .slice B4 sr.length E4, .int .i64 sn] 39
                have hon := only_any _ _ _ _ _ _ _ _ L S (a.take t) _ C3 _ (HF.out.keep (hGot.2.trans KB) (by simp) (by simp)) (SlOf.move hYt symRow_stab (by omega) KB (by simp) (fun x hx => .inl hx))
                rw [htk] at hon
                have HON := Lib.hid hon
                have HGT := Lib.hid hGot
                clear hcell3 hc3 hr3 hz3 hYs hYt hR4 hon hGot
                by_cases h2 : sk = 2
                · subst h2
                  have htn : t ≤ C3 := by omega
                  go_wp2_with fail
                  refine HON.out.mono ?_
                  rintro e w5 ⟨rfl, K5⟩
                  have BS5 := BS.keep K5 (by simp)
                  have g2 := BS5.cell 2
                  have KR5 := KB.trans K5
                  have O5 : OwnL IntRow [] w5 w2.heap.size 3 1 u6 l := HGT.out.1.move intRow_stab KR5 (by simp) (fun x hx => .inl hx)
                  have KW5 := HGT.out.2.trans KR5
                  have htn2 : t ≤ a.length := by omega
                  cases hon : onlyF L (a.take t) with
                  | false =>
                    have HFIN : Hid (GotAt w2 u6 (G0 ++ leftsTo L a (t + 1)) w5) := Lib.hid (by
                      rw [HSU.out, if_neg (by rintro ⟨_, h⟩; rw [hon] at h; cases h), List.append_nil]
                      exact ⟨O5, KW5⟩)
                    clear HON HGT HSU hon O5 KW5 KR5 K5 BS5 g2 s0 s1 s2 KB BS
                    go_wp2
                    go_roundw
                    case rel => exact ⟨t + 1, by have := HTL.out; omega, by go_num, HFIN.out⟩
                    case measure => simp [intOf]; have := HTL.out; omega
                  | true =>
                    have HSU2 : Hid (G0 ++ leftsTo L a (t + 1) = l ++ [sn]) := Lib.hid (by rw [HSU.out, if_pos (by simp [hon])])
                    obtain ⟨A5, C5, rfl⟩ := O5.slice
                    obtain ⟨rows, hlr, hown, hel⟩ := O5
                    have HEL := Lib.hid hel
                    have HLR := Lib.hid hlr
                    have HKW5 := Lib.hid KW5
                    have hszz : w2.heap.size ≤ w5.heap.size := KW5.size
                    obtain ⟨i0, hi0, hz0, hz1, hz2⟩ := info_parts info_int
                    clear hel hlr HON HGT HSU hon KW5 KR5 K5 BS5 s0 s1 s2 KB BS
                    go_wp2_with (at_builtin; go_loud (refine wpList_append_lies _ rfl _ _ 44 rfl w2.heap.size 3 i0 (.int .i64 0) 1 8 Tryz.underlying44 hi0 hz0 hz1 hz2 rfl (by decide) _ l.length _ rfl (hown.alloc _) ⟨w5.heap.size, 0, none⟩ 1 1 [.int .i64 sn] rfl rfl (World.news_of_block (Blk.new' _ _ _ (by simp))) (by simp [Value.oneCell']) (by decide) (by unfold maxLen; omega) (by omega) (by simp; omega) _ rfl ?_); intro g cap w7 O7 G7 W7 L7)
                    have K57 := (Keep.refl [] w5).alloc (.cells #[.int .i64 sn] 3)
                    have hap := OwnL.append (R := IntRow) (S := []) (w := w5.alloc (.cells #[.int .i64 sn] 3)) (x := sn) (row := #[.int .i64 sn]) rows HLR.out (fun i hi hi' => ⟨(HEL.out i hi hi').1, (HEL.out i hi hi').2⟩) intRow_stab rfl rfl O7 G7 W7
                    have KF7 := (HKW5.out.trans K57).grown G7 (fun x hx => .inr (by
                      have := hown.lt x hx
                      omega))
                    have HFIN : Hid (GotAt w2 (.slice (some ⟨g, 0, none⟩) (l.length + 1) cap) (G0 ++ leftsTo L a (t + 1)) w7) := Lib.hid (by rw [HSU2.out]; exact ⟨hap, KF7⟩)
                    clear O7 G7 W7 L7 hap KF7 hown
                    go_wp2
                    go_roundw
                    case rel => exact ⟨t + 1, by have := HTL.out; omega, by go_num, HFIN.out⟩
                    case measure => simp [intOf]; have := HTL.out; omega
                · have h2b : (sk == 2) = false := by simpa using h2
                  have HFIN : Hid (GotAt w2 u6 (G0 ++ leftsTo L a (t + 1)) (wr.alloc (.cells #[.int .i64 sk, .slice B4 sr.length E4, .int .i64 sn] 39))) := Lib.hid (by
                    rw [HSU.out, if_neg (by rintro ⟨h, _⟩; exact h2 h), List.append_nil]
                    exact ⟨HGT.out.1.move intRow_stab KB (by simp) (fun x hx => .inl hx), HGT.out.2.trans KB⟩)
                  clear h2 HON HGT HSU
                  go_wp2
                  go_roundw
                  case rel => exact ⟨t + 1, by have := HTL.out; omega, by go_num, HFIN.out⟩
                  case measure => simp [intOf]; have := HTL.out; omega
              · obtain rfl : t = a.length := by omega
                have HFIN : Hid (GotAt w2 u6 (leftsAll L (p.a.take (j + 1))) wr) := Lib.hid (by rw [HSUM.out]; exact hGot)
                clear hGot
                go_wp2
                go_roundw
                case rel => exact ⟨j + 1, by have := HJL.out; omega, by go_num, HFIN.out⟩
                case measure => simp [intOf]; have := HJL.out; omega
          · obtain rfl : j = p.a.length := by omega
            have hI := hGot.ints (by have := leftsAll_len L (p.a.take p.a.length); rw [List.take_length] at this ⊢; have := HLN.out; omega)
            rw [List.take_length] at hI
            have HKK := Lib.hid (HKW.out.trans hGot.2)
            have HC7 := Lib.hid (sort_any _ _ _ _ hI)
            have hszz : w.heap.size ≤ w2.heap.size := HKW.out.size
            clear hGot hI
            go_wp2_with fail
            refine HC7.out.mono ?_
            rintro e w7 ⟨rfl, hI7, b7, hb7, K7⟩
            have HC8 := Lib.hid (compact_any _ _ _ _ hI7)
            have HK7 := Lib.hid (HKK.out.then K7 (fun x hx => by simp at hx; subst hx; right; omega))
            clear hI7 HC7 K7
            go_wp2_with fail
            refine HC8.out.mono ?_
            rintro e w8 ⟨⟨v8, rfl, hI8⟩, b8, hb8, K8⟩
            have HFIN : Hid (IntV w8 w.heap.size v8 R ∧ Keep [] w w8) := Lib.hid ⟨by rw [HRS.out]; exact hI8.low hszz, HK7.out.then K8 (fun x hx => by simp at hx; subst hx; right; omega)⟩
            clear hI8 HC8 K8
            go_wp2
            go_ret
            exact ⟨⟨v8, rfl, HFIN.out.1⟩, HFIN.out.2⟩
      · have hr : leftsR ps k = [] := by unfold leftsR; rw [if_neg]; rintro ⟨_, _, h⟩; omega
        rw [hr]
        clear hr
        have hle : ¬ (k : Int) < (ps.length : Int) := by omega
        go_enter Tryz.func29, Tryz.ntmps29
        go_wp2_with fail
        refine HC.out.mono ?_
        rintro e w1 ⟨rfl, K1⟩
        rw [hg]
        have b0 := (B0.keep K1 (by simp)).cell 0
        go_wp2
        go_ret
        exact ⟨⟨_, rfl, .inl ⟨rfl, _, _, rfl⟩⟩, K0.trans K1⟩
end Go.Proofs.YtacihjabkiedcaaGreatDoor
/- ReachWithin: the walk. -/
namespace Go.Proofs.YtacihjabkiedcaaGreatDoor
open Go Go.RowKit Go.MapKept

theorem IntV.cells {w : World} {base : Nat} {v : Value} {xs : List Int} (h : IntV w base v xs) : ∃ A C, v = .slice A xs.length C ∧ xs.length ≤ 1000000 ∧ (0 < xs.length → ∃ b o, A = some ⟨b, o, none⟩ ∧ ∀ j (hj : j < xs.length), w.cell? ⟨b, o + j, none⟩ = some (.int .i64 xs[j])) := by
  rcases h with ⟨rfl, A, C, rfl⟩ | ⟨b, o, C, rfl, _, _, _, hl, hH⟩
  · exact ⟨A, C, rfl, by simp, fun h => by simp at h⟩
  · refine ⟨_, C, rfl, hl, fun _ => ⟨b, o, rfl, fun j hj => ?_⟩⟩
    have := (hH j (by simpa using hj)).1
    rw [getElem!_pos _ j (by simpa using hj)] at this
    simpa using this
theorem leftsR_nt (ps : List ProdS) (n : Nat) (hn : n < ps.length) (z : Int) (hz : z ∈ leftsR ps n) : ∃ s, Nt ps n s ∧ s.n = z := by
  unfold leftsR at hz
  split at hz
  · have h1 := (compI_sub _).2 z hz
    unfold sortI at h1
    rw [List.mem_mergeSort] at h1
    simp only [Int.toNat_natCast, List.getElem?_eq_getElem hn, Option.map_some, Option.getD_some] at h1
    unfold leftsAll at h1
    obtain ⟨a, ha, h1⟩ := List.mem_flatMap.1 h1
    unfold leftsTo at h1
    obtain ⟨i, hi, h1⟩ := List.mem_flatMap.1 h1
    have hi' : i < a.length := List.mem_range.1 hi
    rw [List.getElem?_eq_getElem hi'] at h1
    simp only at h1
    split at h1
    · rename_i hc
      simp at h1
      exact ⟨a[i], ⟨ps[n], List.getElem?_eq_getElem hn, List.mem_flatten.2 ⟨a, ha, List.getElem_mem _⟩, hc.1⟩, h1.symm⟩
    · simp at h1
  · simp at hz
set_option maxRecDepth 20000 in
set_option maxHeartbeats 4000000 in
theorem reachWithin_walk (A K : Option Addr) (C m D : Nat) (ps : List ProdS) (a b : Int) (w : World) (HP : Prods [] w (.slice A ps.length C) ps) (hmk : m ≤ 9223372036854775807) :
    Calls Tryz.prog 12 #[.agg #[.slice A ps.length C, .slice K m D], .int .i64 a, .int .i64 b] w fun e w' => e = .returned (.bool true) ∧ Keep [] w w' := by
  have K0 := (Keep.refl [] w).alloc (.cells #[.slice A ps.length C, .slice K m D] 25)
  have HP0 : Prods [] _ (.slice A ps.length C) ps := SlOf.move HP prodRow_stab (by omega) K0 (by simp) (fun x hx => .inl hx)
  have B0 := Blk.new w #[.slice A ps.length C, .slice K m D] 25
  clear HP
  have hF := fun n w H => from_any [] A K C m D ps n w H (by simp)
  have HF := Lib.hid hF
  clear hF
  go_enter Tryz.func12, Tryz.ntmps12
  go_wp2_with fail
  refine (awake11_any _).mono ?_
  rintro e w1 ⟨rfl, K1⟩
  have B1 := B0.keep K1 (by simp)
  have b1 := B1.cell
  have HP1 : Prods [] w1 (.slice A ps.length C) ps := SlOf.move HP0 prodRow_stab (by omega) K1 (by simp) (fun x hx => .inl hx)
  go_wp2_with fail
  refine (few_any [] A K C m D ps _ HP1 hmk).mono ?_
  rintro e w2 ⟨⟨fw, rfl⟩, K2⟩
  have B2 := B1.keep K2 (by simp)
  have b2 := B2.cell
  have HP2 : Prods [] w2 (.slice A ps.length C) ps := SlOf.move HP1 prodRow_stab (by omega) K2 (by simp) (fun x hx => .inl hx)
  have KF2 := (K0.trans K1).trans K2
  clear HP0 HP1 B0 B1 b1
  go_wp2_with fail
  refine (HF.out a _ HP2).mono ?_
  rintro e w3 ⟨⟨vx, rfl, hvx⟩, K3⟩
  have B3 := B2.keep K3 (by simp)
  have b3 := B3.cell
  have HP3 : Prods [] w3 (.slice A ps.length C) ps := SlOf.move HP2 prodRow_stab (by omega) K3 (by simp) (fun x hx => .inl hx)
  have KF3 := KF2.trans K3
  obtain ⟨AX, CX, rfl, hCX, hcx⟩ := hvx.cells
  clear HP2 B2 b2 hvx
  go_wp2_with fail
  refine (HF.out b _ HP3).mono ?_
  rintro e w4 ⟨⟨vy, rfl, hvy⟩, K4⟩
  have B4 := B3.keep K4 (by simp)
  have b4 := B4.cell
  have HP4 : Prods [] w4 (.slice A ps.length C) ps := SlOf.move HP3 prodRow_stab (by omega) K4 (by simp) (fun x hx => .inl hx)
  have KF4 := KF3.trans K4
  obtain ⟨AY, CY, rfl, hCY, hcy⟩ := hvy.cells
  clear HP3 B3 b3 hvy HF
  cases fw with
  | false =>
    go_wp2
    go_ret
    exact ⟨rfl, KF4⟩
  | true =>
    by_cases hx0 : (fromR ps a).length = 0
    · rw [hx0]
      clear hcx hcy
      go_wp2
      go_ret
      exact ⟨rfl, KF4⟩
    · by_cases hy0 : (fromR ps b).length = 0
      · rw [hy0]
        have hxf : (((fromR ps a).length : Int) == 0) = false := by simpa using hx0
        clear hcx hcy
        go_wp2
        go_ret
        exact ⟨rfl, KF4⟩
      · have hga : gmay ps = true ∧ 0 ≤ a ∧ a < ps.length := by
          by_cases h : gmay ps = true ∧ 0 ≤ a ∧ a < ps.length
          · exact h
          · exact absurd (by unfold fromR; rw [if_neg h]; rfl) hx0
        have hgb : gmay ps = true ∧ 0 ≤ b ∧ b < ps.length := by
          by_cases h : gmay ps = true ∧ 0 ≤ b ∧ b < ps.length
          · exact h
          · exact absurd (by unfold fromR; rw [if_neg h]; rfl) hy0
        obtain ⟨hg, ha0, ha1⟩ := hga
        obtain ⟨_, hb0, hb1⟩ := hgb
        obtain ⟨x, rfl⟩ : ∃ x : Nat, a = x := ⟨a.toNat, by omega⟩
        obtain ⟨y, rfl⟩ : ∃ y : Nat, b = y := ⟨b.toNat, by omega⟩
        obtain ⟨hl0, hl1⟩ := gmay_len hg
        have hlx : (fromR ps x).length = ps.length := by unfold fromR; rw [if_pos ⟨hg, ha0, ha1⟩, fromF_len]
        have hly : (fromR ps y).length = ps.length := by unfold fromR; rw [if_pos ⟨hg, hb0, hb1⟩, fromF_len]
        have hxF : fromR ps x = fromF ps x := by unfold fromR; rw [if_pos ⟨hg, ha0, ha1⟩]
        have hyF : fromR ps y = fromF ps y := by unfold fromR; rw [if_pos ⟨hg, hb0, hb1⟩]
        have hTR : ∀ i : Nat, (fromR ps x)[y]? = some true → (fromR ps y)[i]? = some true → (fromR ps x)[i]? = some true := by
          rw [hxF, hyF]
          exact fun i h1 h2 => within_trans hg (by omega) (by omega) h1 i h2
        have hLF : ∀ z ∈ leftsR ps x, 0 ≤ z ∧ z < ps.length ∧ (fromR ps x)[z.toNat]? = some true := fun z hz => by
          obtain ⟨s, hs, rfl⟩ := leftsR_nt ps x (by omega) z hz
          have := gmay_nt hg x s hs
          rw [hxF]
          exact ⟨this.1, this.2, within_sym hg (by omega) s hs⟩
        have hlf := lefts_any A K C m D x [] ps w4 HP4 (by simp) (by omega)
        generalize leftsR ps x = l at hLF hlf
        generalize fromR ps x = xs at hTR hLF hlx hcx hCX hx0
        generalize fromR ps y = ys at hTR hly hcy hCY hy0
        obtain ⟨bx, rfl, hcx2⟩ := hcx (by omega)
        obtain ⟨by', rfl, hcy2⟩ := hcy (by omega)
        have HLF := Lib.hid hlf
        have HTR := Lib.hid hTR
        have HLL := Lib.hid hLF
        have HCX := Lib.hid (fun j hj => Keep.cell (T := []) K4 (hcx2 j hj) (by simp))
        have HCY := Lib.hid hcy2
        have g0 := b4 0
        have g1 := b4 1
        have hxl : xs.length ≤ 60 := by omega
        have hyl : ys.length = xs.length := by omega
        have hpl : ps.length = xs.length := by omega
        have hxp : 0 < xs.length := by omega
        have hxa : x < xs.length := by omega
        have hya : y < xs.length := by omega
        clear hlf hTR hLF hcx hcy hcx2 hcy2 b4 hx0 hy0 hxF hyF hlx hly ha1 hb1 ha0 hb0 hl0 hl1 hg HP4
        rw [hyl]
        have hxx : (xs[y]? = some xs[y]) := List.getElem?_eq_getElem hya
        have ey := HCX.out y hya
        have HTR2 : Hid (xs[y] = true → ∀ i : Nat, ys[i]? = some true → xs[i]? = some true) := Lib.hid (fun h i => HTR.out i (by rw [hxx, h]))
        generalize xs[y] = py at ey HTR2
        have HYL := Lib.hid hyl
        rw [hpl] at g0 g1 HLF HLL B4 ⊢
        have hpn : ((xs.length : Int) == 0) = false := beq_eq_false_iff_ne.2 (by omega)
        have h3 : (x : Int) < (xs.length : Int) := by omega
        have h4 : (y : Int) < (xs.length : Int) := by omega
        clear hxx HTR hpl hyl hCY hCX
        go_wp2
        go_loop [11] (fun i => ∃ k : Nat, k ≤ xs.length ∧ i = .int .i64 k) (fun i => xs.length - (intOf i).toNat)
        case atStart => exact ⟨0, by omega, rfl⟩
        case round =>
          obtain ⟨k, hk, rfl⟩ := hrel
          by_cases hlt : k < xs.length
          · have hlt' : (k : Int) < (xs.length : Int) := by omega
            have HLT := Lib.hid hlt
            have e0 := HCX.out k hlt
            have hky : k < ys.length := by rw [HYL.out]; exact hlt
            have f0 := HCY.out k hky
            have HT : Hid (py = true → ys[k] = true → xs[k] = true) := Lib.hid (fun h1 h2 => by
              have := HTR2.out h1 k (by rw [List.getElem?_eq_getElem hky, h2])
              rw [List.getElem?_eq_getElem hlt] at this
              exact Option.some.inj this)
            generalize xs[k] = p1 at e0 HT
            generalize ys[k] = p2 at f0 HT
            clear hky
            have hno : ¬(py = true ∧ p2 = true ∧ p1 = false) := by rintro ⟨h1, h2, h3⟩; have := HT.out h1 h2; rw [h3] at this; cases this
            clear HT HTR2
            cases py <;> cases p2 <;> cases p1
            all_goals (try (exact absurd ⟨rfl, rfl, rfl⟩ hno))
            all_goals (
              clear hno
              go_wp2
              go_round
              case rel => exact ⟨k + 1, by have := HLT.out; omega, by go_num⟩
              case measure => simp [intOf]; have := HLT.out; omega)
          · obtain rfl : k = xs.length := by omega
            clear HTR2 HCY
            go_wp2_with fail
            refine HLF.out.mono ?_
            rintro e w5 ⟨⟨vl, rfl, hvl⟩, K5⟩
            obtain ⟨AL, CL, rfl, hlL, hcl⟩ := hvl.cells
            have HCL := Lib.hid hcl
            have HC5 := Lib.hid (fun j hj => Keep.cell (T := []) K5 (HCX.out j hj) (by simp))
            have KF5 := KF4.trans K5
            clear hcl hvl HLF HCX g0 g1
            go_wp2
            go_loop [13] (fun i => ∃ k : Nat, k ≤ l.length ∧ i = .int .i64 k) (fun i => l.length - (intOf i).toNat)
            case atStart => exact ⟨0, by omega, rfl⟩
            case round =>
              obtain ⟨k, hk, rfl⟩ := hrel
              by_cases hlt : k < l.length
              · have hlt' : (k : Int) < (l.length : Int) := by omega
                have HLT := Lib.hid hlt
                obtain ⟨bl, ol, rfl, hcl⟩ := HCL.out (by omega)
                have e0 := hcl k hlt
                obtain ⟨z0, z1, z2⟩ := HLL.out l[k] (List.getElem_mem _)
                generalize l[k] = z at e0 z0 z1 z2
                obtain ⟨q, rfl⟩ : ∃ q : Nat, z = q := ⟨z.toNat, by omega⟩
                have hq : q < xs.length := by omega
                have r0 := HC5.out q hq
                have hqt : xs[q] = true := by
                  rw [Int.toNat_natCast, List.getElem?_eq_getElem hq] at z2
                  exact Option.some.inj z2
                rw [hqt] at r0
                clear hcl hqt z2 HLL HC5
                go_wp2
                go_round
                case rel => exact ⟨k + 1, by have := HLT.out; omega, by go_num⟩
                case measure => simp [intOf]; have := HLT.out; omega
              · obtain rfl : k = l.length := by omega
                go_wp2
                go_ret
                exact ⟨rfl, KF5⟩
end Go.Proofs.YtacihjabkiedcaaGreatDoor
/- By whom one may begin: the plain law of leftsR. -/
namespace Go.Proofs.YtacihjabkiedcaaGreatDoor
open Go Go.RowKit Go.MapKept

theorem sortI_sorted (xs : List Int) : (sortI xs).Pairwise (fun a b => a ≤ b) := by
  have h := List.pairwise_mergeSort (le := fun x y : Int => decide (x ≤ y)) (fun a b c h1 h2 => by simp at h1 h2 ⊢; omega) (fun a b => by simp; omega) xs
  exact h.imp (fun h => by simpa using h)
theorem compI_mem (xs : List Int) (z : Int) (hz : z ∈ xs) : z ∈ compI xs := by
  have key : ∀ j, j < xs.length → xs.toArray[j]! ∈ compI xs := by
    intro j
    induction j with
    | zero =>
      intro h
      unfold compI Lib.compact Lib.compactUpTo
      exact List.mem_map.2 ⟨0, List.mem_filter.2 ⟨List.mem_range.2 h, Lib.keeps_lt_one _ 0 (by omega)⟩, rfl⟩
    | succ j ih =>
      intro h
      by_cases he : xs.toArray[j + 1]! = xs.toArray[j]!
      · rw [he]; exact ih (by omega)
      · unfold compI Lib.compact Lib.compactUpTo
        exact List.mem_map.2 ⟨j + 1, List.mem_filter.2 ⟨List.mem_range.2 h, Lib.keeps_pos (by simpa using he)⟩, rfl⟩
  obtain ⟨j, hj, rfl⟩ := List.getElem_of_mem hz
  have := key j hj
  rw [getElem!_pos xs.toArray j (by simpa using hj)] at this
  simpa using this
theorem compI_strict (xs : List Int) (h : xs.Pairwise (fun a b => a ≤ b)) : (compI xs).Pairwise (fun a b => a < b) := by
  unfold compI Lib.compact Lib.compactUpTo
  rw [List.pairwise_map, List.pairwise_filter]
  refine List.Pairwise.imp_of_mem ?_ (List.pairwise_lt_range (n := xs.length))
  intro i j hi hj hij _ hk
  have hj' := List.mem_range.1 hj
  have hget : ∀ k, k < xs.length → xs.toArray[k]! = xs[k]! := fun k hk => by
    rw [getElem!_pos xs.toArray k (by simpa using hk), getElem!_pos xs k hk]; simp
  have hne : xs.toArray[j]! ≠ xs.toArray[j - 1]! := by
    intro e
    have := Lib.keeps_neg (d := xs.toArray) (m := j) (by omega) e
    rw [this] at hk
    cases hk
  have hle : ∀ a b, a ≤ b → b < xs.length → xs.toArray[a]! ≤ xs.toArray[b]! := fun a b hab hb => by
    by_cases e : a = b
    · rw [e]; exact Int.le_refl _
    · rw [hget a (by omega), hget b hb, getElem!_pos xs a (by omega), getElem!_pos xs b hb]
      exact List.pairwise_iff_getElem.1 h a b (by omega) hb (by omega)
  have h1 := hle i (j - 1) (by omega) (by omega)
  have h2 := hle (j - 1) j (by omega) hj'
  omega
theorem leftsR_strict (ps : List ProdS) (n : Int) : (leftsR ps n).Pairwise (fun a b => a < b) := by
  unfold leftsR
  split
  · exact compI_strict _ (sortI_sorted _)
  · exact List.Pairwise.nil
/-- Is there such a symbol among these? -/
def symIn (a : List SymS) (z : Int) : Bool := a.any (fun s => decide (s.k = 2) && decide (s.n = z))
def altIn (al : List (List SymS)) (z : Int) : Bool := al.any (fun a => symIn a z)
theorem leftsR_alt (ps : List ProdS) (n : Nat) (hn : n < ps.length) (z : Int) (hz : z ∈ leftsR ps n) : altIn ps[n].a z = true := by
  obtain ⟨s, ⟨p, hp, hs, h2⟩, rfl⟩ := leftsR_nt ps n hn z hz
  rw [List.getElem?_eq_getElem hn] at hp
  obtain rfl := Option.some.inj hp
  obtain ⟨a, ha, hs⟩ := List.mem_flatten.1 hs
  unfold altIn symIn
  exact List.any_eq_true.2 ⟨a, ha, List.any_eq_true.2 ⟨s, hs, by simp [h2]⟩⟩
theorem leftsR_first (ps : List ProdS) (n : Nat) (hg : gmay ps = true) (hn : n < ps.length) (a : List SymS) (ha : a ∈ ps[n].a) (h0 : 0 < a.length) (h2 : a[0].k = 2) : a[0].n ∈ leftsR ps n := by
  unfold leftsR
  rw [if_pos ⟨hg, by omega, by omega⟩]
  refine compI_mem _ _ ?_
  unfold sortI
  rw [List.mem_mergeSort]
  simp only [Int.toNat_natCast, List.getElem?_eq_getElem hn, Option.map_some, Option.getD_some]
  unfold leftsAll leftsTo
  refine List.mem_flatMap.2 ⟨a, ha, List.mem_flatMap.2 ⟨0, List.mem_range.2 h0, ?_⟩⟩
  rw [List.getElem?_eq_getElem h0]
  simp only
  rw [if_pos ⟨h2, by simp [onlyF]⟩]
  simp
end Go.Proofs.YtacihjabkiedcaaGreatDoor
