/- Who is come to: the walk of From. -/
import Derived.Test.YtacihjabkiedcaaGreatDoorH15
import Derived.Test.YtacihjabkiedcaaGreatDoorH7
import Derived.Laws.MakeOwn
import Derived.Test.YtacihjabkiedcaaGreatDoorH2
set_option linter.unusedVariables false
set_option linter.unusedSimpArgs false
namespace Go.Proofs.YtacihjabkiedcaaGreatDoor
open Go Go.RowKit Go.MapKept

theorem gmay_sym {ps : List ProdS} (h : gmay ps = true) : ∀ p ∈ ps, ∀ a ∈ p.a, ∀ s ∈ a, s.k = 2 → 0 ≤ s.n ∧ s.n < ps.length := by
  unfold gmay at h
  simp only [Bool.and_eq_true, Bool.not_eq_true', List.any_eq_false] at h
  intro p hp a ha s hs hk
  have h1 := h.1.1 p hp
  unfold prodBad at h1
  simp only [Bool.not_eq_true, Bool.or_eq_false_iff, List.any_eq_false] at h1
  have h2 := h1.2 a ha
  unfold altOdd at h2
  simp only [Bool.not_eq_true, Bool.or_eq_false_iff, List.any_eq_false] at h2
  have h3 := h2.2 s hs
  unfold symBad at h3
  rw [if_neg (by omega), if_pos hk] at h3
  simp at h3
  omega
theorem gmay_lens {ps : List ProdS} (h : gmay ps = true) : ∀ p ∈ ps, lens p.a ≤ 1000000 := by
  unfold gmay at h
  simp only [Bool.and_eq_true, Bool.not_eq_true', List.any_eq_false] at h
  intro p hp
  have h1 := h.1.1 p hp
  unfold prodBad at h1
  simp only [Bool.not_eq_true, Bool.or_eq_false_iff, List.any_eq_false, decide_eq_false_iff_not] at h1
  have h8 : p.a.length ≤ 8 := by omega
  have h40 : ∀ a ∈ p.a, a.length ≤ 40 := fun a ha => by
    have h2 := h1.2 a ha
    unfold altOdd at h2
    simp only [Bool.not_eq_true, Bool.or_eq_false_iff, decide_eq_false_iff_not] at h2
    omega
  have : ∀ l : List (List SymS), (∀ a ∈ l, a.length ≤ 40) → lens l ≤ 40 * l.length := by
    intro l
    induction l with
    | nil => intro _; simp [lens]
    | cons a l ih =>
      intro hl
      have h1 := ih (fun b hb => hl b (List.mem_cons_of_mem _ hb))
      have h2 := hl a List.mem_cons_self
      simp only [lens, List.map_cons, List.sum_cons, List.length_cons] at h1 ⊢
      omega
  have := this p.a h40
  omega
theorem gmay_len {ps : List ProdS} (h : gmay ps = true) : 0 < ps.length ∧ ps.length ≤ 60 := by
  unfold gmay at h
  simp only [Bool.and_eq_true, decide_eq_true_eq] at h
  exact ⟨h.1.2, h.2⟩
theorem info_bool : (Tryz.prog.info? 4).map (fun i => (i.zero, i.size, i.bytes)) = some (some (.bool false), 1, 1) := by kernel_rfl
theorem make_bools (w : World) (n : Nat) (hn : n ≤ 1000000) : (Instr.makeSlice 29 (.int .i64 n) (.int .i64 n)).run Tryz.prog w = .ok (.slice (some ⟨w.heap.size, 0, none⟩) n n) (w.alloc (.cells (boolC (List.replicate n false)) 4)) := by
  obtain ⟨i0, hi0, hz0, hz1, hz2⟩ := info_parts info_bool
  have h := run_make (P := Tryz.prog) (w := w) 29 4 i0 (.bool false) Tryz.underlying29 hi0 hz0 .i64 .i64 n n (by omega) (by omega) (by rw [hz2]; omega) (by omega)
  rw [h, hz1]
  have e : madeCells (Value.bool false).cells ((n : Int).toNat * 1) = boolC (List.replicate n false) := by
    apply Array.ext'
    have h1 : (madeCells (Value.bool false).cells ((n : Int).toNat * 1)).toList = List.replicate ((n : Int).toNat * 1) (.bool false) := toList_madeCells_one _ _
    rw [h1]
    simp [boolC]
  rw [e]
  simp
/-- The head of a round of From's loops; n0: where the world stood before them. -/
def FrAt (rb mb : Nat) (w4 : World) (q : List Bool × List Int) (wr : World) : Prop := Keep [rb, mb] w4 wr ∧ Blk wr rb (boolC q.1) 4 ∧ SetI wr mb q.2
/-- What From hands back. -/
def fromR (ps : List ProdS) (n : Int) : List Bool := if gmay ps = true ∧ 0 ≤ n ∧ n < ps.length then fromF ps n else []
/-- A row of bools of the call's own, or none. -/
def BoolV (w : World) (lo : Nat) (v : Value) (bs : List Bool) : Prop := (bs = [] ∧ v = .slice none 0 0) ∨ (bs ≠ [] ∧ ∃ rb, v = .slice (some ⟨rb, 0, none⟩) bs.length bs.length ∧ Blk w rb (boolC bs) 4 ∧ lo ≤ rb)

set_option maxRecDepth 20000 in
set_option maxHeartbeats 4000000 in
theorem from_any (S : List Nat) (A K : Option Addr) (C m D : Nat) (ps : List ProdS) (n : Int) (w : World) (HP : Prods S w (.slice A ps.length C) ps) (hS : ∀ b ∈ S, b < w.heap.size) :
    Calls Tryz.prog 16 #[.agg #[.slice A ps.length C, .slice K m D], .int .i64 n] w fun e w' => (∃ v, e = .returned v ∧ BoolV w' w.heap.size v (fromR ps n)) ∧ Keep [] w w' := by
  have K0 := (Keep.refl [] w).alloc (.cells #[.slice A ps.length C, .slice K m D] 25)
  have HP0 : Prods S _ (.slice A ps.length C) ps := SlOf.move HP prodRow_stab (by omega) K0 (by simp) (fun x hx => .inl hx)
  have B0 := Blk.new w #[.slice A ps.length C, .slice K m D] 25
  have hcall := may_any S (.slice A ps.length C) (.slice K m D) ps _ HP0
  have HC := Lib.hid hcall; clear hcall
  have hb0 : BoolV w w.heap.size (.slice none 0 0) [] := .inl ⟨rfl, rfl⟩
  cases hg : gmay ps with
  | false =>
    have hr : fromR ps n = [] := by simp [fromR, hg]
    rw [hr]
    go_enter Tryz.func16, Tryz.ntmps16
    go_wp2_with fail
    refine HC.out.mono ?_
    rintro e w1 ⟨rfl, K1⟩
    rw [hg]
    go_wp2
    go_ret
    exact ⟨⟨_, rfl, .inl ⟨rfl, rfl⟩⟩, K0.trans K1⟩
  | true =>
    obtain ⟨hl0, hl1⟩ := gmay_len hg
    by_cases h0 : n < 0
    · have hr : fromR ps n = [] := by simp only [fromR]; rw [if_neg (by omega)]
      rw [hr]
      go_enter Tryz.func16, Tryz.ntmps16
      go_wp2_with fail
      refine HC.out.mono ?_
      rintro e w1 ⟨rfl, K1⟩
      rw [hg]
      go_wp2
      go_ret
      exact ⟨⟨_, rfl, .inl ⟨rfl, rfl⟩⟩, K0.trans K1⟩
    · by_cases h1 : (ps.length : Int) ≤ n
      · have hr : fromR ps n = [] := by simp only [fromR]; rw [if_neg (by omega)]
        rw [hr]
        have h0' : 0 ≤ n := by omega
        go_enter Tryz.func16, Tryz.ntmps16
        go_wp2_with fail
        refine HC.out.mono ?_
        rintro e w1 ⟨rfl, K1⟩
        rw [hg]
        have b0 := (B0.keep K1 (by simp)).cell 0
        go_wp2
        go_ret
        exact ⟨⟨_, rfl, .inl ⟨rfl, rfl⟩⟩, K0.trans K1⟩
      · have h0' : 0 ≤ n := by omega
        have h1' : n < (ps.length : Int) := by omega
        have hr : fromR ps n = fromF ps n := by simp only [fromR]; rw [if_pos ⟨hg, h0', h1'⟩]
        rw [hr]
        obtain ⟨n, rfl⟩ : ∃ k : Nat, n = k := ⟨n.toNat, by omega⟩
        have hd0 : decide ((n : Int) < 0) = false := by simp
        have hd1 : decide (ps.length ≤ n) = false := by simp; omega
        clear hr h0 h1
        go_enter Tryz.func16, Tryz.ntmps16
        go_wp2_with fail
        refine HC.out.mono ?_
        rintro e w1 ⟨rfl, K1⟩
        rw [hg]
        have B1 := B0.keep K1 (by simp)
        have b0 := B1.cell 0
        have hmk := make_bools w1 ps.length (by omega)
        have hmm := @run_makeMap Tryz.prog
        have W2s : (((w1.alloc (.cells (boolC (List.replicate ps.length false)) 4)).alloc (.cells #[.slice (some ⟨w1.heap.size, 0, none⟩) ps.length ps.length] 29)).heap.size = w1.heap.size + 1 + 1) := by simp
        have HS0 := SetI.new ((w1.alloc (.cells (boolC (List.replicate ps.length false)) 4)).alloc (.cells #[.slice (some ⟨w1.heap.size, 0, none⟩) ps.length ps.length] 29)) 0
        rw [W2s] at HS0
        clear W2s
        obtain ⟨w3, hadd, HS3, K3⟩ := set_add HS0 (n : Int)
        have BR0 := (((Blk.new w1 (boolC (List.replicate ps.length false)) 4).alloc (.cells #[.slice (some ⟨w1.heap.size, 0, none⟩) ps.length ps.length] 29)).alloc (.map #[] 0)).keep K3 (by simp; omega)
        have BO0 := ((Blk.new' (w1.alloc (.cells (boolC (List.replicate ps.length false)) 4)) #[.slice (some ⟨w1.heap.size, 0, none⟩) ps.length ps.length] 29 (b := w1.heap.size + 1) (by simp)).alloc (.map #[] 0)).keep K3 (by simp)
        have KA := ((((Keep.refl [] w1).alloc (.cells (boolC (List.replicate ps.length false)) 4)).alloc (.cells #[.slice (some ⟨w1.heap.size, 0, none⟩) ps.length ps.length] 29)).alloc (.map #[] 0)).then K3 (by simp; omega)
        have K4 := (Keep.refl [] w3).alloc (.cells #[.map (some (w1.heap.size + 1 + 1))] 51)
        have BR4 := BR0.keep K4 (by simp)
        have BO4 := BO0.keep K4 (by simp)
        have BT4 := Blk.new w3 #[.map (some (w1.heap.size + 1 + 1))] 51
        have HS4 := HS3.keep K4 (by simp)
        have K14 := KA.trans K4
        have BG4 := B1.keep K14 (by simp)
        have HP4 : Prods (w1.heap.size :: (w1.heap.size + 1 + 1) :: S) _ (.slice A ps.length C) ps := SlOf.move (S := S) (SlOf.move (S' := S) HP0 prodRow_stab (by omega) K1 (by simp) (fun x hx => .inl hx)) prodRow_stab (by omega) K14 (by simp) (fun x hx => by
          rcases List.mem_cons.1 hx with rfl | hx
          · exact .inr (Nat.le_refl _)
          · rcases List.mem_cons.1 hx with rfl | hx
            · exact .inr (by omega)
            · exact .inl hx)
        have hsz3 : w1.heap.size + 1 + 1 + 1 ≤ w3.heap.size := by have := K3.size; simp at this; exact this
        have hszw : w.heap.size < w1.heap.size := B1.lt
        have hT0 : ∃ f q, fromL ps f q = fromF ps n ∧ pot q < f ∧ OkQ ps.length q ∧ FrAt w1.heap.size (w1.heap.size + 1 + 1) (w3.alloc (.cells #[.map (some (w1.heap.size + 1 + 1))] 51)) q (w3.alloc (.cells #[.map (some (w1.heap.size + 1 + 1))] 51)) :=
          ⟨_, (List.replicate ps.length false, [(n : Int)]), rfl, by simp [pot, falses, List.countP_replicate] <;> omega, ⟨by simp, fun x hx => by simp at hx; subst hx; omega⟩, Keep.refl _ _, BR4, by simpa using HS4⟩
        have HT0 := Lib.hid hT0
        have HBT := Lib.hid BT4
        have HBO := Lib.hid BO4
        have HBG := Lib.hid BG4
        have HPP := Lib.hid HP4
        have HKK := Lib.hid (K0.trans (K1.trans K14))
        have HSS : Hid (∀ b ∈ w1.heap.size :: (w1.heap.size + 1 + 1) :: S, b < (w3.alloc (.cells #[.map (some (w1.heap.size + 1 + 1))] 51)).heap.size) := Lib.hid (fun x hx => by
          rcases List.mem_cons.1 hx with rfl | hx
          · simp <;> omega
          · rcases List.mem_cons.1 hx with rfl | hx
            · simp <;> omega
            · have := hS x hx; simp; omega)
        have hmf : ∀ (fn : Fn) (first cap : Array Value) (w : World), (Instr.makeFunc fn first cap).run Tryz.prog w = .ok (.func fn first cap) w := fun _ _ _ _ => rfl
        have HG := Lib.hid hg
        clear hT0 BT4 BO4 BG4 HP4 K14 BR4 HS4 K4 KA BO0 BR0 HS0 HS3 K3 HP0 HP K0 hg B0
        go_wp2_with fail
        clear hadd hmk hmm b0
        go_loopw [8] (fun _ wr => ∃ f q, fromL ps f q = fromF ps n ∧ pot q < f ∧ OkQ ps.length q ∧ FrAt w1.heap.size (w1.heap.size + 1 + 1) (w3.alloc (.cells #[.map (some (w1.heap.size + 1 + 1))] 51)) q wr) (fun _ wr => 2 * falseN wr w1.heap.size + entN wr (w1.heap.size + 1 + 1))
        case atStart => exact HT0.out
        case round =>
          clear HT0
          obtain ⟨f, q, hgo, hpf, hok, Kr, BRr, HSr⟩ := hrel
          have BTr := HBT.out.keep Kr (by simp; omega)
          have BOr := HBO.out.keep Kr (by simp)
          have BGr := HBG.out.keep Kr (by simp; omega)
          have t0 := BTr.cell 0
          have g0 := BGr.cell 0
          have o0 := BOr.cell 0
          have hlen := fun ty => set_len HSr ty
          obtain ⟨f, rfl⟩ : ∃ m, f = m + 1 := ⟨f - 1, by omega⟩
          by_cases hq0 : q.2 = []
          · have hq0' : q.2.length = 0 := by rw [hq0]; rfl
            rw [hq0'] at hlen
            have hres : fromF ps (n : Int) = q.1 := by rw [← hgo]; simp [fromL, hq0]
            have hql : q.1.length = ps.length := hok.1
            have HFIN : Hid (BoolV wr w.heap.size (.slice (some ⟨w1.heap.size, 0, none⟩) ps.length ps.length) (fromF ps (n : Int)) ∧ Keep [] w wr) := Lib.hid ⟨.inr ⟨by rw [hres]; intro e; rw [e] at hql; simp at hql; omega, _, by rw [hres, hql], by rw [hres]; exact BRr, by omega⟩, HKK.out.then Kr (fun x hx => by simp at hx; rcases hx with rfl | rfl <;> (right; omega))⟩
            clear hgo hok BRr HSr hq0 hres hql hpf
            go_wp2
            go_ret
            exact ⟨⟨_, rfl, HFIN.out.1⟩, HFIN.out.2⟩
          · have hql0 : 0 < q.2.length := List.length_pos_iff.2 hq0
            have hql0' : (0 : Int) < (q.2.length : Int) := by omega
            obtain ⟨x, hx⟩ := List.exists_mem_of_ne_nil _ hq0
            obtain ⟨hx0, hx1⟩ := hok.2 x hx
            obtain ⟨x, rfl⟩ : ∃ y : Nat, x = y := ⟨x.toNat, by omega⟩
            have hst := passF_strict ps q x (by omega) hx ps.length (by omega)
            have hgo2 : fromL ps f (passF ps ps.length q) = fromF ps n := by rw [← hgo]; simp [fromL, hq0]
            have hok2 := okQ_pass hok (gmay_sym HG.out) ps.length
            have hm1 : 2 * falseN wr w1.heap.size + entN wr (w1.heap.size + 1 + 1) = pot q := by rw [falseN_of BRr, entN_of HSr]; rfl
            have HHH : Hid (pot (passF ps ps.length q) < pot q ∧ pot q < f + 1 ∧ fromL ps f (passF ps ps.length q) = fromF ps n ∧ OkQ ps.length (passF ps ps.length q) ∧ OkQ ps.length q ∧ 2 * falseN wr w1.heap.size + entN wr (w1.heap.size + 1 + 1) = pot q) := Lib.hid ⟨hst, hpf, hgo2, hok2, hok, hm1⟩
            have hT1 : FrAt w1.heap.size (w1.heap.size + 1 + 1) (w3.alloc (.cells #[.map (some (w1.heap.size + 1 + 1))] 51)) (passF ps 0 q) wr := ⟨Kr, BRr, HSr⟩
            have HT1 := Lib.hid hT1
            clear hst hgo2 hok2 hm1 hT1 hpf hgo hok hq0 hx hx0 hx1 Kr BRr HSr BTr BOr BGr
            go_wp2_with fail
            clear t0 o0 hlen g0
            obtain ⟨wo, rfl⟩ : ∃ wo : World, wo = wr := ⟨_, rfl⟩
            go_loopw [8, 37] (fun _ i wr => ∃ k : Nat, k ≤ ps.length ∧ i = .int .i64 k ∧ FrAt w1.heap.size (w1.heap.size + 1 + 1) (w3.alloc (.cells #[.map (some (w1.heap.size + 1 + 1))] 51)) (passF ps k q) wr) (fun _ i _ => ps.length - (intOf i).toNat)
            case atStart => exact ⟨0, by omega, rfl, HT1.out⟩
            case round =>
              clear HT1
              obtain ⟨k, hk, rfl, Kr, BRr, HSr⟩ := hrel
              by_cases hlt : k < ps.length
              · have hlt' : (k : Int) < (ps.length : Int) := by omega
                have HLT := Lib.hid hlt
                have BTr := HBT.out.keep Kr (by simp; omega)
                have BOr := HBO.out.keep Kr (by simp)
                have BGr := HBG.out.keep Kr (by simp; omega)
                have t0 := BTr.cell 0
                have HSU : Hid (passF ps (k + 1) q = stepF ps (passF ps k q) k) := Lib.hid (passF_succ _ _ _)
                have hql : (passF ps k q).1.length = ps.length := by rw [passF_len]; exact HHH.out.2.2.2.2.1.1
                generalize passF ps k q = q' at BRr HSr HSU hql
                have hlook := set_look HSr (k : Int)
                by_cases hin : (k : Int) ∈ q'.2
                · have hdec : decide ((k : Int) ∈ q'.2) = true := by simp [hin]
                  rw [hdec] at hlook
                  have hcall := look_any (w1.heap.size :: (w1.heap.size + 1 + 1) :: S) w3.heap.size w.heap.size (w1.heap.size + 1) w1.heap.size (w1.heap.size + 1 + 1) ps.length k A K 0 C m D ps q'.1 q'.2 wr hlt (by omega) (gmay_lens HG.out) (by rw [hql]; exact gmay_sym HG.out) (by omega) (fun b hb => Nat.lt_of_lt_of_le (HSS.out b hb) Kr.size) (by simp) (by simp)
                    BTr BGr (by rw [hql]; exact BOr) BRr HSr ⟨by omega, by omega, by omega⟩ (SlOf.move HPP.out prodRow_stab (by omega) Kr (fun x hx => .inl (by simp at hx ⊢; rcases hx with h | h <;> simp [h])) (fun x hx => .inl hx))
                  have HC := Lib.hid hcall
                  have HST : Hid (stepF ps q' k = ps[k].a.flatten.foldl lookF (q'.1, q'.2.erase (k : Int))) := Lib.hid (by unfold stepF; rw [List.getElem?_eq_getElem hlt]; simp only [hin, if_true]; rfl)
                  have HKr := Lib.hid Kr
                  clear hcall hin hdec hql BTr BOr BGr BRr HSr Kr
                  go_wp2_with fail
                  refine HC.out.mono ?_
                  rintro e w5 ⟨rfl, BR5, HS5, K5⟩
                  have HFIN : Hid (FrAt w1.heap.size (w1.heap.size + 1 + 1) (w3.alloc (.cells #[.map (some (w1.heap.size + 1 + 1))] 51)) (passF ps (k + 1) q) w5) := Lib.hid ⟨HKr.out.trans K5, by rw [HSU.out, HST.out]; exact BR5, by rw [HSU.out, HST.out]; exact HS5⟩
                  clear hlook t0 HC BR5 HS5 K5
                  go_wp2
                  go_roundw
                  case rel => exact ⟨k + 1, by have := HLT.out; omega, by go_num, HFIN.out⟩
                  case measure => simp [intOf]; have := HLT.out; omega
                · have hdec : decide ((k : Int) ∈ q'.2) = false := by simp [hin]
                  rw [hdec] at hlook
                  have hst : stepF ps q' k = q' := by unfold stepF; rw [List.getElem?_eq_getElem hlt]; simp only [hin, if_false]
                  have HFIN : Hid (FrAt w1.heap.size (w1.heap.size + 1 + 1) (w3.alloc (.cells #[.map (some (w1.heap.size + 1 + 1))] 51)) (passF ps (k + 1) q) wr) := Lib.hid ⟨Kr, by rw [HSU.out, hst]; exact BRr, by rw [HSU.out, hst]; exact HSr⟩
                  clear hst hin hdec hql BTr BOr BGr BRr HSr Kr
                  go_wp2
                  go_roundw
                  case rel => exact ⟨k + 1, by have := HLT.out; omega, by go_num, HFIN.out⟩
                  case measure => simp [intOf]; have := HLT.out; omega
              · obtain rfl : k = ps.length := by omega
                obtain ⟨p1, p2, p3, p4, p5, p6⟩ := HHH.out
                have hm2 : 2 * falseN wr w1.heap.size + entN wr (w1.heap.size + 1 + 1) = pot (passF ps ps.length q) := by rw [falseN_of BRr, entN_of HSr]; rfl
                have HFIN : Hid ((∃ f q, fromL ps f q = fromF ps n ∧ pot q < f ∧ OkQ ps.length q ∧ FrAt w1.heap.size (w1.heap.size + 1 + 1) (w3.alloc (.cells #[.map (some (w1.heap.size + 1 + 1))] 51)) q wr) ∧ 2 * falseN wr w1.heap.size + entN wr (w1.heap.size + 1 + 1) < 2 * falseN wo w1.heap.size + entN wo (w1.heap.size + 1 + 1)) := Lib.hid ⟨⟨f, passF ps ps.length q, p3, by omega, p4, Kr, BRr, HSr⟩, by omega⟩
                clear p1 p2 p3 p4 p5 p6 hm2 BRr HSr Kr
                go_wp2
                exact HFIN.out
end Go.Proofs.YtacihjabkiedcaaGreatDoor
namespace Go.Proofs.YtacihjabkiedcaaGreatDoor
open Go Go.RowKit Go.MapKept

/-- The place of a bool. -/
def idxB (bs : List Bool) (x : Bool) : Int := match bs.findIdx? (fun b => b == x) with
  | some i => i
  | none => -1
theorem idxB_hit (bs : List Bool) (x : Bool) (k : Nat) (h : k < bs.length) (hx : bs[k] = x) (hn : ∀ j (hj : j < k), bs[j]'(by omega) ≠ x) : idxB bs x = k := by
  have : bs.findIdx? (fun b => b == x) = some k := by
    rw [List.findIdx?_eq_some_iff_getElem]
    exact ⟨h, by simp [hx], fun j hj => by simp [hn j hj]⟩
  unfold idxB
  rw [this]
theorem idxB_miss (bs : List Bool) (x : Bool) (hn : ∀ j (hj : j < bs.length), bs[j] ≠ x) : idxB bs x = -1 := by
  have : bs.findIdx? (fun b => b == x) = none := by
    rw [List.findIdx?_eq_none_iff]
    intro b hb
    obtain ⟨j, hj, rfl⟩ := List.getElem_of_mem hb
    simp [hn j hj]
  unfold idxB
  rw [this]
theorem BoolV.cells {w : World} {lo : Nat} {v : Value} {bs : List Bool} (h : BoolV w lo v bs) : ∃ A C, v = .slice A bs.length C ∧ bs.length ≤ C ∧ (0 < bs.length → ∃ b, A = some ⟨b, 0, none⟩ ∧ ∀ i (hi : i < bs.length), w.cell? ⟨b, i, none⟩ = some (.bool bs[i])) := by
  rcases h with ⟨rfl, rfl⟩ | ⟨hne, rb, rfl, hB, _⟩
  · exact ⟨none, 0, rfl, by simp, fun h => absurd h (by simp)⟩
  · exact ⟨_, _, rfl, Nat.le_refl _, fun _ => ⟨rb, rfl, fun i hi => by rw [hB.cell, boolC_at _ _ hi]⟩⟩
theorem BoolV.keep {w w' : World} {lo : Nat} {v : Value} {bs : List Bool} {S : List Nat} (h : BoolV w lo v bs) (K : Keep S w w') (hS : ∀ b ∈ S, b < lo) : BoolV w' lo v bs := by
  rcases h with ⟨rfl, rfl⟩ | ⟨hne, rb, rfl, hB, hlo⟩
  · exact .inl ⟨rfl, rfl⟩
  · exact .inr ⟨hne, rb, rfl, hB.keep K (fun hb => by have := hS rb hb; omega), hlo⟩
theorem BoolV.mono {w : World} {lo lo' : Nat} {v : Value} {bs : List Bool} (h : BoolV w lo v bs) (hl : lo' ≤ lo) : BoolV w lo' v bs := by
  rcases h with h | ⟨hne, rb, h1, hB, hlo⟩
  · exact .inl h
  · exact .inr ⟨hne, rb, h1, hB, by omega⟩

set_option maxHeartbeats 2000000 in
theorem bindex_any (lo : Nat) (v : Value) (bs : List Bool) (x : Bool) (w : World) (H : BoolV w lo v bs) (hn : bs.length ≤ 1000000) :
    Calls Tryz.prog 43 #[v, .bool x] w fun e w' => e = .returned (.int .i64 (idxB bs x)) ∧ w' = w := by
  obtain ⟨A, C, rfl, hC, hc⟩ := H.cells
  have HH := Lib.hid hc; clear hc H
  go_enter Tryz.func43, Tryz.ntmps43
  go_wp2
  go_loop [5, 8] (fun _ i => ∃ k : Nat, k ≤ bs.length ∧ i = .int .i64 k ∧ Hid (∀ j (hj : j < k) (hl : j < bs.length), bs[j] ≠ x)) (fun _ i => bs.length - (intOf i).toNat)
  case atStart => exact ⟨0, by omega, rfl, Lib.hid (fun j hj => by omega)⟩
  case round =>
    obtain ⟨k, hk, rfl, hno⟩ := hrel
    by_cases hlt : k < bs.length
    · have hlt' : (k : Int) < (bs.length : Int) := by omega
      obtain ⟨b, rfl, hc⟩ := HH.out (by omega)
      have e0 := hc k hlt
      have HLT := Lib.hid hlt
      clear hc
      cases hx : (x == bs[k])
      · have hne : bs[k] ≠ x := fun e => by rw [e] at hx; simp at hx
        have hno2 : Hid (∀ j (hj : j < k + 1) (hl : j < bs.length), bs[j] ≠ x) := Lib.hid (fun j hj hl => by
          by_cases e : j = k
          · subst e; exact hne
          · exact hno.out j (by omega) hl)
        generalize bs[k] = bk at e0 hx hne
        clear hne hno
        go_wp2
        go_round
        case rel => exact ⟨k + 1, by have := HLT.out; omega, by go_num, hno2⟩
        case measure => simp [intOf]; have := HLT.out; omega
      · have heq : bs[k] = x := by
          have : x = bs[k] := by simpa using hx
          exact this.symm
        have hres : idxB bs x = k := idxB_hit bs x k hlt heq (fun j hj => hno.out j hj (by omega))
        have HRES := Lib.hid hres
        generalize bs[k] = bk at e0 hx heq
        clear heq hres hno
        go_wp2
        go_ret
        rw [HRES.out]
        exact ⟨rfl, rfl⟩
    · have hres : idxB bs x = -1 := idxB_miss bs x (fun j hj => hno.out j (by omega) hj)
      have HRES := Lib.hid hres
      clear hres hno
      go_wp2
      go_ret
      rw [HRES.out]
      exact ⟨rfl, rfl⟩

/-- What Lost hands back. -/
def lostR (ps : List ProdS) : Int := if (fromR ps 0).length = 0 then -1 else idxB ((fromR ps 0).set 0 true) false
theorem fromR_len (ps : List ProdS) (n : Int) : (fromR ps n).length ≤ 60 := by
  unfold fromR
  split
  · rename_i h
    rw [fromF_len]
    exact (gmay_len h.1).2
  · simp
set_option maxHeartbeats 2000000 in
theorem lost_any (S : List Nat) (A K : Option Addr) (C m D : Nat) (ps : List ProdS) (w : World) (HP : Prods S w (.slice A ps.length C) ps) (hS : ∀ b ∈ S, b < w.heap.size) :
    Calls Tryz.prog 20 #[.agg #[.slice A ps.length C, .slice K m D]] w fun e w' => e = .returned (.int .i64 (lostR ps)) ∧ Keep [] w w' := by
  have K0 := (Keep.refl [] w).alloc (.cells #[.slice A ps.length C, .slice K m D] 25)
  have HP0 : Prods S _ (.slice A ps.length C) ps := SlOf.move HP prodRow_stab (by omega) K0 (by simp) (fun x hx => .inl hx)
  have hcall := from_any S A K C m D ps 0 _ HP0 (fun b hb => Nat.lt_of_lt_of_le (hS b hb) K0.size)
  have HC := Lib.hid hcall; clear hcall HP0 HP
  have hlen := fromR_len ps 0
  have hres : lostR ps = if (fromR ps 0).length = 0 then -1 else idxB ((fromR ps 0).set 0 true) false := rfl
  have HRES := Lib.hid hres; clear hres
  generalize fromR ps 0 = bs at HC hlen HRES
  go_enter Tryz.func20, Tryz.ntmps20
  go_wp2_with fail
  refine HC.out.mono ?_
  rintro e w1 ⟨⟨v, rfl, hB⟩, K1⟩
  clear HC
  rcases hB with ⟨rfl, rfl⟩ | ⟨hne, rb, rfl, hB, hlo⟩
  · go_wp2
    go_ret
    rw [HRES.out]
    exact ⟨rfl, K0.trans K1⟩
  · have hl0 : 0 < bs.length := List.length_pos_iff.2 hne
    have hl0b : ((bs.length : Int) == 0) = false := beq_eq_false_iff_ne.2 (by omega)
    have c0 := hB.cell 0
    rw [boolC_at _ _ hl0] at c0
    have f0 := hB.frozen 0
    have hB2 : Blk (w1.setCell ⟨rb, 0, none⟩ (.bool true)) rb (boolC (bs.set 0 true)) 4 := by rw [← boolC_set]; exact hB.set 0 (.bool true)
    have hV : BoolV (w1.setCell ⟨rb, 0, none⟩ (.bool true)) (w.alloc (.cells #[.slice A ps.length C, .slice K m D] 25)).heap.size (.slice (some ⟨rb, 0, none⟩) bs.length bs.length) (bs.set 0 true) := .inr ⟨fun e => hne (by simpa using e), rb, by simp, hB2, hlo⟩
    have hcall := bindex_any _ _ _ false _ hV (by simp; omega)
    have HC := Lib.hid hcall; clear hcall
    have KS := (K0.trans K1).setCell (p := ⟨rb, 0, none⟩) (.inr (by simp at hlo ⊢; omega)) (.bool true)
    have HKS := Lib.hid KS
    have HNE := Lib.hid hne
    clear hV hB2 KS hne
    go_wp2_with fail
    refine HC.out.mono ?_
    rintro e w2 ⟨rfl, rfl⟩
    go_wp2
    go_ret
    rw [HRES.out, if_neg (by have := List.length_pos_iff.2 HNE.out; omega)]
    exact ⟨rfl, HKS.out⟩
end Go.Proofs.YtacihjabkiedcaaGreatDoor
namespace Go.Proofs.YtacihjabkiedcaaGreatDoor
open Go Go.RowKit Go.MapKept

/-- How a set is told to have a scalar, at this symbol. -/
def SomeOK (sm : List Rng → Bool) (s : SymS) : Prop := s.k ≠ 2 → s.k ≠ 0 → ∀ S v w, Rngs S w v s.r → Calls Tryz.prog 38 #[v] w fun e w' => e = .returned (.bool (sm s.r)) ∧ Keep [] w w'
def vainB (sm : List Rng → Bool) (out : List Bool) (s : SymS) : Bool := if s.k = 2 then !(out.getD s.n.toNat false) else if s.k = 0 then decide (s.r.length = 0) else !(sm s.r)
def makesB (sm : List Rng → Bool) (out : List Bool) (l : List SymS) : Bool := !(l.any (vainB sm out))

set_option maxHeartbeats 2000000 in
theorem vain_any (sm : List Rng → Bool) (ob rb cap : Nat) (out : List Bool) (S : List Nat) (s : SymS) (row : Array Value) (w : World) (BO : Blk w ob #[.slice (some ⟨rb, 0, none⟩) out.length cap] 29) (BR : Blk w rb (boolC out) 4) (hol : out.length ≤ 1000000)
    (hs : s.k = 2 → 0 ≤ s.n ∧ s.n < out.length) (hsm : SomeOK sm s) (H : SymRow S w s row) :
    Calls Tryz.prog 37 #[.agg row, .pointer (some ⟨ob, 0, none⟩)] w fun e w' => e = .returned (.bool (vainB sm out s)) ∧ Keep [] w w' := by
  obtain ⟨A, C, rfl, hR⟩ := H
  obtain ⟨sk, sr, sn⟩ := s
  simp only at hs hR hsm ⊢
  have hsl : sr.length ≤ 9223372036854775807 := by have := hR; obtain ⟨_, _, _, hm, _⟩ := this; simpa using hm.1
  have K0 := (Keep.refl [] w).alloc (.cells #[.int .i64 sk, .slice A sr.length C, .int .i64 sn] 39)
  by_cases h2 : sk = 2
  · subst h2
    obtain ⟨hs0, hs1⟩ := hs rfl
    obtain ⟨n, rfl⟩ : ∃ k : Nat, sn = k := ⟨sn.toNat, by omega⟩
    have hn : n < out.length := by omega
    have o0 := (BO.alloc (.cells #[.int .i64 2, .slice A sr.length C, .int .i64 n] 39)).cell 0
    have r0 := (BR.alloc (.cells #[.int .i64 2, .slice A sr.length C, .int .i64 n] 39)).cell n
    rw [boolC_at _ _ hn] at r0
    have hres : vainB sm out ⟨2, sr, (n : Int)⟩ = !out[n] := by simp [vainB, hn]
    rw [hres]
    have hn' : (n : Int) < (out.length : Int) := by omega
    generalize out[n] = bn at r0 ⊢
    clear hres hs hsm hs0 hs1 hR
    go_enter Tryz.func37, Tryz.ntmps37
    go_wp2
    go_ret
    exact ⟨rfl, K0⟩
  · by_cases h0 : sk = 0
    · subst h0
      have hres : vainB sm out ⟨0, sr, sn⟩ = ((sr.length : Int) == 0) := by rw [Bool.eq_iff_iff]; simp [vainB]
      rw [hres]
      clear hres hs hsm hR h2
      go_enter Tryz.func37, Tryz.ntmps37
      go_wp2
      go_ret
      exact ⟨rfl, K0⟩
    · have hres : vainB sm out ⟨sk, sr, sn⟩ = !(sm sr) := by simp [vainB, h2, h0]
      rw [hres]
      have h2b : (sk == 2) = false := by simpa using h2
      have h0b : (sk == 0) = false := by simpa using h0
      have hcall := hsm h2 h0 S _ _ (Sl.move hR (by omega) K0 (by simp) (fun x hx => .inl hx))
      have HC := Lib.hid hcall
      clear hres hs hsm hR h2 h0 hcall
      go_enter Tryz.func37, Tryz.ntmps37
      go_wp2_with fail
      refine HC.out.mono ?_
      rintro e w1 ⟨rfl, K1⟩
      go_wp2
      go_ret
      exact ⟨rfl, K0.trans K1⟩
set_option maxHeartbeats 2000000 in
theorem makes_any (sm : List Rng → Bool) (vb ob rb cap : Nat) (out : List Bool) (S : List Nat) (l : List SymS) (row : Array Value) (w : World) (BV : Blk w vb #[.func (.func 37) #[] #[.pointer (some ⟨ob, 0, none⟩)]] 55) (BO : Blk w ob #[.slice (some ⟨rb, 0, none⟩) out.length cap] 29) (BR : Blk w rb (boolC out) 4) (hol : out.length ≤ 1000000)
    (hs : ∀ s ∈ l, s.k = 2 → 0 ≤ s.n ∧ s.n < out.length) (hsm : ∀ s ∈ l, SomeOK sm s) (H : AltRow S w l row) :
    Calls Tryz.prog 39 (#[row.getD 0 undef] ++ #[.pointer (some ⟨vb, 0, none⟩)]) w fun e w' => e = .returned (.bool (makesB sm out l)) ∧ Keep [] w w' := by
  obtain ⟨A, C, rfl, hR⟩ := H
  have c0 := BV.cell 0
  have hp : PredOn l SymRow S w 37 #[.pointer (some ⟨ob, 0, none⟩)] (fun row => .agg row) (vainB sm out) :=
    ⟨fun _ _ => by kernel_rfl, fun s hs' row w' K h => vain_any sm ob rb cap out S s row w' (BO.keep K (by simp)) (BR.keep K (by simp)) hol (hs s hs') (hsm s hs') h⟩
  have hcall := symContainsOn_any S (.slice A l.length C) l _ _ _ w hR hp
  have HC := Lib.hid hcall
  clear hcall hp hs hsm hR
  show Calls _ _ #[.slice A l.length C, .pointer (some ⟨vb, 0, none⟩)] _ _
  go_enter Tryz.func39, Tryz.ntmps39
  go_wp2_with fail
  refine HC.out.mono ?_
  rintro e w1 ⟨rfl, K1⟩
  go_wp2
  go_ret
  exact ⟨rfl, K1⟩
def mstep (sm : List Rng → Bool) (ps : List ProdS) (q : List Bool × Bool) (n : Nat) : List Bool × Bool := match ps[n]? with
  | some p => if q.1[n]? = some false ∧ p.a.any (makesB sm q.1) = true then (q.1.set n true, true) else q
  | none => q
def mpass (sm : List Rng → Bool) (ps : List ProdS) (k : Nat) (q : List Bool × Bool) : List Bool × Bool := (List.range k).foldl (mstep sm ps) q
theorem mpass_succ (sm : List Rng → Bool) (ps : List ProdS) (k : Nat) (q : List Bool × Bool) : mpass sm ps (k + 1) q = mstep sm ps (mpass sm ps k q) k := by
  unfold mpass
  rw [List.range_succ, List.foldl_append]
  rfl
theorem mstep_len (sm : List Rng → Bool) (ps : List ProdS) (q : List Bool × Bool) (n : Nat) : (mstep sm ps q n).1.length = q.1.length := by
  unfold mstep
  split
  · split
    · simp
    · rfl
  · rfl
theorem mpass_len (sm : List Rng → Bool) (ps : List ProdS) (q : List Bool × Bool) : ∀ k, (mpass sm ps k q).1.length = q.1.length
  | 0 => rfl
  | k + 1 => by rw [mpass_succ, mstep_len, mpass_len sm ps q k]
theorem mpass_less (sm : List Rng → Bool) (ps : List ProdS) (out : List Bool) : ∀ k, (mpass sm ps k (out, false)).2 = false ∧ (mpass sm ps k (out, false)).1 = out ∨ (mpass sm ps k (out, false)).2 = true ∧ falses (mpass sm ps k (out, false)).1 < falses out
  | 0 => .inl ⟨rfl, rfl⟩
  | k + 1 => by
    rw [mpass_succ]
    have ih := mpass_less sm ps out k
    generalize mpass sm ps k (out, false) = q at ih
    obtain ⟨q1, q2⟩ := q
    unfold mstep
    split
    · split
      · rename_i h
        have h1 := falses_set q1 k h.1
        right
        refine ⟨rfl, ?_⟩
        simp only at ih ⊢
        rcases ih with ⟨_, h2⟩ | ⟨_, h2⟩
        · rw [h2] at h1 ⊢; omega
        · omega
      · exact ih
    · exact ih
def makesL (sm : List Rng → Bool) (ps : List ProdS) : Nat → List Bool → List Bool
  | 0, out => out
  | f + 1, out => if (mpass sm ps ps.length (out, false)).2 = true then makesL sm ps f (mpass sm ps ps.length (out, false)).1 else (mpass sm ps ps.length (out, false)).1
/-- Of whom there is a text. -/
def makesF (sm : List Rng → Bool) (ps : List ProdS) : List Bool := makesL sm ps (ps.length + 1) (List.replicate ps.length false)
def makesR (sm : List Rng → Bool) (ps : List ProdS) : List Bool := if gmay ps = true then makesF sm ps else []
theorem makesL_len (sm : List Rng → Bool) (ps : List ProdS) : ∀ f out, (makesL sm ps f out).length = out.length
  | 0, out => rfl
  | f + 1, out => by
    unfold makesL
    split
    · rw [makesL_len sm ps f, mpass_len]
    · rw [mpass_len]
theorem makesR_len (sm : List Rng → Bool) (ps : List ProdS) : (makesR sm ps).length ≤ 60 := by
  unfold makesR
  split
  · rename_i h
    simp only [makesF, makesL_len, List.length_replicate]
    exact (gmay_len h).2
  · simp
end Go.Proofs.YtacihjabkiedcaaGreatDoor
namespace Go.Proofs.YtacihjabkiedcaaGreatDoor
open Go Go.RowKit

theorem run_append_none' {t e ty : TypeId} {i : TypeInfo} (ht : Tryz.prog.underlying t = some (.slice e)) (hi : Tryz.prog.info? e = some i) (w : World) (A : Option Addr) (n cap : Nat) (B : Option Addr) (c : Nat) (h : n ≤ cap) :
    (Builtin.append_ #[t, t] ty #[.slice A n cap, .slice B 0 c]).run Tryz.prog w = .ok (.slice A n cap) w := by
  cases A <;> cases B <;> simp [Builtin.append_, run_underlying ht, sizeOf, typeInfo, hi, h, Builtin.lenOf, Builtin.firstCells, loadCells, loadCellsFrom, storeCells]
/-- All cells of an element are single ones. -/
def OneC {α : Type} (R : List Nat → World → α → Array Value → Prop) : Prop := ∀ S w x row, R S w x row → ∀ u ∈ row.toList, u.oneCell' = true
theorem symRow_one : OneC SymRow := by
  rintro S w x row ⟨A, C, rfl, _⟩ u hu
  simp at hu
  rcases hu with rfl | rfl | rfl <;> rfl
theorem altRow_one : OneC AltRow := by
  rintro S w x row ⟨A, C, rfl, _⟩ u hu
  simp at hu
  rcases hu with rfl
  rfl
theorem prodRow_one : OneC ProdRow := by
  rintro S w x row ⟨A, C, N, F, rfl, _⟩ u hu
  simp at hu
  rcases hu with rfl | rfl | rfl <;> rfl
theorem run_append_data {α : Type} {R : List Nat → World → α → Array Value → Prop} (st : Stab R) (hone : OneC R) {t e ty : TypeId} {i : TypeInfo} {z : Value} {k bytes : Nat} (ht : Tryz.prog.underlying t = some (.slice e)) (hi : Tryz.prog.info? e = some i) (hz : i.zero = some z)
    (hsz : i.size = k) (hby : i.bytes = bytes) (hzk : z.cells.size = k) (hk : 0 < k) {S : List Nat} {w : World} {base : Nat} {v : Value} {xs ys : List α} {A : Option Addr} {m C : Nat}
    (h : OwnL R S w base e k v xs) (hy : SlOf R (ownB v ++ S) w k (.slice A m C) ys) (hl : xs.length + ys.length ≤ 1000000) (hb : (xs.length + ys.length) * bytes ≤ 140737488355328) (hbase : base ≤ w.heap.size) :
    ∃ A' C' w', (Builtin.append_ #[t, t] ty #[v, .slice A m C]).run Tryz.prog w = .ok (.slice A' (xs.length + ys.length) C') w' ∧ OwnL R S w' base e k (.slice A' (xs.length + ys.length) C') (xs ++ ys) ∧ Keep (ownB v) w w' ∧ ∀ b ∈ ownB (.slice A' (xs.length + ys.length) C'), b ∈ ownB v ∨ b = w.heap.size := by
  obtain ⟨hm, _, _⟩ := SlOf.len hy
  subst hm
  by_cases h0 : ys.length = 0
  · obtain rfl : ys = [] := List.eq_nil_of_length_eq_zero h0
    have h' := h
    obtain ⟨A', C', rfl⟩ := h.slice
    obtain ⟨rows, h1, h2, h3⟩ := h
    have hcap : xs.length ≤ C' := by
      rcases h2.2 with ⟨_, h4⟩ | ⟨g, cap, cur, hv, _, _, h4, _⟩
      · omega
      · simp only [Value.slice.injEq] at hv; omega
    refine ⟨A', C', w, run_append_none' ht hi w A' xs.length C' A C hcap, by rw [List.append_nil]; exact h', (Keep.refl [] w).mono (by simp), fun b hb => .inl hb⟩
  · obtain ⟨rows, hlr, hown, hel⟩ := h
    obtain ⟨rows2, hs2, hlr2, hel2⟩ := hy
    have hs2' := hs2
    obtain ⟨a5, c5, hv5, hm5, hr5⟩ := hs2'
    rw [hlr2] at hv5
    simp only [Value.slice.injEq, true_and] at hv5
    obtain ⟨rfl, rfl⟩ := hv5
    obtain ⟨b5, o5, rfl, hb5, hc5⟩ := hr5 (by omega)
    have hrs : ∀ i (h : i < rows2.length), rows2[i].size = k := fun i hi => (hc5 i hi).1
    rw [← hlr2] at hs2
    have hnews := Sl.news hk hs2
    have hnl := flat_len k rows2 hrs
    have h1c : ∀ u ∈ rows2.flatMap Array.toList, u.oneCell' = true := fun u hu => by
      obtain ⟨x, hx, hu⟩ := List.mem_flatMap.1 hu
      obtain ⟨i, hi, rfl⟩ := List.getElem_of_mem hx
      exact hone _ _ _ _ (hel2 i (by omega) hi) u hu
    obtain ⟨g, cap, w', hr, ho, hg, hw, _⟩ := run_append_lies (P := Tryz.prog) w t ty base e i z k bytes ht hi hz hsz hby hzk hk v xs.length _ hown ⟨b5, o5, none⟩ rows2.length C _ hnl hnews h1c (by omega) (by unfold maxLen; omega) (by rw [hlr2]; exact hb) hbase _ rfl
    rw [hlr2] at hr ho
    refine ⟨_, _, w', hr, OwnL.appendL (S := S) rows hlr hel st rows2 hlr2 (fun i hi hi' => ⟨hrs i hi', hel2 i hi hi'⟩) ho hg hw, Keep.ofGrown hg, fun b hb => ?_⟩
    have : b = g := by simpa [ownB, Value.ownBlock, eq_comm] using hb
    subst this
    rcases hw with hw | hw
    · exact .inl (by simp [ownB, hw])
    · exact .inr hw
/-- At the operation. -/
theorem wp_append_data {α : Type} {R : List Nat → World → α → Array Value → Prop} (st : Stab R) (hone : OneC R) {o : Oper} {a : Act} {K : Act → World → Prop} {Q : Exit → Act → World → Prop} (s x : Operand) (t : TypeId)
    (ho : o.op = .call { callee := .builtin .append, args := #[s, x], argTypes := #[t, t] }) {e : TypeId} {i : TypeInfo} {z : Value} {k bytes : Nat} (ht : Tryz.prog.underlying t = some (.slice e)) (hi : Tryz.prog.info? e = some i) (hz : i.zero = some z)
    (hsz : i.size = k) (hby : i.bytes = bytes) (hzk : z.cells.size = k) (hk : 0 < k) {S : List Nat} {w : World} {base : Nat} {v : Value} {xs ys : List α} {A : Option Addr} {m C : Nat} (hs : a.eval s = v) (hx : a.eval x = .slice A m C)
    (h : OwnL R S w base e k v xs) (hy : SlOf R (ownB v ++ S) w k (.slice A m C) ys) (hl : xs.length + ys.length ≤ 1000000) (hb : (xs.length + ys.length) * bytes ≤ 140737488355328) (hbase : base ≤ w.heap.size)
    (hK : ∀ A' C' w', OwnL R S w' base e k (.slice A' (xs.length + ys.length) C') (xs ++ ys) → Keep (ownB v) w w' → (∀ b ∈ ownB (.slice A' (xs.length + ys.length) C'), b ∈ ownB v ∨ b = w.heap.size) → K (a.put o.dst (.slice A' (xs.length + ys.length) C')) w') : o.wp Tryz.prog a w K Q := by
  obtain ⟨A', C', w', hr, h2, h3, h4⟩ := run_append_data (ty := o.type) st hone ht hi hz hsz hby hzk hk h hy hl hb hbase
  unfold Oper.wp execOp
  simp only [ho, resolve, invoke, builtin, Sem.run_bind, Sem.run_pure, Result.andThen_ok, List.map_toArray, List.map_cons, List.map_nil, hs, hx, hr]
  exact hK A' C' w' h2 h3 h4
theorem wpList_append_data {α : Type} {R : List Nat → World → α → Array Value → Prop} (st : Stab R) (hone : OneC R) {ops : Array Oper} {rest : List Oper} {o : Oper} {a : Act} {Q : Exit → Act → World → Prop} (hgd : o.guard = none) (s x : Operand) (t : TypeId)
    (ho : o.op = .call { callee := .builtin .append, args := #[s, x], argTypes := #[t, t] }) {e : TypeId} {i : TypeInfo} {z : Value} {k bytes : Nat} (ht : Tryz.prog.underlying t = some (.slice e)) (hi : Tryz.prog.info? e = some i) (hz : i.zero = some z)
    (hsz : i.size = k) (hby : i.bytes = bytes) (hzk : z.cells.size = k) (hk : 0 < k) {S : List Nat} {w : World} {base : Nat} {v : Value} {xs ys : List α} {A : Option Addr} {m C : Nat} (hs : a.eval s = v) (hx : a.eval x = .slice A m C)
    (h : OwnL R S w base e k v xs) (hy : SlOf R (ownB v ++ S) w k (.slice A m C) ys) (hl : xs.length + ys.length ≤ 1000000) (hb : (xs.length + ys.length) * bytes ≤ 140737488355328) (hbase : base ≤ w.heap.size)
    (hK : ∀ A' C' w', OwnL R S w' base e k (.slice A' (xs.length + ys.length) C') (xs ++ ys) → Keep (ownB v) w w' → (∀ b ∈ ownB (.slice A' (xs.length + ys.length) C'), b ∈ ownB v ∨ b = w.heap.size) → wpList Tryz.prog ops Q rest (a.put o.dst (.slice A' (xs.length + ys.length) C')) w') : wpList Tryz.prog ops Q (o :: rest) a w :=
  wpList_plain hgd fun _ hk2 => wp_append_data st hone s x t ho ht hi hz hsz hby hzk hk hs hx h hy hl hb hbase fun A' C' w' h2 h3 h4 => hk2 _ _ (hK A' C' w' h2 h3 h4)
theorem step_append_data {α : Type} {R : List Nat → World → α → Array Value → Prop} (st : Stab R) (hone : OneC R) {ops : Array Oper} {o : Oper} {a : Act} {K : Act → World → Prop} {Q : Exit → Act → World → Prop} {Z : Prop} (hgd : o.guard = none) (s x : Operand) (t : TypeId)
    (ho : o.op = .call { callee := .builtin .append, args := #[s, x], argTypes := #[t, t] }) {e : TypeId} {i : TypeInfo} {z : Value} {k bytes : Nat} (ht : Tryz.prog.underlying t = some (.slice e)) (hi : Tryz.prog.info? e = some i) (hz : i.zero = some z)
    (hsz : i.size = k) (hby : i.bytes = bytes) (hzk : z.cells.size = k) (hk : 0 < k) {S : List Nat} {w : World} {base : Nat} {v : Value} {xs ys : List α} {A : Option Addr} {m C : Nat} (hs : a.eval s = v) (hx : a.eval x = .slice A m C)
    (h : OwnL R S w base e k v xs) (hy : SlOf R (ownB v ++ S) w k (.slice A m C) ys) (hl : xs.length + ys.length ≤ 1000000) (hb : (xs.length + ys.length) * bytes ≤ 140737488355328) (hbase : base ≤ w.heap.size)
    (hK : ∀ A' C' w', OwnL R S w' base e k (.slice A' (xs.length + ys.length) C') (xs ++ ys) → Keep (ownB v) w w' → (∀ b ∈ ownB (.slice A' (xs.length + ys.length) C'), b ∈ ownB v ∨ b = w.heap.size) → K (a.put o.dst (.slice A' (xs.length + ys.length) C')) w') :
    if Region.wanted o (yielded ops a.tmps) = true then Oper.wp Tryz.prog o a w K Q else Z := by
  have hw : Region.wanted o (yielded ops a.tmps) = true := by simp [Region.wanted, hgd]
  rw [if_pos hw]
  exact wp_append_data st hone s x t ho ht hi hz hsz hby hzk hk hs hx h hy hl hb hbase hK
theorem flat_setJ (k : Nat) : ∀ (l : List (Array Value)) (n j : Nat) (u : Value), (∀ i (h : i < l.length), l[i].size = k) → j < k → (h : n < l.length) → (l.flatMap Array.toList).set (n * k + j) u = (l.set n (l[n].setIfInBounds j u)).flatMap Array.toList
  | [], n, j, u, hl, hj, h => by simp at h
  | a :: l, 0, j, u, hl, hj, h => by
    have ha : a.size = k := hl 0 (by simp)
    simp only [List.flatMap_cons, List.set_cons_zero, List.getElem_cons_zero, Nat.zero_mul, Nat.zero_add]
    rw [List.set_append_left _ _ (by simp [ha]; exact hj), Array.toList_setIfInBounds]
  | a :: l, n + 1, j, u, hl, hj, h => by
    have ha : a.size = k := hl 0 (by simp)
    have ih := flat_setJ k l n j u (fun i hi => hl (i + 1) (by simpa using hi)) hj (by simpa using h)
    simp only [List.flatMap_cons, List.set_cons_succ, List.getElem_cons_succ]
    rw [List.set_append_right _ _ (by simp [ha, Nat.succ_mul]; omega), ← ih]
    congr 2
    simp [ha, Nat.succ_mul]; omega
/-- One cell of one element is stored. -/
theorem OwnL.store {α : Type} {R : List Nat → World → α → Array Value → Prop} (st : Stab R) {S : List Nat} {w : World} {base g C : Nat} {E : TypeId} {k : Nat} {xs : List α} (h : OwnL R S w base E k (.slice (some ⟨g, 0, none⟩) xs.length C) xs) (n j : Nat) (u : Value) (x : α)
    (hn : n < xs.length) (hj : j < k) (hx : ∀ row : Array Value, row.size = k → R ([g] ++ S) w xs[n] row → R ([g] ++ S) w x (row.setIfInBounds j u)) :
    OwnL R S (w.setCell ⟨g, n * k + j, none⟩ u) base E k (.slice (some ⟨g, 0, none⟩) xs.length C) (xs.set n x) := by
  obtain ⟨rows, h1, h2, h3⟩ := h
  have hob : ownB (.slice (some ⟨g, 0, none⟩) xs.length C) = [g] := rfl
  rw [hob] at h3
  have K : Keep [g] w (w.setCell ⟨g, n * k + j, none⟩ u) := (Keep.refl [g] w).setCell (.inl (by simp)) u
  have hrs : ∀ i (h : i < rows.length), rows[i].size = k := fun i hi => (h3 i (by omega) hi).1
  refine ⟨rows.set n ((rows[n]'(by omega)).setIfInBounds j u), by simp [h1], ?_, fun i hi hi' => ?_⟩
  · have hfl := flat_len k rows hrs
    have hfs := flat_setJ k rows n j u hrs hj (by omega)
    obtain ⟨hA, hB⟩ := h2
    rw [← hfs]
    rw [List.length_set]
    refine ⟨by rw [List.length_set]; exact hA, ?_⟩
    rcases hB with ⟨h4, h5⟩ | ⟨g', cap, cur, hv, hb, hgg, hnc, hcm, hcs, htk⟩
    · omega
    · right
      simp only [Value.slice.injEq, Option.some.injEq, Addr.mk.injEq, and_true, true_and] at hv
      obtain ⟨rfl, rfl⟩ := hv
      have hlt : n * k + j < cur.size := by
        rw [hcs]
        have h6 : (n + 1) * k ≤ xs.length * k := Nat.mul_le_mul_right k hn
        have h7 : xs.length * k ≤ C * k := Nat.mul_le_mul_right k hnc
        rw [Nat.succ_mul] at h6
        omega
      refine ⟨g, C, cur.setIfInBounds (n * k + j) u, rfl, hb, ?_, hnc, hcm, by simp [hcs], ?_⟩
      · simp [World.setCell, Array.getElem?_modify, hgg]
      · rw [Array.toList_setIfInBounds, List.take_set, htk]
  · rw [hob]
    have hT : ∀ b ∈ [g], b ∈ [g] ++ S ∨ w.heap.size ≤ b := fun b hb => .inl (by simp at hb; simp [hb])
    have hSS : ∀ b ∈ [g] ++ S, b ∈ [g] ++ S ∨ w.heap.size ≤ b := fun b hb => .inl hb
    by_cases e : n = i
    · subst e
      simp only [List.getElem_set_self]
      refine ⟨by rw [Array.size_setIfInBounds]; exact hrs _ _, st _ _ _ _ _ _ _ (hx _ (hrs _ _) (h3 n hn (by omega)).2) K hT hSS⟩
    · simp only [List.getElem_set_ne e]
      exact ⟨hrs i (by simpa using hi'), st _ _ _ _ _ _ _ (h3 i (by simpa using hi) (by simpa using hi')).2 K hT hSS⟩
end Go.Proofs.YtacihjabkiedcaaGreatDoor
namespace Go.Proofs.YtacihjabkiedcaaGreatDoor
open Go Go.RowKit Go.MapKept

theorem lookF_eq (q : List Bool × List Int) (s : SymS) : lookF q s = q ∨ (s.k = 2 ∧ q.1[s.n.toNat]? = some false ∧ lookF q s = (q.1.set s.n.toNat true, addI q.2 s.n)) := by
  unfold lookF
  split
  · rename_i h
    exact .inr ⟨h.1, h.2, rfl⟩
  · exact .inl rfl
theorem mem_addI (l : List Int) (x y : Int) : y ∈ addI l x ↔ y ∈ l ∨ y = x := by
  unfold addI
  split
  · rename_i h
    constructor
    · exact .inl
    · rintro (h1 | rfl)
      · exact h1
      · exact h
  · simp
theorem lookF_out (q : List Bool × List Int) (s : SymS) (i : Nat) (h : (lookF q s).1[i]? = some true) : q.1[i]? = some true ∨ (s.k = 2 ∧ s.n.toNat = i) := by
  rcases lookF_eq q s with e | ⟨h1, _, e⟩
  · rw [e] at h; exact .inl h
  · rw [e] at h
    simp only [List.getElem?_set] at h
    by_cases hi : s.n.toNat = i
    · exact .inr ⟨h1, hi⟩
    · rw [if_neg hi] at h; exact .inl h
theorem lookF_mono (q : List Bool × List Int) (s : SymS) (i : Nat) (h : q.1[i]? = some true) : (lookF q s).1[i]? = some true := by
  rcases lookF_eq q s with e | ⟨h1, h2, e⟩
  · rw [e]; exact h
  · rw [e]
    simp only [List.getElem?_set]
    by_cases hi : s.n.toNat = i
    · rw [hi] at h2; rw [h] at h2; cases h2
    · rw [if_neg hi]; exact h
theorem lookF_hit (q : List Bool × List Int) (s : SymS) (h : s.k = 2) (hb : s.n.toNat < q.1.length) : (lookF q s).1[s.n.toNat]? = some true := by
  unfold lookF
  cases hq : q.1[s.n.toNat] with
  | true =>
    rw [if_neg (by simp [List.getElem?_eq_getElem hb, hq])]
    rw [List.getElem?_eq_getElem hb, hq]
  | false =>
    rw [if_pos ⟨h, by rw [List.getElem?_eq_getElem hb, hq]⟩]
    simp [hb]
theorem lookF_todo (q : List Bool × List Int) (s : SymS) (x : Int) (h : x ∈ (lookF q s).2) : x ∈ q.2 ∨ (s.k = 2 ∧ s.n = x) := by
  rcases lookF_eq q s with e | ⟨h1, _, e⟩
  · rw [e] at h; exact .inl h
  · rw [e] at h
    rcases (mem_addI _ _ _).1 h with h | h
    · exact .inl h
    · exact .inr ⟨h1, h.symm⟩
theorem lookF_grow (q : List Bool × List Int) (s : SymS) (x : Int) (h : x ∈ q.2) : x ∈ (lookF q s).2 := by
  rcases lookF_eq q s with e | ⟨_, _, e⟩
  · rw [e]; exact h
  · rw [e]; exact (mem_addI _ _ _).2 (.inl h)
theorem lookF_new (q : List Bool × List Int) (s : SymS) (i : Nat) (hs : s.k = 2 → 0 ≤ s.n) (h : (lookF q s).1[i]? = some true) (hx : (i : Int) ∉ (lookF q s).2) : q.1[i]? = some true := by
  rcases lookF_eq q s with e | ⟨h1, _, e⟩
  · rw [e] at h; exact h
  · rw [e] at h hx
    simp only [List.getElem?_set] at h
    by_cases hi : s.n.toNat = i
    · exact absurd ((mem_addI _ _ _).2 (.inr (by have := hs h1; omega))) hx
    · rw [if_neg hi] at h; exact h
theorem foldF_out (i : Nat) : ∀ (l : List SymS) (q : List Bool × List Int), (l.foldl lookF q).1[i]? = some true → q.1[i]? = some true ∨ ∃ s ∈ l, s.k = 2 ∧ s.n.toNat = i
  | [], q, h => .inl h
  | s :: l, q, h => by
    rcases foldF_out i l (lookF q s) h with h | ⟨t, ht, h1⟩
    · rcases lookF_out q s i h with h | h
      · exact .inl h
      · exact .inr ⟨s, List.mem_cons_self, h⟩
    · exact .inr ⟨t, List.mem_cons_of_mem _ ht, h1⟩
theorem foldF_mono (i : Nat) : ∀ (l : List SymS) (q : List Bool × List Int), q.1[i]? = some true → (l.foldl lookF q).1[i]? = some true
  | [], q, h => h
  | s :: l, q, h => foldF_mono i l _ (lookF_mono q s i h)
theorem foldF_hit : ∀ (l : List SymS) (q : List Bool × List Int) (s : SymS), s ∈ l → s.k = 2 → s.n.toNat < q.1.length → (l.foldl lookF q).1[s.n.toNat]? = some true
  | t :: l, q, s, hs, hk, hb => by
    rcases List.mem_cons.1 hs with rfl | hs
    · exact foldF_mono _ l _ (lookF_hit q s hk hb)
    · exact foldF_hit l _ s hs hk (by rw [lookF_len]; exact hb)
theorem foldF_todo (x : Int) : ∀ (l : List SymS) (q : List Bool × List Int), x ∈ (l.foldl lookF q).2 → x ∈ q.2 ∨ ∃ s ∈ l, s.k = 2 ∧ s.n = x
  | [], q, h => .inl h
  | s :: l, q, h => by
    rcases foldF_todo x l (lookF q s) h with h | ⟨t, ht, h1⟩
    · rcases lookF_todo q s x h with h | h
      · exact .inl h
      · exact .inr ⟨s, List.mem_cons_self, h⟩
    · exact .inr ⟨t, List.mem_cons_of_mem _ ht, h1⟩
theorem foldF_grow (x : Int) : ∀ (l : List SymS) (q : List Bool × List Int), x ∈ q.2 → x ∈ (l.foldl lookF q).2
  | [], q, h => h
  | s :: l, q, h => foldF_grow x l _ (lookF_grow q s x h)
theorem foldF_new (i : Nat) : ∀ (l : List SymS) (q : List Bool × List Int), (∀ s ∈ l, s.k = 2 → 0 ≤ s.n) → (l.foldl lookF q).1[i]? = some true → (i : Int) ∉ (l.foldl lookF q).2 → q.1[i]? = some true
  | [], q, _, h, _ => h
  | s :: l, q, hs, h, hx => lookF_new q s i (hs s List.mem_cons_self) (foldF_new i l _ (fun t ht => hs t (List.mem_cons_of_mem _ ht)) h hx) (fun hh => hx (foldF_grow _ l _ hh))
/-- A nonterminal's symbols that are nonterminals. -/
def Nt (ps : List ProdS) (m : Nat) (s : SymS) : Prop := ∃ p, ps[m]? = some p ∧ s ∈ p.a.flatten ∧ s.k = 2
/-- What holds between two steps. -/
structure FromI (ps : List ProdS) (n : Nat) (Z : Nat → Prop) (q : List Bool × List Int) : Prop where
  len : q.1.length = ps.length
  ok : ∀ x ∈ q.2, 0 ≤ x ∧ x < ps.length
  shut : ∀ m, (q.1[m]? = some true ∨ m = n) → (m : Int) ∉ q.2 → ∀ s, Nt ps m s → q.1[s.n.toNat]? = some true
  out : ∀ i, q.1[i]? = some true → Z i
  todo : ∀ x ∈ q.2, x = n ∨ Z x.toNat
theorem FromI.step {ps : List ProdS} {n : Nat} {Z : Nat → Prop} (hg : ∀ m s, Nt ps m s → 0 ≤ s.n ∧ s.n < ps.length) (z0 : ∀ s, Nt ps n s → Z s.n.toNat) (z1 : ∀ m s, Z m → Nt ps m s → Z s.n.toNat)
    {q : List Bool × List Int} (h : FromI ps n Z q) (k : Nat) : FromI ps n Z (stepF ps q k) := by
  unfold stepF
  split
  · rename_i p hp
    split
    · rename_i hk
      have hl : ∀ s ∈ p.a.flatten, s.k = 2 → Nt ps k s := fun s hs h2 => ⟨p, hp, hs, h2⟩
      have hZk : ∀ s, Nt ps k s → Z s.n.toNat := fun s hs => by
        rcases h.todo _ hk with e | e
        · have : k = n := by omega
          subst this; exact z0 s hs
        · exact z1 k s (by simpa using e) hs
      refine ⟨by rw [lookFold_len]; exact h.len, fun x hx => ?_, fun m hm hx s hs => ?_, fun i hi => ?_, fun x hx => ?_⟩
      · rcases foldF_todo x _ _ hx with hx | ⟨s, hs, h2, rfl⟩
        · exact h.ok x (List.mem_of_mem_erase hx)
        · exact hg k s (hl s hs h2)
      · by_cases e : m = k
        · subst e
          obtain ⟨p', hp', hs', h2⟩ := hs
          rw [hp] at hp'
          obtain rfl := Option.some.inj hp'
          exact foldF_hit _ _ s hs' h2 (by simp only [h.len]; have := hg m s ⟨p, hp, hs', h2⟩; omega)
        · have hx0 : (m : Int) ∉ q.2.erase (k : Int) := fun hh => hx (foldF_grow _ _ _ hh)
          have hx1 : (m : Int) ∉ q.2 := fun hh => hx0 ((List.mem_erase_of_ne (by omega)).2 hh)
          refine foldF_mono _ _ _ (h.shut m ?_ hx1 s hs)
          rcases hm with hm | hm
          · exact .inl (foldF_new m _ (q.1, q.2.erase (k : Int)) (fun s hs h2 => (hg k s (hl s hs h2)).1) hm hx)
          · exact .inr hm
      · rcases foldF_out i _ _ hi with hi | ⟨s, hs, h2, rfl⟩
        · exact h.out i hi
        · exact hZk s (hl s hs h2)
      · rcases foldF_todo x _ _ hx with hx | ⟨s, hs, h2, rfl⟩
        · exact h.todo x (List.mem_of_mem_erase hx)
        · exact .inr (hZk s (hl s hs h2))
    · exact h
  · exact h
theorem FromI.pass {ps : List ProdS} {n : Nat} {Z : Nat → Prop} (hg : ∀ m s, Nt ps m s → 0 ≤ s.n ∧ s.n < ps.length) (z0 : ∀ s, Nt ps n s → Z s.n.toNat) (z1 : ∀ m s, Z m → Nt ps m s → Z s.n.toNat)
    {q : List Bool × List Int} (h : FromI ps n Z q) : ∀ k, FromI ps n Z (passF ps k q)
  | 0 => h
  | k + 1 => by rw [passF_succ]; exact FromI.step hg z0 z1 (FromI.pass hg z0 z1 h k) k
theorem FromI.last {ps : List ProdS} {n : Nat} {Z : Nat → Prop} (hg : ∀ m s, Nt ps m s → 0 ≤ s.n ∧ s.n < ps.length) (z0 : ∀ s, Nt ps n s → Z s.n.toNat) (z1 : ∀ m s, Z m → Nt ps m s → Z s.n.toNat) :
    ∀ (f : Nat) (q : List Bool × List Int), FromI ps n Z q → pot q < f → FromI ps n Z (fromL ps f q, [])
  | 0, q, _, hf => by omega
  | f + 1, q, h, hf => by
    unfold fromL
    split
    · rename_i he
      obtain ⟨q1, q2⟩ := q
      simp only at he
      subst he
      exact h
    · rename_i he
      obtain ⟨x, hx⟩ := List.exists_mem_of_ne_nil _ he
      have ho := h.ok x hx
      have hp := passF_strict ps q x.toNat (by omega) (by rw [show ((x.toNat : Nat) : Int) = x by omega]; exact hx) ps.length (by omega)
      exact FromI.last hg z0 z1 f _ (FromI.pass hg z0 z1 h _) (by omega)
theorem fromF_inv {ps : List ProdS} {n : Nat} (hn : n < ps.length) {Z : Nat → Prop} (hg : ∀ m s, Nt ps m s → 0 ≤ s.n ∧ s.n < ps.length) (z0 : ∀ s, Nt ps n s → Z s.n.toNat) (z1 : ∀ m s, Z m → Nt ps m s → Z s.n.toNat) : FromI ps n Z (fromF ps n, []) := by
  refine FromI.last hg z0 z1 _ _ ⟨by simp, fun x hx => ?_, fun m hm hx => ?_, fun i hi => ?_, fun x hx => ?_⟩ ?_
  · simp at hx; omega
  · rcases hm with hm | rfl
    · simp [List.getElem?_replicate] at hm
    · simp at hx
  · simp [List.getElem?_replicate] at hi
  · exact .inl (by simpa using hx)
  · simp [pot, falses, List.countP_replicate]
theorem gmay_nt {ps : List ProdS} (h : gmay ps = true) (m : Nat) (s : SymS) (hs : Nt ps m s) : 0 ≤ s.n ∧ s.n < ps.length := by
  obtain ⟨p, hp, hs, h2⟩ := hs
  obtain ⟨a, ha, hs⟩ := List.mem_flatten.1 hs
  exact gmay_sym h p (List.mem_of_getElem? hp) a ha s hs h2
/-- Its symbols are within it; what is within those within it is. -/
theorem within_sym {ps : List ProdS} (h : gmay ps = true) {n : Nat} (hn : n < ps.length) (s : SymS) (hs : Nt ps n s) : (fromF ps n)[s.n.toNat]? = some true :=
  (fromF_inv hn (Z := fun _ => True) (gmay_nt h) (fun _ _ => trivial) (fun _ _ _ _ => trivial)).shut n (.inr rfl) (by simp) s hs
theorem within_trans {ps : List ProdS} (h : gmay ps = true) {a b : Nat} (ha : a < ps.length) (hb : b < ps.length) (hx : (fromF ps a)[b]? = some true) (i : Nat) (hy : (fromF ps b)[i]? = some true) : (fromF ps a)[i]? = some true := by
  have I := fromF_inv ha (Z := fun _ => True) (gmay_nt h) (fun _ _ => trivial) (fun _ _ _ _ => trivial)
  have J := fromF_inv hb (Z := fun i => (fromF ps a)[i]? = some true) (gmay_nt h) (fun s hs => I.shut b (.inl hx) (by simp) s hs) (fun m s hm hs => I.shut m (.inl hm) (by simp) s hs)
  exact J.out i hy
end Go.Proofs.YtacihjabkiedcaaGreatDoor
