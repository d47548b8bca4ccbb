/- The law NullJoin, as its row and its card state it: for every input it answers true and the arguments read as before. -/
import Derived.Test.YtacihjabkiedcaaGreatDoorH22
import Derived.Test.YtacihjabkiedcaaGreatDoorH16
import Derived.Test.YtacihjabkiedcaaGreatDoorH25
import Derived.Deep.RegionLaw
import Derived.Test.YtacihjabkiedcaaGreatDoorH19
set_option linter.unusedVariables false
set_option linter.unusedSimpArgs false
namespace Go.Proofs.YtacihjabkiedcaaGreatDoor
open Go Go.RowKit Go.MapKept

/-- Of the symbols there it is told whether they may be empty together. -/
def EmpAt (ps : List ProdS) (w : World) (X : Option Addr) (n E : Nat) (r : Bool) : Prop := ∃ l, Syms [] w (.slice X n E) l ∧ emptyR ps l = r
theorem emptyR_append {ps : List ProdS} (hg : gmay ps = true) (a b : List SymS) : emptyR ps (a ++ b) = (emptyR ps a && emptyR ps b) := by
  simp [emptyR, hg, onlyF_append]
theorem emptyR_nil {ps : List ProdS} (hg : gmay ps = true) : emptyR ps [] = true := by
  simp [emptyR, hg, onlyF]
set_option maxRecDepth 20000 in
set_option maxHeartbeats 4000000 in
theorem nullJoin_walk (A K AA BB : Option Addr) (C m D CA CB : Nat) (ps : List ProdS) (a b : List SymS) (w : World) (HP : Prods [] w (.slice A ps.length C) ps) (hmk : m ≤ 9223372036854775807)
    (HA : Syms [] w (.slice AA a.length CA) a) (HB : Syms [] w (.slice BB b.length CB) b) :
    Calls Tryz.prog 11 #[.agg #[.slice A ps.length C, .slice K m D], .slice AA a.length CA, .slice BB b.length CB] w fun e w' => e = .returned (.bool true) ∧ Keep [] w w' := by
  have K0 := (Keep.refl [] w).alloc (.cells #[.slice A ps.length C, .slice K m D] 25)
  have HP0 : Prods [] _ (.slice A ps.length C) ps := HP.mv0 K0
  have B0 := Blk.new w #[.slice A ps.length C, .slice K m D] 25
  have hla := (SlOf.len HA).2.1
  have hlb := (SlOf.len HB).2.1
  have HAA := Lib.hid HA
  have HBB := Lib.hid HB
  clear HP HA HB
  go_enter Tryz.func11, Tryz.ntmps11
  go_wp2_with fail
  refine (awake9_any _).mono ?_
  rintro e w1 ⟨rfl, K1⟩
  have B1 := B0.keep K1 (by simp)
  have b1 := B1.cell
  have HP1 : Prods [] w1 (.slice A ps.length C) ps := HP0.mv0 K1
  go_wp2_with fail
  refine (few_any [] A K C m D ps _ HP1 hmk).mono ?_
  rintro e w2 ⟨⟨fw, rfl⟩, K2⟩
  have B2 := B1.keep K2 (by simp)
  have b2 := B2.cell
  have HP2 : Prods [] w2 (.slice A ps.length C) ps := HP1.mv0 K2
  have KF2 := (K0.trans K1).trans K2
  clear HP0 HP1 B0 B1 b1
  cases fw with
  | false =>
    go_wp2
    go_ret
    exact ⟨rfl, KF2⟩
  | true =>
    have hc3 := may_any [] (.slice A ps.length C) (.slice K m D) ps _ HP2
    have HC3 := Lib.hid hc3
    clear hc3
    go_wp2_with fail
    refine HC3.out.mono ?_
    rintro e w3 ⟨rfl, K3⟩
    have B3 := B2.keep K3 (by simp)
    have b3 := B3.cell
    have HP3 : Prods [] w3 (.slice A ps.length C) ps := HP2.mv0 K3
    have KF3 := KF2.trans K3
    clear HP2 B2 b2 HC3
    cases hg : gmay ps with
    | false =>
      go_wp2
      go_ret
      exact ⟨rfl, KF3⟩
    | true =>
      by_cases ha : 40 < a.length
      · have ha' : (40 : Int) < (a.length : Int) := by omega
        clear HP3
        go_wp2
        go_ret
        exact ⟨rfl, KF3⟩
      · have ha' : (a.length : Int) ≤ 40 := by omega
        by_cases hb : 40 < b.length
        · have hb' : (40 : Int) < (b.length : Int) := by omega
          clear HP3
          go_wp2
          go_ret
          exact ⟨rfl, KF3⟩
        · have hb' : (b.length : Int) ≤ 40 := by omega
          have ha0 : a.length ≤ 40 := by omega
          have hb0 : b.length ≤ 40 := by omega
          obtain ⟨i0, hi0, hz0, hz1, hz2⟩ := info_parts info_sym
          have hA3 := HAA.out.mv0 KF3
          have hB3 := HBB.out.mv0 KF3
          obtain ⟨A4, C4, w4, hr4, hO4, hK4, hn4⟩ := run_append_data (ty := 40) symRow_stab symRow_one Tryz.underlying40 hi0 hz0 hz1 hz2 rfl (by omega) (OwnL.nil (R := SymRow) [] w3 w3.heap.size 39 3) hA3 (by simp; omega) (by simp; omega) (Nat.le_refl _)
          simp only [List.length_nil, Nat.zero_add, List.nil_append] at hr4 hO4 hn4
          have K4 : Keep [] w3 w4 := hK4.mono (by simp [ownB, Value.ownBlock])
          have hB4 : SlOf SymRow (ownB (.slice A4 a.length C4) ++ []) w4 3 (.slice BB b.length CB) b := SlOf.move hB3 symRow_stab (by omega) K4 (by simp) (fun x hx => by
            rcases List.mem_append.1 hx with hx | hx
            · rcases hn4 x hx with h | h
              · simp [ownB, Value.ownBlock] at h
              · exact .inr (by omega)
            · exact .inl hx)
          obtain ⟨A5, C5, w5, hr5, hO5, hK5, hn5⟩ := run_append_data (ty := 40) symRow_stab symRow_one Tryz.underlying40 hi0 hz0 hz1 hz2 rfl (by omega) hO4 hB4 (by omega) (by omega) K4.size
          have K5 : Keep [] w3 w5 := K4.then hK5 (fun x hx => by
            rcases hn4 x hx with h | h
            · simp [ownB, Value.ownBlock] at h
            · exact .inr (by omega))
          have hS5 : Syms [] w5 (.slice A5 (a.length + b.length) C5) (a ++ b) := hO5.read symRow_stab (by simp) (by simp)
          have hP5 : Prods [] w5 (.slice A ps.length C) ps := HP3.mv0 K5
          have hA5 := hA3.mv0 K5
          have hB5 := hB3.mv0 K5
          have B5 := B3.keep K5 (by simp)
          have b5 : w5.cell? ⟨w.heap.size, 0, none⟩ = some (.slice A ps.length C) ∧ w5.cell? ⟨w.heap.size, 1, none⟩ = some (.slice K m D) := ⟨B5.cell 0, B5.cell 1⟩
          have HR4 := Lib.hid hr4
          have HR5 := Lib.hid hr5
          have hce : ∀ (w' : World), Keep [] w5 w' → ∀ (X : Option Addr) (n E : Nat) (r : Bool), EmpAt ps w5 X n E r → Calls Tryz.prog 32 #[.agg #[.slice A ps.length C, .slice K m D], .slice X n E] w' fun e w'' => e = .returned (.bool r) ∧ Keep [] w5 w'' := fun w' K' X n E r ⟨l, hl, hr⟩ => by
            obtain rfl := (SlOf.len hl).1
            subst hr
            exact (empty_any A K X C m D E [] ps l w' (hP5.mv0 K') (by simp) (hl.mv0 K')).mono fun e w'' ⟨h1, h2⟩ => ⟨h1, K'.trans h2⟩
          have fl : EmpAt ps w5 A5 (a.length + b.length) C5 (emptyR ps a && emptyR ps b) := ⟨_, hS5, emptyR_append hg a b⟩
          have fa : EmpAt ps w5 AA a.length CA (emptyR ps a) := ⟨_, hA5, rfl⟩
          have fb : EmpAt ps w5 BB b.length CB (emptyR ps b) := ⟨_, hB5, rfl⟩
          have fn : EmpAt ps w5 none 0 0 true := ⟨_, SlOf.nil _ _ _, emptyR_nil hg⟩
          generalize emptyR ps a = ra at fl fa
          generalize emptyR ps b = rb at fl fb
          have hkp : ∀ w', Keep [] w5 w' → w'.cell? ⟨w.heap.size, 0, none⟩ = some (.slice A ps.length C) ∧ w'.cell? ⟨w.heap.size, 1, none⟩ = some (.slice K m D) ∧ Keep [] w5 w' := fun w' K' => ⟨(B5.keep K' (by simp)).cell 0, (B5.keep K' (by simp)).cell 1, K'⟩
          have HKP := Lib.hid hkp
          have HCE := Lib.hid hce
          have HKF := Lib.hid (KF3.trans K5)
          have Kd := (Keep.refl [] w5).drew
          clear hr4 hr5 hO4 hO5 hK4 hK5 hn4 hn5 hB4 hA3 hB3 hA5 hB5 hS5 hP5 hce hkp K4 K5 B5 HP3 HAA HBB hg KF3
          go_wp2_with (first | (at_builtin; refine Lib.wpList_append_run _ rfl _ _ 40 40 rfl (.slice none 0 0) (.slice AA a.length CA) rfl rfl _ _ HR4.out ?_) | (at_builtin; refine Lib.wpList_append_run _ rfl _ _ 40 40 rfl (.slice A4 a.length C4) (.slice BB b.length CB) rfl rfl _ _ HR5.out ?_))
          clear b3 HR4 HR5
          obtain ⟨q0, q1, _⟩ := HKP.out _ (Keep.refl [] w5)
          cases ra <;> cases rb
          all_goals
            simp only [Bool.and_true, Bool.and_false, Bool.and_self] at fl
            first
              | (go_region_law (first
                  | (go_simp; go_at_call 32; refine (HCE.out _ (by assumption) _ _ _ _ (by assumption)).mono ?_; rintro e w' ⟨rfl, K'⟩; obtain ⟨q0, q1, _⟩ := HKP.out _ K'; dsimp only)))
              | fail
            all_goals
              go_wp2
              go_ret
              exact ⟨rfl, HKF.out.trans (by assumption)⟩
end Go.Proofs.YtacihjabkiedcaaGreatDoor
namespace Go.Proofs.YtacihjabkiedcaaGreatDoor.RowNJ
open Go.ChangeShapes Go.WideShapes Go.ChangeAt Go.RowKit Go.Joins Go.Deep Go.Proofs.YtacihjabkiedcaaGreatDoor.RowG

def zeroA : Array Value := #[.agg #[.slice none 0 0, .slice none 0 0], .slice none 0 0, .slice none 0 0]
set_option maxRecDepth 100000 in
theorem laid_met (os : Os) : laidMet Tryz.prog laid2 ((laidWorld os).forCall (fun _ _ => 0) ⟨#[], zeroA, []⟩).memory :=
  laidMet_of_run' 8 (by kernel_rfl) (by kernel_rfl)
theorem reads (os : Os) {H : Type} (enc : TypeId × Value → H) : ∃ places, DataW.whole enc Tryz.prog ((laidWorld os).forCall (fun _ _ => 0) ⟨#[], zeroA, []⟩).memory Tryz.f11.params.toList Rows.nullJoinSpec.vars false zeroA.toList 8 = some ([.agg [.nil, .nil], .nil, .nil], [], places) :=
  ⟨[], by kernel_rfl⟩
set_option maxRecDepth 100000 in
set_option maxHeartbeats 1000000 in
theorem contract (H : Type) (enc : TypeId × Value → H) (W : World) (args : Array Value) (ds gs : List (DataW H)) (before : List MemPlace) (base : Nat)
    (hval : ∀ (j : Nat) t v, Tryz.f11.params[j]? = some t → args[j]? = some v → Value.okWide Tryz.prog W .any base t v)
    (hW : DataW.Whole enc Tryz.prog Tryz.f11.params.toList Rows.nullJoinSpec.vars false W args.toList ds gs before) :
    Calls Tryz.prog 11 args W fun e W' => ∃ v, e = .returned v ∧ Rows.nullJoinSpec.post enc Tryz.prog Tryz.f11 false true false false W args v W' := by
  have hW' := hW
  obtain ⟨p, q, hA0, hV, rfl, hfz, hnd⟩ := hW
  have hA : DataW.TrodAll enc Tryz.prog W 0 (fun _ => true) true Tryz.f11.params.toList args.toList ds p := hA0
  rw [Tryz.params11] at hA hval
  obtain ⟨v0, vs0, d0, ds0, p0, q0, hargs, rfl, rfl, h0, r0⟩ := trodAll_cons hA
  obtain ⟨v1, vs1, d1, ds1, p1, q1, rfl, rfl, rfl, h1, r1⟩ := trodAll_cons r0
  obtain ⟨v2, vs2, d2, ds2, p2, q2, rfl, rfl, rfl, h2, r2⟩ := trodAll_cons r1
  obtain ⟨rfl, rfl, rfl⟩ := trodAll_nil r2
  obtain rfl : args = #[v0, v1, v2] := by cases args; simp_all
  obtain ⟨rfl, rfl⟩ := trodVars_none hV
  have k0 := h0
  have lt0 : ∀ x ∈ p0, x.block < W.heap.size := by obtain ⟨m, hm⟩ := k0; exact DataW.trod_lt m _ _ _ hm
  have k1 := h1
  have lt1 : ∀ x ∈ p1, x.block < W.heap.size := by obtain ⟨m, hm⟩ := k1; exact DataW.trod_lt m _ _ _ hm
  have k2 := h2
  have lt2 : ∀ x ∈ p2, x.block < W.heap.size := by obtain ⟨m, hm⟩ := k2; exact DataW.trod_lt m _ _ _ hm
  obtain ⟨A0, ps0, C0, K0, m0, D0, rfl, hp0, hm0⟩ := open_gram rfl (hval 0 _ v0 rfl rfl) h0
  obtain ⟨x1, y1, z1, rfl⟩ := okWide_slice Tryz.underlying40 (hval 1 _ v1 rfl rfl)
  obtain ⟨n1, hn1⟩ := h1
  obtain ⟨A1, l1, C1, e1, hp1⟩ := syms_read hn1
  obtain ⟨rfl, rfl, rfl⟩ : x1 = A1 ∧ y1 = l1.length ∧ z1 = C1 := by simpa using e1
  obtain ⟨x2, y2, z2, rfl⟩ := okWide_slice Tryz.underlying40 (hval 2 _ v2 rfl rfl)
  obtain ⟨n2, hn2⟩ := h2
  obtain ⟨A2, l2, C2, e2, hp2⟩ := syms_read hn2
  obtain ⟨rfl, rfl, rfl⟩ : x2 = A2 ∧ y2 = l2.length ∧ z2 = C2 := by simpa using e2
  clear hA0
  refine (nullJoin_walk A0 K0 x1 x2 C0 m0 D0 z1 z2 ps0 l1 l2 W hp0 hm0 hp1 hp2).mono fun e W' ⟨he, kp⟩ => ?_
  have bel := kp.below
  subst he
  exact ⟨_, rfl, _, _, _, [], _, [], hW', trodAll_mk1 (shut_bool Tryz.underlying4 _), (trodAll_cons_mk (Below.trod laidOut (by kernel_rfl) (of_decide_eq_true (by kernel_rfl)) k0 bel lt0) (trodAll_cons_mk (Below.trod laidOut (by kernel_rfl) (of_decide_eq_true (by kernel_rfl)) k1 bel lt1) (trodAll_cons_mk (Below.trod laidOut (by kernel_rfl) (of_decide_eq_true (by kernel_rfl)) k2 bel lt2) trodAll_mk0))), rfl, bel.frame _, fun h => by cases h⟩

set_option maxRecDepth 100000 in
theorem lifted (os : Os) (started : os.Started) (H : Type) (enc : TypeId × Value → H) (F : Stop.Interp) :
    ReturnsInHanded {} Tryz.checked os 11 .any ((OpenSpec.ofChange Rows.nullJoinSpec).preRow enc Tryz.prog Tryz.f11 Rows.nullJoinRow.domain false Rows.nullJoinRow.laid) (((OpenSpec.ofChange Rows.nullJoinSpec).at F).post enc Tryz.prog Tryz.f11 false true false false) := by
  obtain ⟨places, hx⟩ := reads os enc
  refine returnsInHanded_of_row (C := Tryz.checked) (s := OpenSpec.ofChange Rows.nullJoinSpec) own started (by kernel_rfl) Tryz.func11
    (witness_row_at (enc := enc) (C := Tryz.checked) false (laidWorld os) zeroA rfl (by kernel_rfl) (by kernel_rfl) (by kernel_rfl)
      (OpenSpec.preRow_of_cond 8 hx (by kernel_rfl) (fun k hk => by cases hk) (by kernel_rfl) (laid_met os))) ?_
  intro W base args ds gs before hval hW _ _ _ _ _ _
  exact contract H enc W args ds gs before base hval hW

theorem said : Rows.NullJoinSaid :=
  OpenClaim.holds_of_cond 11 Tryz.f11 rfl rfl rfl rfl rfl rfl rfl ⟨rfl, rfl, rfl, rfl, rfl⟩ rfl rfl rfl rfl rfl (by kernel_rfl) Tryz.func11 (by kernel_rfl)
    (of_decide_eq_true (by kernel_rfl)) (by unfold Func.isWrapper; first | (rw [if_pos (by decide +kernel)]; kernel_rfl) | (rw [if_neg (by decide +kernel)]; exact ⟨rfl, rfl⟩))
    (fun os started H enc _ F => by rw [OpenClaim.pre_eq_preRow]; exact lifted os started H enc F)

theorem plain (f : FuncId) (fn : Func) (hf : Tryz.pinned.checked.prog.funcNamed "exegete/exegetelaw09.NullJoin" = some f) (hfn : Tryz.pinned.checked.prog.funcs[f]? = some fn) :
    true = Tryz.pinned.checked.prog.looks [] ∧ ∀ (j : Nat) t, fn.params[j]? = some t → Tryz.pinned.checked.prog.wantsStandIn t = false := by
  obtain rfl : f = 11 := Option.some.inj ((show Tryz.prog.funcNamed "exegete/exegetelaw09.NullJoin" = some 11 by kernel_rfl).symm.trans hf) |>.symm
  obtain rfl : fn = Tryz.f11 := (Option.some.inj (Tryz.func11.symm.trans hfn)).symm
  refine ⟨by kernel_rfl, fun j t ht => ?_⟩
  rw [Tryz.params11] at ht
  have hm : t = 25 ∨ t = 40 ∨ t = 40 := by simpa [or_assoc] using Array.mem_of_getElem? ht
  rcases hm with rfl | rfl | rfl
  · exact (show Tryz.prog.wantsStandIn 25 = false by kernel_rfl)
  · exact (show Tryz.prog.wantsStandIn 40 = false by kernel_rfl)
  · exact (show Tryz.prog.wantsStandIn 40 = false by kernel_rfl)

theorem card : Rows.NullJoinCardSaid :=
  Claim7.holds_tied_plain_at .later [] _ _ _ _ said (fun _ h => by cases h) (by kernel_rfl) (fun _ h => by cases h) nullJoin_row_tie rfl ⟨rfl, rfl⟩ (by kernel_rfl) rfl plain (by kernel_rfl)
end Go.Proofs.YtacihjabkiedcaaGreatDoor.RowNJ
namespace Go.Proofs.YtacihjabkiedcaaGreatDoor
/-- The card of the law. -/
theorem nullJoin_card : Rows.NullJoinCardSaid := RowNJ.card
#print axioms nullJoin_card
end Go.Proofs.YtacihjabkiedcaaGreatDoor
