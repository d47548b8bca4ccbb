/- The law NullLeast, as its row and its card state it: for every input it answers true and the arguments read as before. -/
import Derived.Test.YtacihjabkiedcaaGreatDoorHNJ
import Derived.Test.YtacihjabkiedcaaGreatDoorH19
set_option linter.unusedVariables false
set_option linter.unusedSimpArgs false
namespace Go.Proofs.YtacihjabkiedcaaGreatDoor
open Go Go.RowKit Go.MapKept

/-- Of some of the first k alternatives all symbols are empty. -/
def anyE (ps : List ProdS) (al : List (List SymS)) (k : Nat) : Bool := (al.take k).any (emptyR ps)
theorem anyE_succ (ps : List ProdS) (al : List (List SymS)) (k : Nat) (h : k < al.length) : anyE ps al (k + 1) = (anyE ps al k || emptyR ps al[k]) := by
  unfold anyE
  rw [List.take_succ_eq_append_getElem h, List.any_append]
  simp
theorem anyE_all {ps : List ProdS} (hg : gmay ps = true) (n : Nat) (hn : n < ps.length) : anyE ps ps[n].a ps[n].a.length = decide ((n : Int) ∈ emptyF ps) := by
  rw [emptyF_law ps n hn]
  unfold anyE
  rw [List.take_length]
  congr 1
  funext l
  simp [emptyR, hg]
theorem emptyR_one {ps : List ProdS} (hg : gmay ps = true) (n : Int) : emptyR ps [⟨2, [], n⟩] = decide (n ∈ emptyF ps) := by
  simp [emptyR, hg, onlyF, hard]
theorem emptyR_byte (ps : List ProdS) : emptyR ps [⟨0, [], 0⟩] = false := by
  simp [emptyR, onlyF, hard]
theorem empty_new (A K : Option Addr) (C m D : Nat) (ps : List ProdS) (w : World) (k n : Int) (HP : Prods [] w (.slice A ps.length C) ps) :
    Calls Tryz.prog 32 #[.agg #[.slice A ps.length C, .slice K m D], .slice (some ⟨w.heap.size, 0, none⟩) 1 1] (w.alloc (.cells #[.int .i64 k, .slice none 0 0, .int .i64 n] 39)) fun e w'' => e = .returned (.bool (emptyR ps [⟨k, [], n⟩])) ∧ Keep [] w w'' := by
  have K0 := (Keep.refl [] w).alloc (.cells #[.int .i64 k, .slice none 0 0, .int .i64 n] 39)
  have B := Blk.new w #[.int .i64 k, .slice none 0 0, .int .i64 n] 39
  have hS : Syms [] (w.alloc (.cells #[.int .i64 k, .slice none 0 0, .int .i64 n] 39)) (.slice (some ⟨w.heap.size, 0, none⟩) [(⟨k, [], n⟩ : SymS)].length 1) [⟨k, [], n⟩] := by
    refine ⟨[#[.int .i64 k, .slice none 0 0, .int .i64 n]], Sl.of_blk (k := 3) (xs := [#[.int .i64 k, .slice none 0 0, .int .i64 n]]) 1 B (by simp) (by simp) (fun i hi => ?_), rfl, fun i hi hi' => ?_⟩
    · obtain rfl : i = 0 := by simpa using hi
      exact ⟨rfl, fun j hj => by simp⟩
    · obtain rfl : i = 0 := by simpa using hi
      exact ⟨none, 0, rfl, Sl.nil _ _ _⟩
  exact (empty_any A K _ C m D 1 [] ps _ _ (HP.mv0 K0) (by simp) hS).mono fun e w'' ⟨h1, h2⟩ => ⟨h1, K0.trans h2⟩
theorem empty_newd (A K : Option Addr) (C m D : Nat) (ps : List ProdS) (w : World) (k n : Int) (HP : Prods [] w (.slice A ps.length C) ps) :
    Calls Tryz.prog 32 #[.agg #[.slice A ps.length C, .slice K m D], .slice (some ⟨w.heap.size, 0, none⟩) 1 1] (w.alloc (.cells #[.int .i64 k, .slice none 0 0, .int .i64 n] 39)).drew fun e w'' => e = .returned (.bool (emptyR ps [⟨k, [], n⟩])) ∧ Keep [] w w'' := by
  have K0 := ((Keep.refl [] w).alloc (.cells #[.int .i64 k, .slice none 0 0, .int .i64 n] 39)).drew
  have B := (Blk.new w #[.int .i64 k, .slice none 0 0, .int .i64 n] 39).drew
  have hS : Syms [] (w.alloc (.cells #[.int .i64 k, .slice none 0 0, .int .i64 n] 39)).drew (.slice (some ⟨w.heap.size, 0, none⟩) [(⟨k, [], n⟩ : SymS)].length 1) [⟨k, [], n⟩] := by
    refine ⟨[#[.int .i64 k, .slice none 0 0, .int .i64 n]], Sl.of_blk (k := 3) (xs := [#[.int .i64 k, .slice none 0 0, .int .i64 n]]) 1 B (by simp) (by simp) (fun i hi => ?_), rfl, fun i hi hi' => ?_⟩
    · obtain rfl : i = 0 := by simpa using hi
      exact ⟨rfl, fun j hj => by simp⟩
    · obtain rfl : i = 0 := by simpa using hi
      exact ⟨none, 0, rfl, Sl.nil _ _ _⟩
  exact (empty_any A K _ C m D 1 [] ps _ _ (HP.mv0 K0) (by simp) hS).mono fun e w'' ⟨h1, h2⟩ => ⟨h1, K0.trans h2⟩
set_option maxRecDepth 20000 in
set_option maxHeartbeats 4000000 in
theorem nullLeast_walk (A K : Option Addr) (C m D : Nat) (ps : List ProdS) (a : Int) (w : World) (HP : Prods [] w (.slice A ps.length C) ps) (hmk : m ≤ 9223372036854775807) :
    Calls Tryz.prog 8 #[.agg #[.slice A ps.length C, .slice K m D], .int .i64 a] w fun e w' => e = .returned (.bool true) ∧ Keep [] w w' := by
  have K0 := (Keep.refl [] w).alloc (.cells #[.slice A ps.length C, .slice K m D] 25)
  have HP0 : Prods [] _ (.slice A ps.length C) ps := HP.mv0 K0
  have B0 := Blk.new w #[.slice A ps.length C, .slice K m D] 25
  clear HP
  go_enter Tryz.func8, Tryz.ntmps8
  go_wp2_with fail
  refine (awake9_any _).mono ?_
  rintro e w1 ⟨rfl, K1⟩
  have B1 := B0.keep K1 (by simp)
  have b1 := B1.cell
  have HP1 : Prods [] w1 (.slice A ps.length C) ps := HP0.mv0 K1
  go_wp2_with fail
  refine (few_any [] A K C m D ps _ HP1 hmk).mono ?_
  rintro e w2 ⟨⟨fw, rfl⟩, K2⟩
  have B2 := B1.keep K2 (by simp)
  have b2 := B2.cell
  have HP2 : Prods [] w2 (.slice A ps.length C) ps := HP1.mv0 K2
  have KF2 := (K0.trans K1).trans K2
  clear HP0 HP1 B0 B1 b1
  have hcn := all_nulls [] A K C m D ps w2 HP2 (by simp)
  have HCN := Lib.hid hcn
  clear hcn
  go_wp2_with fail
  refine HCN.out.mono ?_
  rintro e w3 ⟨⟨vx, rfl, hvx⟩, K3⟩
  have B3 := B2.keep K3 (by simp)
  have b3 := B3.cell
  have HP3 : Prods [] w3 (.slice A ps.length C) ps := HP2.mv0 K3
  have KF3 := KF2.trans K3
  obtain ⟨AX, CX, rfl, hCX, hcx⟩ := hvx.cells
  clear HP2 B2 b2 hvx HCN
  cases fw with
  | false =>
    clear hcx HP3 hCX
    go_wp2
    go_ret
    exact ⟨rfl, KF3⟩
  | true =>
    have hc4 := fun w HP => may_any [] (.slice A ps.length C) (.slice K m D) ps w HP
    have HC4 := Lib.hid hc4
    have HCX := Lib.hid hcx
    clear hc4 hcx
    go_wp2_with fail
    refine (HC4.out _ HP3).mono ?_
    rintro e w4 ⟨rfl, K4⟩
    have B4 := B3.keep K4 (by simp)
    have b4 := B4.cell
    have HP4 : Prods [] w4 (.slice A ps.length C) ps := HP3.mv0 K4
    have KF4 := KF3.trans K4
    clear HP3 B3 b3
    cases hg : gmay ps with
    | false =>
      have hr0 : (allR ps).length = 0 := by simp [allR, hg]
      rw [hr0]
      clear hr0 hCX
      go_wp2_with fail
      refine (HC4.out _ HP4).mono ?_
      rintro e w5 ⟨rfl, K5⟩
      rw [hg]
      go_wp2
      go_ret
      exact ⟨rfl, KF4.trans K5⟩
    | true =>
      have hin : (0 ≤ a ∧ a < ps.length) ∨ (a < 0 ∨ ps.length ≤ a) := by omega
      rcases hin with hin | hin
      · obtain ⟨n, rfl⟩ : ∃ n : Nat, a = n := ⟨a.toNat, by omega⟩
        have hn : n < ps.length := by omega
        have hn' : (n : Int) < (ps.length : Int) := by omega
        have hd0 : decide ((n : Int) < 0) = false := by simp
        have hd1 : decide (ps.length ≤ n) = false := by simp; omega
        obtain ⟨hl0, hl1⟩ := gmay_len hg
        have hal : (allR ps).length = ps.length := by simp [allR, hg, bl]
        obtain ⟨bx, rfl, hcx⟩ := HCX.out (by omega)
        have hx0 := hcx n (by omega)
        have hxn : (allR ps)[n] = decide ((n : Int) ∈ emptyF ps) := by
          have h1 : allR ps = bl ps.length (emptyF ps) := by simp [allR, hg]
          simp [h1, bl]
        rw [hxn] at hx0
        have hx0 := Keep.cell (T := []) K4 hx0 (by simp)
        have hAll := anyE_all hg n hn
        have hone := emptyR_one hg (n : Int)
        have hby := emptyR_byte ps
        rw [hal]
        obtain ⟨bp, op, A2, C2, N2, F2, rfl, _, p0, _, _, hA4, _⟩ := HP4.pick n hn
        generalize ps[n].a = al at p0 hAll hA4
        have hall := (SlOf.len hA4).2.1
        have hkp : ∀ w', Keep [] w4 w' → w'.cell? ⟨w.heap.size, 0, none⟩ = some (.slice (some ⟨bp, op, none⟩) ps.length C) ∧ w'.cell? ⟨w.heap.size, 1, none⟩ = some (.slice K m D) ∧ w'.cell? ⟨bp, op + n * 3, none⟩ = some (.slice A2 al.length C2) ∧ w'.cell? ⟨bx, n, none⟩ = some (.bool (decide ((n : Int) ∈ emptyF ps))) ∧ Keep [] w4 w' :=
          fun w' K' => ⟨(B4.keep K' (by simp)).cell 0, (B4.keep K' (by simp)).cell 1, Keep.cell (T := []) K' p0 (by simp), Keep.cell (T := []) K' hx0 (by simp), K'⟩
        have hce : ∀ (w' : World), Keep [] w4 w' → ∀ (X : Option Addr) (k E : Nat) (r : Bool), EmpAt ps w4 X k E r → Calls Tryz.prog 32 #[.agg #[.slice (some ⟨bp, op, none⟩) ps.length C, .slice K m D], .slice X k E] w' fun e w'' => e = .returned (.bool r) ∧ Keep [] w4 w'' := fun w' K' X k E r ⟨l, hl, hr⟩ => by
          obtain rfl := (SlOf.len hl).1
          subst hr
          exact (empty_any _ K X C m D E [] ps l w' (HP4.mv0 K') (by simp) (hl.mv0 K')).mono fun e w'' ⟨h1, h2⟩ => ⟨h1, K'.trans h2⟩
        have hcn1 : ∀ (w' : World), Keep [] w4 w' → Calls Tryz.prog 32 #[.agg #[.slice (some ⟨bp, op, none⟩) ps.length C, .slice K m D], .slice (some ⟨w'.heap.size, 0, none⟩) 1 1] (w'.alloc (.cells #[.int .i64 2, .slice none 0 0, .int .i64 n] 39)).drew fun e w'' => e = .returned (.bool (decide ((n : Int) ∈ emptyF ps))) ∧ Keep [] w4 w'' := fun w' K' => by
          have := empty_newd (some ⟨bp, op, none⟩) K C m D ps w' 2 n (HP4.mv0 K')
          rw [hone] at this
          exact this.mono fun e w'' ⟨h1, h2⟩ => ⟨h1, K'.trans h2⟩
        have hcn2 : ∀ (w' : World), Keep [] w4 w' → Calls Tryz.prog 32 #[.agg #[.slice (some ⟨bp, op, none⟩) ps.length C, .slice K m D], .slice (some ⟨w'.heap.size, 0, none⟩) 1 1] (w'.alloc (.cells #[.int .i64 0, .slice none 0 0, .int .i64 0] 39)) fun e w'' => e = .returned (.bool false) ∧ Keep [] w4 w'' := fun w' K' => by
          have := empty_new (some ⟨bp, op, none⟩) K C m D ps w' 0 0 (HP4.mv0 K')
          rw [hby] at this
          exact this.mono fun e w'' ⟨h1, h2⟩ => ⟨h1, K'.trans h2⟩
        generalize decide ((n : Int) ∈ emptyF ps) = bn at hkp hAll hcn1
        have HKP := Lib.hid hkp
        have HCE := Lib.hid hce
        have HC1 := Lib.hid hcn1
        have HC2 := Lib.hid hcn2
        have HA := Lib.hid hA4
        have HALL := Lib.hid hAll
        have HKF := Lib.hid KF4
        clear hkp hce hcn1 hcn2 hA4 hAll hx0 p0 hxn hcx hone hby hal HCX hCX HP4 KF4 HC4 hg
        have hl60 : ps.length ≤ 1000 := by omega
        clear hl0 hl1
        go_wp2
        clear b4
        go_loopw [8, 9] (fun b i wr => ∃ k : Nat, k ≤ al.length ∧ i = .int .i64 k ∧ b = .bool (anyE ps al k) ∧ Keep [] w4 wr) (fun _ i _ => al.length - (intOf i).toNat)
        case atStart => exact ⟨0, by omega, rfl, by simp [anyE], Keep.refl _ _⟩
        case round =>
          obtain ⟨k, hk, rfl, rfl, Kr⟩ := hrel
          obtain ⟨g0, g1, p0, x0, _⟩ := HKP.out _ Kr
          by_cases hkl : k < al.length
          · have hkl' : (k : Int) < (al.length : Int) := by omega
            have HKL := Lib.hid hkl
            have HSU := Lib.hid (anyE_succ ps al k hkl)
            obtain ⟨b2, o2, A3, C3, rfl, _, q0, hS⟩ := Alts.pick HA.out k hkl
            have hE : EmpAt ps w4 A3 al[k].length C3 (emptyR ps al[k]) := ⟨_, hS, rfl⟩
            clear hS
            generalize emptyR ps al[k] = r at HSU hE
            generalize al[k].length = nk at q0 hE
            have HQ0 := Lib.hid q0
            have q1 := Kr.cell q0 (by simp)
            have HKr := Lib.hid Kr
            clear q0
            generalize anyE ps al k = q at HSU
            cases q with
            | true =>
              clear hE Kr
              go_wp2
              go_quiet (fail)
              go_wp2
              go_roundw
              case rel => exact ⟨k + 1, by have := HKL.out; omega, by go_num, by rw [HSU.out]; rfl, HKr.out.drewN _⟩
              case measure => simp [intOf]; have := HKL.out; omega
            | false =>
              have Kd := Kr.drew
              clear Kr
              go_wp2
              go_region_held3 (fun w' => (w'.cell? ⟨w.heap.size, 0, none⟩ = some (.slice (some ⟨bp, op, none⟩) ps.length C) ∧ w'.cell? ⟨w.heap.size, 1, none⟩ = some (.slice K m D) ∧ w'.cell? ⟨bp, op + n * 3, none⟩ = some (.slice (some ⟨b2, o2, none⟩) al.length C2) ∧ w'.cell? ⟨bx, n, none⟩ = some (.bool bn) ∧ Keep [] w4 w') ∧ w'.cell? ⟨b2, o2 + k, none⟩ = some (.slice A3 nk C3)) (exact ⟨HKP.out _ (by assumption), Keep.cell (T := []) (by assumption) HQ0.out (by simp)⟩) ((go_at_call 32; refine (HCE.out _ (by assumption) _ _ _ _ (by assumption)).mono ?_; rintro e w' ⟨rfl, K'⟩))
              all_goals
                go_wp2
                go_roundw
                case rel => exact ⟨k + 1, by have := HKL.out; omega, by go_num, by rw [HSU.out]; simp, by assumption⟩
                case measure => simp [intOf]; have := HKL.out; omega
          · obtain rfl : k = al.length := by omega
            rw [HALL.out]
            have Kd := Kr.drew
            clear Kr
            go_wp2
            cases bn
            · first
                | (go_region_held3 (fun w' => w'.cell? ⟨w.heap.size, 0, none⟩ = some (.slice (some ⟨bp, op, none⟩) ps.length C) ∧ w'.cell? ⟨w.heap.size, 1, none⟩ = some (.slice K m D) ∧ w'.cell? ⟨bp, op + n * 3, none⟩ = some (.slice A2 al.length C2) ∧ w'.cell? ⟨bx, n, none⟩ = some (.bool false) ∧ Keep [] w4 w') (first | exact HKP.out _ (by assumption) | exact HKP.out _ (Keep.drew (Keep.alloc (by assumption) _)) | exact HKP.out _ (Keep.alloc (by assumption) _)) (first | (go_at_call 32; ((with_reducible refine (HC1.out _ ?_).mono ?_); focus assumption); rintro e w' ⟨rfl, K'⟩) | (go_at_call 32; ((with_reducible refine (HC2.out _ ?_).mono ?_); focus assumption); rintro e w' ⟨rfl, K'⟩)))
                | fail
              all_goals
                go_wp2
                go_ret
                exact ⟨rfl, HKF.out.trans (by assumption)⟩
            · first
                | (go_region_held3 (fun w' => w'.cell? ⟨w.heap.size, 0, none⟩ = some (.slice (some ⟨bp, op, none⟩) ps.length C) ∧ w'.cell? ⟨w.heap.size, 1, none⟩ = some (.slice K m D) ∧ w'.cell? ⟨bp, op + n * 3, none⟩ = some (.slice A2 al.length C2) ∧ w'.cell? ⟨bx, n, none⟩ = some (.bool true) ∧ Keep [] w4 w') (first | exact HKP.out _ (by assumption) | exact HKP.out _ (Keep.drew (Keep.alloc (by assumption) _)) | exact HKP.out _ (Keep.alloc (by assumption) _)) (first | (go_at_call 32; ((with_reducible refine (HC1.out _ ?_).mono ?_); focus assumption); rintro e w' ⟨rfl, K'⟩) | (go_at_call 32; ((with_reducible refine (HC2.out _ ?_).mono ?_); focus assumption); rintro e w' ⟨rfl, K'⟩)))
                | fail
              all_goals
                go_wp2
                go_ret
                exact ⟨rfl, HKF.out.trans (by assumption)⟩
      · have h1 : ¬(0 ≤ a ∧ a < ps.length) := by omega
        clear h1 hCX HCX
        by_cases ha0 : a < 0
        · clear hin
          go_wp2_with fail
          refine (HC4.out _ HP4).mono ?_
          rintro e w5 ⟨rfl, K5⟩
          rw [hg]
          go_wp2
          go_ret
          exact ⟨rfl, KF4.trans K5⟩
        · have ha1 : (ps.length : Int) ≤ a := by omega
          have ha2 : 0 ≤ a := by omega
          clear hin ha0
          go_wp2_with fail
          refine (HC4.out _ HP4).mono ?_
          rintro e w5 ⟨rfl, K5⟩
          rw [hg]
          go_wp2
          go_ret
          exact ⟨rfl, KF4.trans K5⟩
end Go.Proofs.YtacihjabkiedcaaGreatDoor
namespace Go.Proofs.YtacihjabkiedcaaGreatDoor.RowNE
open Go.ChangeShapes Go.WideShapes Go.ChangeAt Go.RowKit Go.Joins Go.Deep Go.Proofs.YtacihjabkiedcaaGreatDoor.RowG

def zeroA : Array Value := #[.agg #[.slice none 0 0, .slice none 0 0], .int .i64 0]
set_option maxRecDepth 100000 in
theorem laid_met (os : Os) : laidMet Tryz.prog laid2 ((laidWorld os).forCall (fun _ _ => 0) ⟨#[], zeroA, []⟩).memory :=
  laidMet_of_run' 8 (by kernel_rfl) (by kernel_rfl)
theorem reads (os : Os) {H : Type} (enc : TypeId × Value → H) : ∃ places, DataW.whole enc Tryz.prog ((laidWorld os).forCall (fun _ _ => 0) ⟨#[], zeroA, []⟩).memory Tryz.f8.params.toList Rows.nullLeastSpec.vars false zeroA.toList 8 = some ([.agg [.nil, .nil], .lit (.int .i64 0)], [], places) :=
  ⟨[], by kernel_rfl⟩
set_option maxRecDepth 100000 in
theorem contract (H : Type) (enc : TypeId × Value → H) (W : World) (args : Array Value) (ds gs : List (DataW H)) (before : List MemPlace) (base : Nat)
    (hval : ∀ (j : Nat) t v, Tryz.f8.params[j]? = some t → args[j]? = some v → Value.okWide Tryz.prog W .any base t v)
    (hW : DataW.Whole enc Tryz.prog Tryz.f8.params.toList Rows.nullLeastSpec.vars false W args.toList ds gs before) :
    Calls Tryz.prog 8 args W fun e W' => ∃ v, e = .returned v ∧ Rows.nullLeastSpec.post enc Tryz.prog Tryz.f8 false true false false W args v W' := by
  have hW' := hW
  obtain ⟨p, q, hA0, hV, rfl, hfz, hnd⟩ := hW
  have hA : DataW.TrodAll enc Tryz.prog W 0 (fun _ => true) true Tryz.f8.params.toList args.toList ds p := hA0
  rw [Tryz.params8] at hA hval
  obtain ⟨v0, vs0, d0, ds0, p0, q0, hargs, rfl, rfl, h0, r0⟩ := trodAll_cons hA
  obtain ⟨v1, vs1, d1, ds1, p1, q1, rfl, rfl, rfl, h1, r1⟩ := trodAll_cons r0
  obtain ⟨rfl, rfl, rfl⟩ := trodAll_nil r1
  obtain rfl : args = #[v0, v1] := by cases args; simp_all
  obtain ⟨rfl, rfl⟩ := trodVars_none hV
  have k0 := h0
  have lt0 : ∀ x ∈ p0, x.block < W.heap.size := by obtain ⟨m, hm⟩ := k0; exact DataW.trod_lt m _ _ _ hm
  obtain ⟨A0, ps0, C0, K0, m0, D0, rfl, hp0, hm0⟩ := open_gram rfl (hval 0 _ v0 rfl rfl) h0
  obtain ⟨a1, rfl, rfl, rfl, w1⟩ := open_int Tryz.underlying3 (hval 1 _ v1 rfl rfl) h1
  clear hA0
  refine (nullLeast_walk A0 K0 C0 m0 D0 ps0 a1 W hp0 hm0).mono fun e W' ⟨he, kp⟩ => ?_
  have bel := kp.below
  subst he
  exact ⟨_, rfl, _, _, _, [], _, [], hW', trodAll_mk1 (shut_bool Tryz.underlying4 _), (trodAll_cons_mk (Below.trod laidOut (by kernel_rfl) (of_decide_eq_true (by kernel_rfl)) k0 bel lt0) (trodAll_cons_mk (shut_int Tryz.underlying3 w1) trodAll_mk0)), rfl, bel.frame _, fun h => by cases h⟩

set_option maxRecDepth 100000 in
theorem lifted (os : Os) (started : os.Started) (H : Type) (enc : TypeId × Value → H) (F : Stop.Interp) :
    ReturnsInHanded {} Tryz.checked os 8 .any ((OpenSpec.ofChange Rows.nullLeastSpec).preRow enc Tryz.prog Tryz.f8 Rows.nullLeastRow.domain false Rows.nullLeastRow.laid) (((OpenSpec.ofChange Rows.nullLeastSpec).at F).post enc Tryz.prog Tryz.f8 false true false false) := by
  obtain ⟨places, hx⟩ := reads os enc
  refine returnsInHanded_of_row (C := Tryz.checked) (s := OpenSpec.ofChange Rows.nullLeastSpec) own started (by kernel_rfl) Tryz.func8
    (witness_row_at (enc := enc) (C := Tryz.checked) false (laidWorld os) zeroA rfl (by kernel_rfl) (by kernel_rfl) (by kernel_rfl)
      (OpenSpec.preRow_of_cond 8 hx (by kernel_rfl) (fun k hk => by cases hk) (by kernel_rfl) (laid_met os))) ?_
  intro W base args ds gs before hval hW _ _ _ _ _ _
  exact contract H enc W args ds gs before base hval hW

theorem said : Rows.NullLeastSaid :=
  OpenClaim.holds_of_cond 8 Tryz.f8 rfl rfl rfl rfl rfl rfl rfl ⟨rfl, rfl, rfl, rfl, rfl⟩ rfl rfl rfl rfl rfl (by kernel_rfl) Tryz.func8 (by kernel_rfl)
    (of_decide_eq_true (by kernel_rfl)) (by unfold Func.isWrapper; first | (rw [if_pos (by decide +kernel)]; kernel_rfl) | (rw [if_neg (by decide +kernel)]; exact ⟨rfl, rfl⟩))
    (fun os started H enc _ F => by rw [OpenClaim.pre_eq_preRow]; exact lifted os started H enc F)

theorem plain (f : FuncId) (fn : Func) (hf : Tryz.pinned.checked.prog.funcNamed "exegete/exegetelaw09.NullLeast" = some f) (hfn : Tryz.pinned.checked.prog.funcs[f]? = some fn) :
    true = Tryz.pinned.checked.prog.looks [] ∧ ∀ (j : Nat) t, fn.params[j]? = some t → Tryz.pinned.checked.prog.wantsStandIn t = false := by
  obtain rfl : f = 8 := Option.some.inj ((show Tryz.prog.funcNamed "exegete/exegetelaw09.NullLeast" = some 8 by kernel_rfl).symm.trans hf) |>.symm
  obtain rfl : fn = Tryz.f8 := (Option.some.inj (Tryz.func8.symm.trans hfn)).symm
  refine ⟨by kernel_rfl, fun j t ht => ?_⟩
  rw [Tryz.params8] at ht
  have hm : t = 25 ∨ t = 3 := by simpa [or_assoc] using Array.mem_of_getElem? ht
  rcases hm with rfl | rfl
  · exact (show Tryz.prog.wantsStandIn 25 = false by kernel_rfl)
  · exact (show Tryz.prog.wantsStandIn 3 = false by kernel_rfl)

theorem card : Rows.NullLeastCardSaid :=
  Claim7.holds_tied_plain_at .later [] _ _ _ _ said (fun _ h => by cases h) (by kernel_rfl) (fun _ h => by cases h) nullLeast_row_tie rfl ⟨rfl, rfl⟩ (by kernel_rfl) rfl plain (by kernel_rfl)
end Go.Proofs.YtacihjabkiedcaaGreatDoor.RowNE
namespace Go.Proofs.YtacihjabkiedcaaGreatDoor
/-- The card of the law. -/
theorem nullLeast_card : Rows.NullLeastCardSaid := RowNE.card
#print axioms nullLeast_card
end Go.Proofs.YtacihjabkiedcaaGreatDoor
