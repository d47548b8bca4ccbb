/- The law TokenLit, as its row and its card state it: for every input it answers true and the arguments read as before. -/
import Derived.Test.YtmfjddhckblbhaaGreatDoorM17
import Derived.Test.YtmfjddhckblbhaaGreatDoorM11
import Derived.Test.YtmfjddhckblbhaaGreatDoorM18
import Derived.Test.YtmfjddhckblbhaaGreatDoorM12
set_option linter.unusedVariables false
set_option linter.unusedSimpArgs false
namespace Go.Proofs.YtmfjddhckblbhaaGreatDoor
open Go Go.RowKit Go.MapKept
attribute [local go_sem] Oper.semAt_some

set_option maxRecDepth 100000 in
set_option maxHeartbeats 4000000 in
theorem tokenLit_walk (A : Option Addr) (C : Nat) (s : ByteArray) (hs : s.size ≤ 100000000000) (w : World) (HV : ∀ w', Keep [] w w' → (Go.convert 37 9 (.slice A s.size C)).run Tryz.prog w' = .ok (.string s) w') (HT : Tab w) (h5 : 5 < w.heap.size) :
    Calls Tryz.prog 6 #[.slice A s.size C] w fun e w' => e = .returned (.bool true) ∧ Keep [] w w' := by
  have HA := Lib.hid (awakeT_any w HT h5)
  have HN : ∀ w', Rngs [] w' (.slice none 0 0) [] := fun w' => Rngs.back (SlOf.nil _ _ _)
  have HX := Lib.hid (fun w1 (K : Keep [] w w1) => textT_any [] (litT s) (.slice none 0 0) w1 (HN w1) (by show (0 : Nat) ≤ 10000; omega) hs (HT.keep K h5) (Nat.lt_of_lt_of_le h5 K.size))
  have HM := Lib.hid (fun w1 (K : Keep [] w w1) => mayT_any [] (litT s) (.slice none 0 0) w1 (HN w1) (by show (0 : Nat) ≤ 10000; omega) hs (HT.keep K h5) (Nat.lt_of_lt_of_le h5 K.size))
  simp only [litT] at HX HM
  have HV2 := Lib.hid HV
  clear HV HT HN
  go_enter Tryz.func6, Tryz.ntmps6
  go_wp2_with fail
  refine HA.out.mono ?_
  rintro e w1 ⟨rfl, K1⟩
  have hcv1 := HV2.out w1 K1
  have K2 := K1.alloc (.cells #[.int .i64 1, .string s, .slice none 0 0, .int .i64 0] 24)
  have B2 := Blk.new' w1 #[.int .i64 1, .string s, .slice none 0 0, .int .i64 0] 24 (b := w1.heap.size) rfl
  have HK2 := Lib.hid (⟨K2, B2⟩ : _ ∧ _)
  have hb1 := B2.cell
  have HX1 := Lib.hid (HX.out _ K2)
  clear K1 K2 B2 HX HA
  go_wp2_with fail
  refine HX1.out.mono ?_
  rintro e w3 ⟨rfl, K3⟩
  have HK3 := Lib.hid (⟨HK2.out.1.trans K3, HK2.out.2.keep K3 (by simp)⟩ : _ ∧ _)
  clear hb1 HK2 HX1 K3 hcv1
  have hb1 := HK3.out.2.cell
  by_cases hl : (300 : Int) < (s.size : Int)
  · clear HM HV2
    go_wp2
    go_ret
    exact ⟨rfl, HK3.out.1⟩
  have hmay := lit_may s (by omega)
  have hlex := lit_lex s (by omega)
  unfold litT at hmay
  have hprint := show_print s
  by_cases hz : s.size = 0
  · have hz0 : ((s.size : Int) == 0) = true := by rw [hz]; rfl
    have htx : (⟨(textT ⟨1, s, [], 0⟩).toArray⟩ : ByteArray) = { data := #[] } := by
      unfold textT
      rw [hmay, if_neg (by simp [hz])]
    have HM1 := Lib.hid (HM.out _ HK3.out.1)
    rw [hmay, show decide (s.size ≠ 0) = false from decide_eq_false (not_not_intro hz)] at HM1
    rw [htx]
    clear HM HV2 htx hmay hlex hprint
    go_wp2_with fail
    refine HM1.out.mono ?_
    rintro e w4 ⟨rfl, K4⟩
    go_wp2
    go_ret
    exact ⟨rfl, HK3.out.1.trans K4⟩
  · have hz0 : ((s.size : Int) == 0) = false := beq_eq_false_iff_ne.2 (by omega)
    have htx : textT ⟨1, s, [], 0⟩ = showL (litT s) := by
      unfold textT
      rw [hmay, if_pos (decide_eq_true hz)]
      rfl
    rw [htx]
    rw [if_neg hz] at hlex
    generalize hX : (⟨(showL (litT s)).toArray⟩ : ByteArray) = X at hlex ⊢
    have hsz : X.size = (showL (litT s)).length := by rw [← hX]; rfl
    have hXP : ∀ k (h : k < X.size), 32 ≤ (X[k]'h).toNat ∧ (X[k]'h).toNat ≤ 126 := fun k h => by
      subst hX
      exact hprint _ (List.getElem_mem (l := showL (litT s)) (by exact h))
    have HXP := Lib.hid hXP
    rw [← hsz] at hlex
    have hx4 : X.size ≤ 10000 := by
      have h1 := litL_len s.data.toList
      rw [lenB] at h1
      rw [hsz, show_lit]
      simp
      omega
    have HAL := Lib.hid (fun w' => allTok_any [] X w' (by simp) _ _ _ hlex)
    have HM1 := Lib.hid (fun w' K => HM.out w' K)
    rw [hmay, show decide (s.size ≠ 0) = true from decide_eq_true hz] at HM1
    clear htx hX hsz hXP hprint hlex hmay HM
    go_wp2
    go_loopw [6] (fun i wr => wr = w3 ∧ ∃ k : Nat, k ≤ X.size ∧ i = .int .i64 k) (fun i _ => X.size - (intOf i).toNat)
    case atStart => exact ⟨rfl, 0, by omega, rfl⟩
    case round =>
      obtain ⟨rfl, k, hk, rfl⟩ := hrel
      by_cases hlt : k < X.size
      · have hlt' : (k : Int) < (X.size : Int) := by omega
        obtain ⟨p1, p2⟩ := HXP.out k hlt
        generalize hsk : X[k]'hlt = c at *
        have p3 : ¬ ((c.toNat : Int) < 32) := by omega
        have p4 : ¬ (126 < (c.toNat : Int)) := by omega
        go_wp2
        all_goals exact ⟨⟨trivial, k + 1, by omega, by go_num⟩, by simp [intOf]; omega⟩
      · have hlt' : ¬ ((k : Int) < (X.size : Int)) := by omega
        go_wp2_with fail
        refine (HAL.out _).mono ?_
        rintro e w4 ⟨⟨u, rfl, HTS⟩, K4⟩
        have HK4 := Lib.hid (⟨HK3.out.1.trans K4, HK3.out.2.keep K4 (by simp)⟩ : _ ∧ _)
        clear K4 HAL
        obtain ⟨A2, C2, rfl, _, hts⟩ := SlOf.at HTS
        obtain ⟨b2, o2, rfl, _, hcl⟩ := hts (by simp)
        obtain ⟨row, _, hcell, ⟨u, hrow, hyr⟩⟩ := hcl 0 (by simp)
        simp only [List.getElem_cons_zero, litT] at hrow hyr
        subst hrow
        have y0 := hcell 0 (by omega)
        have y1 := hcell 1 (by omega)
        simp at y0 y1
        have b0 : w4.cell? ⟨w1.heap.size, 0, none⟩ = some (.int .i64 1) := HK4.out.2.cell 0
        have b1 : w4.cell? ⟨w1.heap.size, 1, none⟩ = some (.string s) := HK4.out.2.cell 1
        have b2' : w4.cell? ⟨w1.heap.size, 2, none⟩ = some (.slice none 0 0) := HK4.out.2.cell 2
        have b3 : w4.cell? ⟨w1.heap.size, 3, none⟩ = some (.int .i64 0) := HK4.out.2.cell 3
        have HMAY : Hid (∀ w', Keep [] w4 w' → Calls Tryz.prog 15 #[.agg #[.int .i64 1, .string s, .slice none 0 0, .int .i64 0]] w' fun e w'' => e = .returned (.bool true) ∧ Keep [] w4 w'') := Lib.hid (fun w' K => (HM1.out w' (HK4.out.1.trans K)).mono fun e w'' ⟨h1, h2⟩ => ⟨h1, K.trans h2⟩)
        have hcv4 : ∀ w', Keep [] w4 w' → (Go.convert 37 9 (.slice A s.size C)).run Tryz.prog w' = .ok (.string s) w' := fun w' K => HV2.out w' (HK4.out.1.trans K)
        have HS := Lib.hid (fun w' (K : Keep [] w4 w') => (⟨K.cell y0 (by simp), K.cell y1 (by simp), K.cell b0 (by simp), K.cell b1 (by simp), K.cell b2' (by simp), K.cell b3 (by simp), K⟩ :
          w'.cell? ⟨b2, o2, none⟩ = some (.int .i64 1) ∧ w'.cell? ⟨b2, o2 + 1, none⟩ = some (.string s) ∧ w'.cell? ⟨w1.heap.size, 0, none⟩ = some (.int .i64 1) ∧ w'.cell? ⟨w1.heap.size, 1, none⟩ = some (.string s) ∧ w'.cell? ⟨w1.heap.size, 2, none⟩ = some (.slice none 0 0) ∧ w'.cell? ⟨w1.heap.size, 3, none⟩ = some (.int .i64 0) ∧ Keep [] w4 w'))
        have K0 := Keep.refl [] w4
        clear HTS hts hcl hcell hyr hb1 HM1 HV2
        go_wp2
        go_region_held3 (fun w' => w'.cell? ⟨b2, o2, none⟩ = some (.int .i64 1) ∧ w'.cell? ⟨b2, o2 + 1, none⟩ = some (.string s) ∧ w'.cell? ⟨w1.heap.size, 0, none⟩ = some (.int .i64 1) ∧ w'.cell? ⟨w1.heap.size, 1, none⟩ = some (.string s) ∧ w'.cell? ⟨w1.heap.size, 2, none⟩ = some (.slice none 0 0) ∧ w'.cell? ⟨w1.heap.size, 3, none⟩ = some (.int .i64 0) ∧ Keep [] w4 w')
          (exact HS.out _ (by repeat (first | assumption | apply Keep.drew)))
          (first
            | (go_at_call 15; refine (HMAY.out _ (by repeat (first | assumption | apply Keep.drew))).mono ?_; rintro e w' ⟨rfl, K'⟩))
        have K5 : Keep [] w4 _ := ‹Keep [] w4 w'›
        go_wp2
        go_ret
        exact ⟨rfl, HK4.out.1.trans K5⟩
theorem tokenLit_walk2 (A : Option Addr) (C : Nat) (l : List Int) (w : World) (H : SlOf BytR [] w 1 (.slice A l.length C) l) (hl : l.length ≤ 1048576) (HT : Tab w) (h5 : 5 < w.heap.size) :
    Calls Tryz.prog 6 #[.slice A l.length C] w fun e w' => e = .returned (.bool true) ∧ Keep [] w w' := by
  have h := tokenLit_walk A C (bytS l) (by rw [bytS_size]; omega) w (fun w' K => by rw [bytS_size]; exact bytes_conv (SlOf.move (S' := []) H bytR_stab (by omega) K (by simp) (by simp))) HT h5
  rw [bytS_size] at h
  exact h
end Go.Proofs.YtmfjddhckblbhaaGreatDoor
namespace Go.Proofs.YtmfjddhckblbhaaGreatDoor.RowTL
open Go.ChangeShapes Go.WideShapes Go.ChangeAt Go.RowKit Go.Joins Go.Deep Go.ChangeMaps Go.Proofs.YtmfjddhckblbhaaGreatDoor.RowS

def zeroA : Array Value := #[.slice none 0 0]
set_option maxRecDepth 100000 in
theorem laid_met (os : Os) : laidMet Tryz.prog laid5 ((laidWorld os).forCall (fun _ _ => 0) ⟨#[], zeroA, []⟩).memory :=
  laidMet_of_run' 8 (by kernel_rfl) (by kernel_rfl)
theorem reads (os : Os) {H : Type} (enc : TypeId × Value → H) : ∃ places, DataW.whole enc Tryz.prog ((laidWorld os).forCall (fun _ _ => 0) ⟨#[], zeroA, []⟩).memory Tryz.f6.params.toList Rows.tokenLitSpec.vars false zeroA.toList 8 = some ([.nil], [], places) :=
  ⟨[], by kernel_rfl⟩
set_option maxRecDepth 100000 in
set_option maxHeartbeats 1000000 in
theorem contract (H : Type) (enc : TypeId × Value → H) (W : World) (args : Array Value) (ds gs : List (DataW H)) (before : List MemPlace) (base : Nat)
    (hval : ∀ (j : Nat) t v, Tryz.f6.params[j]? = some t → args[j]? = some v → Value.okWide Tryz.prog W .any base t v)
    (hW : DataW.Whole enc Tryz.prog Tryz.f6.params.toList Rows.tokenLitSpec.vars false W args.toList ds gs before) (HT : Tab W ∧ 5 < W.heap.size) (hC : Rows.uptoSmall H (ds ++ gs) = true) :
    Calls Tryz.prog 6 args W fun e W' => ∃ v, e = .returned v ∧ Rows.tokenLitSpec.post enc Tryz.prog Tryz.f6 false true false false W args v W' := by
  have hW' := hW
  obtain ⟨p, q, hA0, hV, rfl, hfz, hnd⟩ := hW
  have hA : DataW.TrodAll enc Tryz.prog W 0 (fun _ => true) true Tryz.f6.params.toList args.toList ds p := hA0
  rw [Tryz.params6] at hA hval
  obtain ⟨v0, vs0, d0, ds0, p0, q0, hargs, rfl, rfl, h0, r0⟩ := trodAll_cons hA
  obtain ⟨rfl, rfl, rfl⟩ := trodAll_nil r0
  obtain rfl : args = #[v0] := by cases args; simp_all
  obtain ⟨rfl, rfl⟩ := trodVars_none hV
  have k0 := h0
  have lt0 : ∀ x ∈ p0, x.block < W.heap.size := by obtain ⟨m, hm⟩ := k0; exact DataW.trod_lt m _ _ _ hm
  obtain ⟨x0, y0, z0, rfl⟩ := okWide_slice Tryz.underlying37 (hval 0 _ v0 rfl rfl)
  obtain ⟨n0, hn0⟩ := h0
  have hb0 := bytes_bulk hn0
  obtain ⟨A0, l0, C0, e0, hp0⟩ := bytes_read hn0
  obtain ⟨rfl, rfl, rfl⟩ : x0 = A0 ∧ y0 = l0.length ∧ z0 = C0 := by simpa using e0
  have hC2 : l0.length ≤ 1048576 := by
    have h := of_decide_eq_true (show decide (Rows.uptoBulkAll (_ ++ []) ≤ 1048576) = true from hC)
    simp only [List.cons_append, List.nil_append, Rows.uptoBulkAll] at h
    simp only at hb0
    omega
  clear hA0
  refine (tokenLit_walk2 _ _ l0 W hp0 hC2 HT.1 HT.2).mono fun e W' ⟨he, kp⟩ => ?_
  have bel := kp.below
  subst he
  exact ⟨_, rfl, _, _, _, [], _, [], hW', trodAll_mk1 (shut_bool Tryz.underlying4 _), (trodAll_cons_mk (Below.trod laidOut (by kernel_rfl) (of_decide_eq_true (by kernel_rfl)) k0 bel lt0) trodAll_mk0), rfl, bel.frame _, fun h => by cases h⟩

set_option maxRecDepth 100000 in
theorem lifted (os : Os) (started : os.Started) (H : Type) (enc : TypeId × Value → H) (F : Stop.Interp) :
    ReturnsInHanded {} Tryz.checked os 6 .any ((Rows.OpenSpec.upto Rows.tokenLitSpec).preRow enc Tryz.prog Tryz.f6 Rows.tokenLitUptoRow.domain false Rows.tokenLitUptoRow.laid) (((Rows.OpenSpec.upto Rows.tokenLitSpec).at F).post enc Tryz.prog Tryz.f6 false true false false) := by
  obtain ⟨places, hx⟩ := reads os enc
  refine returnsInHanded_of_row (C := Tryz.checked) (s := Rows.OpenSpec.upto Rows.tokenLitSpec) own started (by kernel_rfl) Tryz.func6
    (witness_row_at (enc := enc) (C := Tryz.checked) false (laidWorld os) zeroA rfl (by kernel_rfl) (by kernel_rfl) (by kernel_rfl)
      (OpenSpec.preRow_of_cond 8 hx (by kernel_rfl) (fun k hk => by obtain rfl := Option.some.inj hk; first | rfl | simp [Rows.uptoSmall, Rows.uptoBulkAll, Rows.uptoBulk]) (by kernel_rfl) (laid_met os))) ?_
  intro W base args ds gs before hval hW _ hC _ hL _ _
  exact contract H enc W args ds gs before base hval hW (tab_of (show laidMet Tryz.prog laid5 W from hL)) (hC _ rfl)

theorem said : Rows.TokenLitUptoSaid :=
  OpenClaim.holds_of_cond 6 Tryz.f6 rfl rfl rfl rfl rfl rfl rfl ⟨rfl, rfl, rfl, rfl, rfl⟩ rfl rfl rfl rfl rfl (by kernel_rfl) Tryz.func6 (by kernel_rfl)
    (of_decide_eq_true (by kernel_rfl)) (by unfold Func.isWrapper; first | (rw [if_pos (by decide +kernel)]; kernel_rfl) | (rw [if_neg (by decide +kernel)]; exact ⟨rfl, rfl⟩))
    (fun os started H enc _ F => by rw [OpenClaim.pre_eq_preRow]; exact lifted os started H enc F)

theorem plain (f : FuncId) (fn : Func) (hf : Tryz.pinned.checked.prog.funcNamed "exegete/exegetelaw05.TokenLit" = some f) (hfn : Tryz.pinned.checked.prog.funcs[f]? = some fn) :
    false = Tryz.pinned.checked.prog.looks [] ∧ ∀ (j : Nat) t, fn.params[j]? = some t → Tryz.pinned.checked.prog.wantsStandIn t = false := by
  obtain rfl : f = 6 := Option.some.inj ((show Tryz.prog.funcNamed "exegete/exegetelaw05.TokenLit" = some 6 by kernel_rfl).symm.trans hf) |>.symm
  obtain rfl : fn = Tryz.f6 := (Option.some.inj (Tryz.func6.symm.trans hfn)).symm
  refine ⟨by kernel_rfl, fun j t ht => ?_⟩
  rw [Tryz.params6] at ht
  have hm : t = 37 := by simpa [or_assoc] using Array.mem_of_getElem? ht
  rcases hm with rfl
  exact (show Tryz.prog.wantsStandIn 37 = false by kernel_rfl)

theorem card : Rows.TokenLitUptoCardSaid :=
  Claim7.holds_tied_plain_at .later [] _ _ _ _ said (fun _ h => by cases h) (by kernel_rfl) (fun _ h => by cases h) tokenLitUpto_row_tie rfl ⟨rfl, rfl⟩ (by kernel_rfl) rfl plain (by kernel_rfl)
end Go.Proofs.YtmfjddhckblbhaaGreatDoor.RowTL
namespace Go.Proofs.YtmfjddhckblbhaaGreatDoor
/-- The card of the law. -/
theorem tokenLitUpto_card : Rows.TokenLitUptoCardSaid := RowTL.card
#print axioms tokenLitUpto_card
end Go.Proofs.YtmfjddhckblbhaaGreatDoor
