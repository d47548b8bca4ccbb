/- The reader: a rule. -/
import Derived.Test.YtkminfdblimiiaaGreatDoorJ9
set_option linter.unusedVariables false
set_option linter.unusedSimpArgs false
namespace Go.Proofs.YtkminfdblimiiaaGreatDoor
open Go Go.RowKit Go.MapKept

def ruleZ : Array Value := #[.string { data := #[] }, .int .i64 0, .int .i64 0, .string { data := #[] }, .slice none 0 0, .slice none 0 0, .int .i64 0, .slice none 0 0, .int .i64 0]
def ruleM (m : Int) : Array Value := #[.string { data := #[] }, .int .i64 m, .int .i64 0, .string { data := #[] }, .slice none 0 0, .slice none 0 0, .int .i64 0, .slice none 0 0, .int .i64 0]
def setE (w : World) (b : Nat) (x0 x1 x2 x3 x4 : Value) : World := ((((w.setCell ⟨b, 2, none⟩ x0).setCell ⟨b, 3, none⟩ x1).setCell ⟨b, 4, none⟩ x2).setCell ⟨b, 5, none⟩ x3).setCell ⟨b, 6, none⟩ x4
theorem Keep.setE {S : List Nat} {a w : World} (h : Keep S a w) {b : Nat} (hp : b ∈ S ∨ a.heap.size ≤ b) (x0 x1 x2 x3 x4 : Value) : Keep S a (Proofs.YtkminfdblimiiaaGreatDoor.setE w b x0 x1 x2 x3 x4) :=
  ((((h.setCell (p := ⟨b, 2, none⟩) hp _).setCell (p := ⟨b, 3, none⟩) hp _).setCell (p := ⟨b, 4, none⟩) hp _).setCell (p := ⟨b, 5, none⟩) hp _).setCell (p := ⟨b, 6, none⟩) hp _
theorem Blk.setE {w : World} {b : Nat} {y0 y1 y2 y3 y4 y5 y6 y7 y8 : Value} {T : TypeId} (h : Blk w b #[y0, y1, y2, y3, y4, y5, y6, y7, y8] T) (x0 x1 x2 x3 x4 : Value) : Blk (Proofs.YtkminfdblimiiaaGreatDoor.setE w b x0 x1 x2 x3 x4) b #[y0, y1, x0, x1, x2, x3, x4, y7, y8] T := by
  simpa [Proofs.YtkminfdblimiiaaGreatDoor.setE] using ((((h.set 2 x0).set 3 x1).set 4 x2).set 5 x3).set 6 x4
def set9 (w : World) (b : Nat) (x0 x1 x2 x3 x4 x5 x6 x7 x8 : Value) : World := ((((((((w.setCell ⟨b, 0, none⟩ x0).setCell ⟨b, 1, none⟩ x1).setCell ⟨b, 2, none⟩ x2).setCell ⟨b, 3, none⟩ x3).setCell ⟨b, 4, none⟩ x4).setCell ⟨b, 5, none⟩ x5).setCell ⟨b, 6, none⟩ x6).setCell ⟨b, 7, none⟩ x7).setCell ⟨b, 8, none⟩ x8
theorem Keep.set9 {S : List Nat} {a w : World} (h : Keep S a w) {b : Nat} (hp : b ∈ S ∨ a.heap.size ≤ b) (x0 x1 x2 x3 x4 x5 x6 x7 x8 : Value) : Keep S a (Proofs.YtkminfdblimiiaaGreatDoor.set9 w b x0 x1 x2 x3 x4 x5 x6 x7 x8) :=
  ((((((((h.setCell (p := ⟨b, 0, none⟩) hp _).setCell (p := ⟨b, 1, none⟩) hp _).setCell (p := ⟨b, 2, none⟩) hp _).setCell (p := ⟨b, 3, none⟩) hp _).setCell (p := ⟨b, 4, none⟩) hp _).setCell (p := ⟨b, 5, none⟩) hp _).setCell (p := ⟨b, 6, none⟩) hp _).setCell (p := ⟨b, 7, none⟩) hp _).setCell (p := ⟨b, 8, none⟩) hp _
theorem Blk.set9 {w : World} {b : Nat} {y0 y1 y2 y3 y4 y5 y6 y7 y8 : Value} {T : TypeId} (h : Blk w b #[y0, y1, y2, y3, y4, y5, y6, y7, y8] T) (x0 x1 x2 x3 x4 x5 x6 x7 x8 : Value) : Blk (Proofs.YtkminfdblimiiaaGreatDoor.set9 w b x0 x1 x2 x3 x4 x5 x6 x7 x8) b #[x0, x1, x2, x3, x4, x5, x6, x7, x8] T := by
  simpa [Proofs.YtkminfdblimiiaaGreatDoor.set9] using ((((((((h.set 0 x0).set 1 x1).set 2 x2).set 3 x3).set 4 x4).set 5 x5).set 6 x6).set 7 x7).set 8 x8

def RulePost (S : List Nat) (b : Nat) (n deep : Int) (w : World) (r : Except Err (RuleS × List TokS)) (e : Ending) (w' : World) : Prop :=
  Keep [b] w w' ∧ match r with
    | .ok (p, ts) => ∃ row, e = .returned (.agg row) ∧ RuleAt S w' p row ∧ Rdr S w' b ts n deep
    | .error x => e = PanE x
/-- What the walk of rule knows at the head of a round: the marks. -/
def MarksAt (S : List Nat) (b : Nat) (n deep : Int) (ts : List TokS) (w wr : World) : Prop :=
  ∃ (m : Int) (tr : List TokS), tr.length ≤ ts.length ∧ Rdr (w.heap.size :: (w.heap.size + 1) :: S) wr b tr n deep ∧ Blk wr w.heap.size ruleZ 92 ∧ Blk wr (w.heap.size + 1) (ruleM m) 92 ∧ Keep [b] w wr ∧ marksL m tr = marksL 0 ts
theorem marksL_go {m : Int} {t : TokS} {ts : List TokS} (h : isR 5 ⟨#[]⟩ (t :: ts) = true) : marksL m (t :: ts) = marksL (orR m (bitR t.t)) ts := by rw [marksL, if_pos h]
theorem marksL_end {m : Int} {ts : List TokS} (h : isR 5 ⟨#[]⟩ ts = false) : marksL m ts = (m, ts) := by
  cases ts with
  | nil => rfl
  | cons t ts => rw [marksL, if_neg (by simp [h])]

theorem tok_text (k a : Int) (t : ByteArray) (A : Option Addr) (m C : Nat) (w : World) : (Instr.field 115 (.agg #[.int .i64 k, .string t, .slice A m C, .int .i64 a]) 1).run Tryz.prog w = .ok (.string t) w := by kernel_rfl
theorem tok_set (k a : Int) (t : ByteArray) (A : Option Addr) (m C : Nat) (w : World) : (Instr.field 115 (.agg #[.int .i64 k, .string t, .slice A m C, .int .i64 a]) 2).run Tryz.prog w = .ok (.slice A m C) w := by kernel_rfl

set_option maxRecDepth 20000 in
set_option maxHeartbeats 4000000 in
theorem rule_any (S : List Nat) (b : Nat) (ts : List TokS) (n deep : Int) (many : Nat) (w : World) (hd : deep = 0) (hts : ts.length ≤ 600) (H : Rdr S w b ts n deep) (hS : b ∈ S) (hSl : ∀ x ∈ S, x < w.heap.size) :
    Calls Tryz.prog 53 #[.pointer (some ⟨b, 0, none⟩), .int .i64 many] w (RulePost S b n deep w (ruleR n many ts)) := by
  subst hd
  have hblt := H.lt
  generalize hres : ruleR n many ts = res
  have HRES := Lib.hid hres; clear hres
  have hst : MarksAt S b n 0 ts w ((w.alloc (.cells ruleZ 92)).alloc (.cells ruleZ 92)) := by
    have K0 := ((Keep.refl [] w).alloc (.cells ruleZ 92)).alloc (.cells ruleZ 92)
    exact ⟨0, ts, Nat.le_refl _, H.move K0 (by simp) (fun x hx => by rcases List.mem_cons.1 hx with rfl | h; exact .inr (by omega); rcases List.mem_cons.1 h with rfl | h; exact .inr (by omega); exact .inl h), (Blk.new _ _ _).alloc _, Blk.new' _ _ _ (by simp), K0.mono (by simp), rfl⟩
  have HST := Lib.hid hst; clear hst
  go_enter Tryz.func53, Tryz.ntmps53
  go_wp2
  go_loopw [] (fun wr => MarksAt S b n 0 ts w wr) (fun wr => lenOf ((wr.cell? ⟨b, 0, none⟩).getD undef))
  case atStart => exact HST.out
  case round =>
    clear HST H
    obtain ⟨m, tr, htr, Hr, Zr, Or, Kr, hg⟩ := hrel
    have HG := Lib.hid hg; clear hg
    have HM := Lib.hid Hr.len
    have hz := Zr.lt
    have ho := Or.lt
    have cO := Or.cell
    have fO := Or.frozen
    have c1 : wr.cell? ⟨w.heap.size + 1, 1, none⟩ = some (.int .i64 m) := cO 1
    go_wp2_with fail
    refine (ris_any _ b tr n 0 5 ⟨#[]⟩ wr Hr).mono ?_
    rintro e w1 ⟨rfl, rfl⟩
    cases hi : isR 5 ⟨#[]⟩ tr
    · have hmk : marksL 0 ts = (m, tr) := by rw [← HG.out]; exact marksL_end hi
      clear HG
      have HMK := Lib.hid hmk; clear hmk
      by_cases hmany : isR 0 ⟨#[]⟩ tr = true ∧ many = 16
      · obtain ⟨h1, h2⟩ := hmany
        have hb : ((many : Int) == 16) = true := by simp; omega
        have hres := HRES.out
        simp only [ruleR, HMK.out, h1, h2, and_self, if_true] at hres
        have HRES := Lib.hid hres; clear hres HMK h2
        go_wp2_with fail
        refine (ris_any _ b tr n 0 0 ⟨#[]⟩ wr Hr).mono ?_
        rintro e w1 ⟨rfl, rfl⟩
        rw [h1]
        go_wp2_with fail
        refine (fail_any _ b tr n 0 7 wr Hr).mono ?_
        rintro e w1 ⟨rfl, K1⟩
        have hres := HRES.out
        have HRES := Lib.hid hres; clear hres
        unfold PanE
        go_wp2
        have hres := HRES.out
        subst hres
        exact ⟨rfl, Kr.trans (K1.mono (by simp)), rfl⟩
      · have hcall : ∀ (Q : Ending → World → Prop), True := fun _ => trivial
        clear hcall
        have hpick : isR 0 ⟨#[]⟩ tr = false ∨ (isR 0 ⟨#[]⟩ tr = true ∧ ((many : Int) == 16) = false) := by
          cases h : isR 0 ⟨#[]⟩ tr
          · exact .inl rfl
          · exact .inr ⟨rfl, by simp; intro h2; exact hmany ⟨h, by omega⟩⟩
        have hres := HRES.out
        simp only [ruleR, HMK.out, if_neg hmany] at hres
        have HRES := Lib.hid hres; clear hres HMK
        go_wp2_with fail
        refine (ris_any _ b tr n 0 0 ⟨#[]⟩ wr Hr).mono ?_
        rintro e w1 ⟨rfl, rfl⟩
        clear hmany
        rcases hpick with h1 | ⟨h1, hb⟩
        all_goals
          rw [h1]
          clear h1
          go_wp2_with fail
          refine (take_any (w.heap.size :: (w.heap.size + 1) :: S) b tr n 0 0 ⟨#[]⟩ wr Hr (by simp [hS])).mono ?_
          rintro e w2 ⟨K2, hP⟩
          have Z2 := Zr.keep K2 (by simp; omega)
          have O2 := Or.keep K2 (by simp; omega)
          have KF2 := Kr.trans K2
          cases h2 : takeR n 0 ⟨#[]⟩ tr with
          | error x =>
            rw [h2] at hP
            simp only at hP
            subst hP
            have hres := HRES.out
            simp only [h2] at hres
            have HRES := Lib.hid hres; clear hres
            unfold PanE
            go_wp2
            have hres := HRES.out
            subst hres
            exact ⟨rfl, KF2, rfl⟩
          | ok q =>
            obtain ⟨t, ts1⟩ := q
            rw [h2] at hP
            obtain ⟨A2, m2, C2, rfl, _, R2⟩ := hP
            have hl2 := takeR_len h2
            have hres := HRES.out
            simp only [h2] at hres
            have HRES := Lib.hid hres; clear hres
            have T3 := Blk.new w2 #[.int .i64 t.k, .string t.t, .slice A2 m2 C2, .int .i64 t.a] 115
            have hz2 := Z2.lt
            have ho2 := O2.lt
            have O3 : Blk (((w2.setCell ⟨w.heap.size + 1, 0, none⟩ (.string t.t)).setCell ⟨w.heap.size + 1, 8, none⟩ (.int .i64 t.a)).alloc (.cells #[.int .i64 t.k, .string t.t, .slice A2 m2 C2, .int .i64 t.a] 115)) (w.heap.size + 1) #[.string t.t, .int .i64 m, .int .i64 0, .string { data := #[] }, .slice none 0 0, .slice none 0 0, .int .i64 0, .slice none 0 0, .int .i64 t.a] 92 := by
              simpa [ruleM] using ((O2.set 0 (.string t.t)).set 8 (.int .i64 t.a)).alloc (.cells #[.int .i64 t.k, .string t.t, .slice A2 m2 C2, .int .i64 t.a] 115)
            have Z3 := ((Z2.setOther ⟨w.heap.size + 1, 0, none⟩ (by simp) (.string t.t)).setOther ⟨w.heap.size + 1, 8, none⟩ (by simp) (.int .i64 t.a)).alloc (.cells #[.int .i64 t.k, .string t.t, .slice A2 m2 C2, .int .i64 t.a] 115)
            have K23 := (((Keep.refl [w.heap.size + 1] w2).setCell (p := ⟨w.heap.size + 1, 0, none⟩) (by simp) (.string t.t)).setCell (p := ⟨w.heap.size + 1, 8, none⟩) (by simp) (.int .i64 t.a)).alloc (.cells #[.int .i64 t.k, .string t.t, .slice A2 m2 C2, .int .i64 t.a] 115)
            have KF3 := ((KF2.setCell (p := ⟨w.heap.size + 1, 0, none⟩) (.inr (by simp)) (.string t.t)).setCell (p := ⟨w.heap.size + 1, 8, none⟩) (.inr (by simp)) (.int .i64 t.a)).alloc (.cells #[.int .i64 t.k, .string t.t, .slice A2 m2 C2, .int .i64 t.a] 115)
            have R3 := R2.move (S' := w.heap.size :: (w.heap.size + 1) :: S) K23 (fun x hx => .inl (by simp at hx; subst hx; exact ⟨by simp, by omega⟩)) (fun x hx => .inl hx)
            have fO2 := O2.frozen
            have cO2 := O2.cell
            unfold ruleM at cO2
            clear Hr Zr Or Kr cO fO c1 K2 K23 T3 R2 Z2 O2 KF2
            have R3d := R3.move (S' := (w.heap.size :: (w.heap.size + 1) :: S)) ((Keep.refl [] _).drew) (by simp) (fun x hx => .inl hx)
            have Z3d := Z3.drew
            have O3d := O3.drew
            have KF3d := KF3.drew
            clear R3 Z3 O3 KF3
            go_wp2_with fail
            go_region
            clear fO2 cO2
            go_wp2_with fail
            refine (take_any (w.heap.size :: (w.heap.size + 1) :: S) b ts1 n 0 4 (sg 61) _ R3d (by simp [hS])).mono ?_
            rintro e w4 ⟨K4, hP⟩
            have Z4 := Z3d.keep K4 (by simp; omega)
            have O4 := O3d.keep K4 (by simp; omega)
            have KF4 := KF3d.trans K4
            clear Z3d O3d KF3d
            cases h4 : takeR n 4 (sg 61) ts1 with
            | error x =>
              rw [h4] at hP
              simp only at hP
              subst hP
              have hres := HRES.out
              simp only [h4] at hres
              have HRES := Lib.hid hres; clear hres
              unfold PanE
              go_wp2
              have hres := HRES.out
              subst hres
              exact ⟨rfl, KF4, rfl⟩
            | ok q =>
              obtain ⟨t4, ts2⟩ := q
              rw [h4] at hP
              obtain ⟨A4, m4, C4, rfl, _, R4⟩ := hP
              have hl4 := takeR_len h4
              have hres := HRES.out
              simp only [h4] at hres
              have HRES := Lib.hid hres; clear hres
              have hz4 := Z4.lt
              have ho4 := O4.lt
              have hs4 := KF4.size
              go_wp2_with fail
              refine (alt_all 12 (w.heap.size :: (w.heap.size + 1) :: S) b ts2 n 0 w4 (by omega) (by omega) (by omega) R4 (by simp [hS]) (fun x hx => by rcases List.mem_cons.1 hx with rfl | h; exact hz4; rcases List.mem_cons.1 h with rfl | h; exact ho4; have := hSl x h; omega)).mono ?_
              rintro e w5 ⟨K5, hP⟩
              have Z5 := Z4.keep K5 (by simp; omega)
              have O5 := O4.keep K5 (by simp; omega)
              have KF5 := KF4.trans K5
              clear Z4 O4 KF4
              cases h5 : altR n 12 ts2 with
              | error x =>
                rw [h5] at hP
                simp only at hP
                subst hP
                have hres := HRES.out
                simp only [h5] at hres
                have HRES := Lib.hid hres; clear hres
                unfold PanE
                go_wp2
                have hres := HRES.out
                subst hres
                exact ⟨rfl, KF5, rfl⟩
              | ok q =>
                obtain ⟨p, ts3⟩ := q
                rw [h5] at hP
                obtain ⟨row, rfl, hp, R5⟩ := hP
                obtain ⟨k, tt, A', m', C', B, m'', D, a, hrow, hka, haa⟩ := PartAt.form hp
                subst hrow
                clear hka haa
                have hres := HRES.out
                simp only [h5] at hres
                have HRES := Lib.hid hres; clear hres
                have cO5 := O5.cell
                have fO5 := O5.frozen
                have hz5 := Z5.lt
                have ho5 := O5.lt
                have K56 := (Keep.refl [w.heap.size + 1] w5).setE (b := w.heap.size + 1) (by simp) (.int .i64 k) (.string tt) (.slice A' m' C') (.slice B m'' D) (.int .i64 a)
                have O6 := O5.setE (.int .i64 k) (.string tt) (.slice A' m' C') (.slice B m'' D) (.int .i64 a)
                have Z6 := Z5.keep K56 (by simp)
                have KF6 := KF5.setE (b := w.heap.size + 1) (.inr (by simp)) (.int .i64 k) (.string tt) (.slice A' m' C') (.slice B m'' D) (.int .i64 a)
                have R6 := R5.move (S' := (w.heap.size :: (w.heap.size + 1) :: S)) K56 (fun x hx => .inl (by simp at hx; subst hx; exact ⟨by simp, by omega⟩)) (fun x hx => .inl hx)
                have hp6 := partAt_stab _ _ (w.heap.size :: (w.heap.size + 1) :: S) _ _ _ _ hp K56 (by simp) (fun x hx => .inl hx)
                clear O5 Z5 KF5 R5 hp K56 K5 K4
                unfold setE at O6 Z6 KF6 R6 hp6
                go_wp2_with fail
                refine (sign2_any (w.heap.size :: (w.heap.size + 1) :: S) b ts3 n 0 (sg 47) _ R6 (by simp [hS])).mono ?_
                rintro e w7 ⟨rfl, R7, K7⟩
                have Z7 := Z6.keep K7 (by simp; omega)
                have O7 := O6.keep K7 (by simp; omega)
                have KF7 := KF6.trans K7
                have hp7 := partAt_stab _ _ (w.heap.size :: (w.heap.size + 1) :: S) _ _ _ _ hp6 K7 (by simp [hS]) (fun x hx => .inl hx)
                clear Z6 O6 KF6 hp6 cO5 fO5
                cases h7 : isR 4 (sg 47) ts3
                · rw [h7] at R7
                  simp only [Bool.false_eq_true, if_false] at R7
                  have hno : notR n ts3 = .ok ([], ts3) := by rw [notR, if_neg (by simp [h7])]
                  have hn7 : Rngs (w.heap.size :: (w.heap.size + 1) :: S) w7 (.slice none 0 0) [] := Sl.nil _ _ _
                  have hres := HRES.out
                  simp only [hno] at hres
                  have HRES := Lib.hid hres; clear hres
                  go_wp2_with fail
                  refine (take_any (w.heap.size :: (w.heap.size + 1) :: S) b ts3 n 0 4 (sg 59) _ R7 (by simp [hS])).mono ?_
                  rintro e w9 ⟨K9, hP⟩
                  have Z9 := Z7.keep K9 (by simp; omega)
                  have O9 := O7.keep K9 (by simp; omega)
                  have KF9 := KF7.trans K9
                  clear Z7 O7 KF7
                  cases h9 : takeR n 4 (sg 59) ts3 with
                  | error x =>
                    rw [h9] at hP
                    simp only at hP
                    subst hP
                    have hres := HRES.out
                    simp only [h9] at hres
                    have HRES := Lib.hid hres; clear hres
                    unfold PanE
                    go_wp2
                    have hres := HRES.out
                    subst hres
                    exact ⟨rfl, KF9, rfl⟩
                  | ok q =>
                    obtain ⟨t9, ts5⟩ := q
                    rw [h9] at hP
                    obtain ⟨A9, m9, C9, rfl, _, R9⟩ := hP
                    have hres := HRES.out
                    simp only [h9] at hres
                    have HRES := Lib.hid hres; clear hres
                    have hp9 := partAt_stab _ _ (w.heap.size :: (w.heap.size + 1) :: S) _ _ _ _ hp7 K9 (by simp [hS]) (fun x hx => .inl hx)
                    have hn9 := Sl.move (S' := (w.heap.size :: (w.heap.size + 1) :: S)) hn7 (by omega) K9 (by simp [hS]) (fun x hx => .inl hx)
                    have z9 := Z9.lt
                    have o9 := O9.lt
                    have cZ := Z9.cell
                    have fZ := Z9.frozen
                    have cO := O9.cell
                    unfold ruleZ at cZ
                    have K10 := (Keep.refl [w.heap.size] w9).set9 (b := w.heap.size) (by simp) (.string t.t) (.int .i64 m) (.int .i64 k) (.string tt) (.slice A' m' C') (.slice B m'' D) (.int .i64 a) (.slice none 0 0) (.int .i64 t.a)
                    have BF := Z9.set9 (.string t.t) (.int .i64 m) (.int .i64 k) (.string tt) (.slice A' m' C') (.slice B m'' D) (.int .i64 a) (.slice none 0 0) (.int .i64 t.a)
                    have hS5 : ∀ x ∈ S, x ∈ (w.heap.size :: (w.heap.size + 1) :: S) ∨ w9.heap.size ≤ x := fun x hx => .inl (by simp [hx])
                    have RF := R9.move (S' := S) K10 (fun x hx => .inl (by simp at hx; subst hx; exact ⟨by simp, by omega⟩)) hS5
                    have hpF := partAt_stab _ _ S _ _ _ _ hp9 K10 (by simp) hS5
                    have hnF := Sl.move (S' := S) hn9 (by omega) K10 (by simp) hS5
                    have KF := KF9.set9 (b := w.heap.size) (.inr (Nat.le_refl _)) (.string t.t) (.int .i64 m) (.int .i64 k) (.string tt) (.slice A' m' C') (.slice B m'' D) (.int .i64 a) (.slice none 0 0) (.int .i64 t.a)
                    have cF := BF.cell
                    unfold set9 at cF
                    have CF := Lib.hid cF; clear cF BF
                    go_wp2
                    have cF := CF.out
                    have hres := HRES.out
                    subst hres
                    exact bodyPost_ret (v := .agg #[.string t.t, .int .i64 m, .int .i64 k, .string tt, .slice A' m' C', .slice B m'' D, .int .i64 a, .slice none 0 0, .int .i64 t.a]) (by simp [results, Tryz.results53, go_sem, cF]) rfl ⟨KF, _, rfl, ⟨k, tt, A', m', C', B, m'', D, a, none, 0, 0, rfl, hpF, hnF⟩, RF⟩
                · rw [h7] at R7
                  simp only [if_true] at R7
                  go_wp2_with fail
                  refine (take_any (w.heap.size :: (w.heap.size + 1) :: S) b ts3.tail n 0 2 ⟨#[]⟩ _ R7 (by simp [hS])).mono ?_
                  rintro e w8 ⟨K8, hP⟩
                  have Z8 := Z7.keep K8 (by simp; omega)
                  have O8 := O7.keep K8 (by simp; omega)
                  have KF8 := KF7.trans K8
                  have hp8 := partAt_stab _ _ (w.heap.size :: (w.heap.size + 1) :: S) _ _ _ _ hp7 K8 (by simp [hS]) (fun x hx => .inl hx)
                  clear Z7 O7 KF7 hp7
                  cases h8 : takeR n 2 ⟨#[]⟩ ts3.tail with
                  | error x =>
                    rw [h8] at hP
                    simp only at hP
                    subst hP
                    have hno : notR n ts3 = .error x := by rw [notR, if_pos h7, h8]
                    have hres := HRES.out
                    simp only [hno] at hres
                    have HRES := Lib.hid hres; clear hres
                    unfold PanE
                    go_wp2
                    have hres := HRES.out
                    subst hres
                    exact ⟨rfl, KF8, rfl⟩
                  | ok q =>
                    obtain ⟨t8, ts4⟩ := q
                    rw [h8] at hP
                    obtain ⟨N, n8, F, rfl, hn8, R8⟩ := hP
                    have hno : notR n ts3 = .ok (t8.r, ts4) := by rw [notR, if_pos h7, h8]
                    have hres := HRES.out
                    simp only [hno] at hres
                    have HRES := Lib.hid hres; clear hres
                    have cO8 := O8.cell
                    have fO8 := O8.frozen
                    have hz8 := Z8.lt
                    have ho8 := O8.lt
                    have hfs := tok_set t8.k t8.a t8.t N n8 F
                    have K89 := (Keep.refl [w.heap.size + 1] w8).setCell (p := ⟨w.heap.size + 1, 7, none⟩) (by simp) (.slice N n8 F)
                    have Oa : Blk (w8.setCell ⟨w.heap.size + 1, 7, none⟩ (.slice N n8 F)) (w.heap.size + 1) #[.string t.t, .int .i64 m, .int .i64 k, .string tt, .slice A' m' C', .slice B m'' D, .int .i64 a, .slice N n8 F, .int .i64 t.a] 92 := by simpa using O8.set 7 (.slice N n8 F)
                    have Za := Z8.keep K89 (by simp)
                    have KFa := KF8.setCell (p := ⟨w.heap.size + 1, 7, none⟩) (.inr (by simp)) (.slice N n8 F)
                    have Ra := R8.move (S' := (w.heap.size :: (w.heap.size + 1) :: S)) K89 (fun x hx => .inl (by simp at hx; subst hx; exact ⟨by simp, by omega⟩)) (fun x hx => .inl hx)
                    have hpa := partAt_stab _ _ (w.heap.size :: (w.heap.size + 1) :: S) _ _ _ _ hp8 K89 (by simp) (fun x hx => .inl hx)
                    have hna := Sl.move (S' := (w.heap.size :: (w.heap.size + 1) :: S)) hn8 (by omega) K89 (by simp) (fun x hx => .inl hx)
                    clear O8 Z8 KF8 R8 hp8 hn8 K89
                    go_wp2_with fail
                    refine (take_any (w.heap.size :: (w.heap.size + 1) :: S) b ts4 n 0 4 (sg 59) _ Ra (by simp [hS])).mono ?_
                    rintro e w9 ⟨K9, hP⟩
                    have Z9 := Za.keep K9 (by simp; omega)
                    have O9 := Oa.keep K9 (by simp; omega)
                    have KF9 := KFa.trans K9
                    clear Za Oa KFa
                    cases h9 : takeR n 4 (sg 59) ts4 with
                    | error x =>
                      rw [h9] at hP
                      simp only at hP
                      subst hP
                      have hres := HRES.out
                      simp only [h9] at hres
                      have HRES := Lib.hid hres; clear hres
                      unfold PanE
                      go_wp2
                      have hres := HRES.out
                      subst hres
                      exact ⟨rfl, KF9, rfl⟩
                    | ok q =>
                      obtain ⟨t9, ts5⟩ := q
                      rw [h9] at hP
                      obtain ⟨A9, m9, C9, rfl, _, R9⟩ := hP
                      have hres := HRES.out
                      simp only [h9] at hres
                      have HRES := Lib.hid hres; clear hres
                      have hp9 := partAt_stab _ _ (w.heap.size :: (w.heap.size + 1) :: S) _ _ _ _ hpa K9 (by simp [hS]) (fun x hx => .inl hx)
                      have hn9 := Sl.move (S' := (w.heap.size :: (w.heap.size + 1) :: S)) hna (by omega) K9 (by simp [hS]) (fun x hx => .inl hx)
                      have z9 := Z9.lt
                      have o9 := O9.lt
                      have cZ := Z9.cell
                      have fZ := Z9.frozen
                      have cO := O9.cell
                      unfold ruleZ at cZ
                      have K10 := (Keep.refl [w.heap.size] w9).set9 (b := w.heap.size) (by simp) (.string t.t) (.int .i64 m) (.int .i64 k) (.string tt) (.slice A' m' C') (.slice B m'' D) (.int .i64 a) (.slice N n8 F) (.int .i64 t.a)
                      have BF := Z9.set9 (.string t.t) (.int .i64 m) (.int .i64 k) (.string tt) (.slice A' m' C') (.slice B m'' D) (.int .i64 a) (.slice N n8 F) (.int .i64 t.a)
                      have hS5 : ∀ x ∈ S, x ∈ (w.heap.size :: (w.heap.size + 1) :: S) ∨ w9.heap.size ≤ x := fun x hx => .inl (by simp [hx])
                      have RF := R9.move (S' := S) K10 (fun x hx => .inl (by simp at hx; subst hx; exact ⟨by simp, by omega⟩)) hS5
                      have hpF := partAt_stab _ _ S _ _ _ _ hp9 K10 (by simp) hS5
                      have hnF := Sl.move (S' := S) hn9 (by omega) K10 (by simp) hS5
                      have KF := KF9.set9 (b := w.heap.size) (.inr (Nat.le_refl _)) (.string t.t) (.int .i64 m) (.int .i64 k) (.string tt) (.slice A' m' C') (.slice B m'' D) (.int .i64 a) (.slice N n8 F) (.int .i64 t.a)
                      have cF := BF.cell
                      unfold set9 at cF
                      have CF := Lib.hid cF; clear cF BF
                      go_wp2
                      have cF := CF.out
                      have hres := HRES.out
                      subst hres
                      exact bodyPost_ret (v := .agg #[.string t.t, .int .i64 m, .int .i64 k, .string tt, .slice A' m' C', .slice B m'' D, .int .i64 a, .slice N n8 F, .int .i64 t.a]) (by simp [results, Tryz.results53, go_sem, cF]) rfl ⟨KF, _, rfl, ⟨k, tt, A', m', C', B, m'', D, a, N, n8, F, rfl, hpF, hnF⟩, RF⟩
    · cases tr with
      | nil => simp [isR] at hi
      | cons t tr =>
        have htk : takeR n 5 ⟨#[]⟩ (t :: tr) = .ok (t, tr) := by simp [takeR, hi]
        have HRX : ∀ W, Keep [] wr W → Rdr (w.heap.size :: (w.heap.size + 1) :: S) W b (t :: tr) n 0 := fun W K => Hr.move K (by simp) (fun x hx => .inl hx)
        have hmem : b ∈ w.heap.size :: (w.heap.size + 1) :: S := by simp [hS]
        have fin : ∀ W, Keep [b] wr W → Rdr (w.heap.size :: (w.heap.size + 1) :: S) W b tr n 0 → MarksAt S b n 0 ts w (W.setCell ⟨w.heap.size + 1, 1, none⟩ (.int .i64 (bits .or .i64 m (bitR t.t)))) ∧
            lenOf (((W.setCell ⟨w.heap.size + 1, 1, none⟩ (.int .i64 (bits .or .i64 m (bitR t.t)))).cell? ⟨b, 0, none⟩).getD undef) < lenOf ((wr.cell? ⟨b, 0, none⟩).getD undef) := fun W K R => by
          have KS : Keep [w.heap.size + 1] W (W.setCell ⟨w.heap.size + 1, 1, none⟩ (.int .i64 (bits .or .i64 m (bitR t.t)))) := (Keep.refl _ _).setCell (by simp) _
          have R2 := R.move (S' := w.heap.size :: (w.heap.size + 1) :: S) KS (fun x hx => .inl (by simp at hx; subst hx; exact ⟨by simp, by omega⟩)) (fun x hx => .inl hx)
          have hg := HG.out
          rw [marksL_go hi] at hg
          refine ⟨⟨orR m (bitR t.t), tr, by simp at htr; omega, R2, (Zr.keep K (by simp; omega)).setOther _ (by simp) _, ?_, (Kr.trans K).setCell (.inr (by simp)) _, hg⟩, ?_⟩
          · simpa [ruleM, orR] using (Or.keep K (by simp; omega)).set 1 (.int .i64 (bits .or .i64 m (bitR t.t)))
          · rw [HM.out, R2.len]; simp
        have FIN := Lib.hid fin; clear fin
        have KA : Keep [b] wr wr.drew := (Keep.refl _ _).drew
        have KB : Keep [] wr wr.drew := (Keep.refl _ _).drew
        have hbw : b < wr.heap.size := Hr.lt
        have hft := tok_text t.k t.a t.t
        go_wp2
        have cOX : ∀ W, Keep [b] wr W → W.cell? ⟨w.heap.size + 1, 1, none⟩ = some (.int .i64 m) := fun W K => (Or.keep K (by simp; omega)).cell 1
        have fOX : ∀ W, Keep [b] wr W → W.frozen? ⟨w.heap.size + 1, 1, none⟩ = false := fun W K => (Or.keep K (by simp; omega)).frozen 1
        go_region_with (first
          | (go_at_call 65; refine (bits_any _).mono ?_; rintro e w1 ⟨rfl, M, K⟩; replace KA := KA.trans (K.mono (by simp)); replace KB := Keep.trans KB K; try (replace R2 := Rdr.move R2 K (by simp) (fun x hx => .inl hx)); have hl := bit_look _ _ t.t _ M; have cc := cOX _ KA; have ff := fOX _ KA)
          | (go_at_call 62; refine (take_any _ b (t :: tr) n 0 5 ⟨#[]⟩ _ (HRX _ KB) hmem).mono ?_; rw [htk]; rintro e w2 ⟨K2, A2, m2, C2, rfl, hR2, R2⟩; replace KA := KA.trans K2; have cc := cOX _ KA; have ff := fOX _ KA; try (have M2 := MapB.keep (show MapB _ wr.heap.size bitE 6 from M) K2 (by simp; omega); have hl2 := bit_look _ wr.heap.size t.t _ M2)))
        all_goals
          go_wp2
          exact FIN.out _ KA R2
end Go.Proofs.YtkminfdblimiiaaGreatDoor
namespace Go.Proofs.YtkminfdblimiiaaGreatDoor
open Go Go.RowKit Go.MapKept

def StrRow (_S : List Nat) (_w : World) (x : ByteArray) (row : Array Value) : Prop := row = #[.string x]
theorem strRow_stab : Stab StrRow := fun _ _ _ _ _ _ _ h _ _ _ => h
def keysL (n : Int) : List ByteArray → List TokS → Except Err (List ByteArray × List TokS)
  | l, [] => .ok (l, [])
  | l, t :: ts => if isR 1 ⟨#[]⟩ (t :: ts) then (if l.length = 8 then .error (7, t.a) else keysL n (l ++ [t.t]) ts) else .ok (l, t :: ts)
/-- The words that are reserved. -/
def keysR (n : Int) (ts : List TokS) : Except Err (List ByteArray × List TokS) :=
  if isR 4 (sg 37) ts then (match takeR n 1 ⟨#[]⟩ ts.tail with
    | .error x => .error x
    | .ok (t, ts1) => match keysL n [t.t] ts1 with
      | .error x => .error x
      | .ok (l, ts2) => match takeR n 4 (sg 59) ts2 with
        | .error x => .error x
        | .ok (_, ts3) => .ok (l, ts3)) else .ok ([], ts)
theorem keysL_len {n : Int} : ∀ (l : List ByteArray) (ts : List TokS) {l1 : List ByteArray} {ts1 : List TokS}, keysL n l ts = .ok (l1, ts1) → ts1.length ≤ ts.length
  | l, [], l1, ts1, h => by
    simp only [keysL, Except.ok.injEq, Prod.mk.injEq] at h
    rw [← h.2]; simp
  | l, t :: ts, l1, ts1, h => by
    unfold keysL at h
    split at h
    · split at h
      · cases h
      · have := keysL_len _ ts h
        simp; omega
    · simp only [Except.ok.injEq, Prod.mk.injEq] at h
      rw [← h.2]; simp
theorem keysR_len {n : Int} {ts : List TokS} {l : List ByteArray} {ts1 : List TokS} (h : keysR n ts = .ok (l, ts1)) : ts1.length ≤ ts.length := by
  unfold keysR at h
  split at h
  · split at h
    · cases h
    · rename_i t1 ts1 e1
      have h1 := takeR_len e1
      split at h
      · cases h
      · rename_i l2 ts2 e2
        have h2 := keysL_len _ _ e2
        split at h
        · cases h
        · rename_i t3 ts3 e3
          have h3 := takeR_len e3
          simp only [Except.ok.injEq, Prod.mk.injEq] at h
          rw [← h.2]
          simp at h1; omega
  · simp only [Except.ok.injEq, Prod.mk.injEq] at h
    rw [← h.2]; exact Nat.le_refl _
def KeysPost (S : List Nat) (b : Nat) (n deep : Int) (w : World) (r : Except Err (List ByteArray × List TokS)) (e : Ending) (w' : World) : Prop :=
  Keep [b] w w' ∧ match r with
    | .ok (l, ts) => ∃ A C, e = .returned (.slice A l.length C) ∧ SlOf StrRow S w' 1 (.slice A l.length C) l ∧ Rdr S w' b ts n deep
    | .error x => e = PanE x
theorem info_str : (Tryz.prog.info? 9).map (fun i => (i.zero, i.size, i.bytes)) = some (some (.string { data := #[] }), 1, 16) := by kernel_rfl
theorem keysL_end {n : Int} {l : List ByteArray} {ts : List TokS} (h : isR 1 ⟨#[]⟩ ts = false) : keysL n l ts = .ok (l, ts) := by
  cases ts with
  | nil => rfl
  | cons t ts => rw [keysL, if_neg (by simp [h])]
theorem keysL_go {n : Int} {l : List ByteArray} {t : TokS} {ts : List TokS} (h : isR 1 ⟨#[]⟩ (t :: ts) = true) : keysL n l (t :: ts) = if l.length = 8 then .error (7, t.a) else keysL n (l ++ [t.t]) ts := by rw [keysL, if_pos h]
/-- What the walk of keys knows at the head of a round. -/
def KeysAt (S : List Nat) (b : Nat) (n deep : Int) (ts : List TokS) (w : World) (goal : Except Err (List ByteArray × List TokS)) (v : Value) (wr : World) : Prop :=
  ∃ (l : List ByteArray) (tr : List TokS), l.length ≤ 8 ∧ Rdr (ownB v ++ S) wr b tr n deep ∧ OwnL StrRow S wr w.heap.size 9 1 v l ∧ Keep [b] w wr ∧ keysL n l tr = goal

set_option maxRecDepth 20000 in
set_option maxHeartbeats 4000000 in
theorem keys_any (S : List Nat) (b : Nat) (ts : List TokS) (n deep : Int) (w : World) (H : Rdr S w b ts n deep) (hS : b ∈ S) (hSl : ∀ x ∈ S, x < w.heap.size) :
    Calls Tryz.prog 52 #[.pointer (some ⟨b, 0, none⟩)] w (KeysPost S b n deep w (keysR n ts)) := by
  have hblt := H.lt
  generalize hres : keysR n ts = res
  have HRES := Lib.hid hres; clear hres
  go_enter Tryz.func52, Tryz.ntmps52
  go_wp2_with fail
  refine (sign2_any S b ts n deep (sg 37) w H hS).mono ?_
  rintro e w1 ⟨rfl, R1, K1⟩
  have hs1 := K1.size
  cases hi : isR 4 (sg 37) ts
  · rw [hi] at R1
    simp only [Bool.false_eq_true, if_false] at R1
    have hres := HRES.out
    simp only [keysR, hi, Bool.false_eq_true, if_false] at hres
    subst hres
    go_wp2
    go_ret
    exact ⟨K1, none, 0, rfl, SlOf.nil _ _ _, R1⟩
  · rw [hi] at R1
    simp only [if_true] at R1
    have hres := HRES.out
    simp only [keysR, hi, if_true] at hres
    have HRES := Lib.hid hres; clear hres
    go_wp2_with fail
    refine (take_any S b ts.tail n deep 1 ⟨#[]⟩ w1 R1 hS).mono ?_
    rintro e w2 ⟨K2, hP⟩
    have KF2 := K1.trans K2
    have hs2 := KF2.size
    cases h2 : takeR n 1 ⟨#[]⟩ ts.tail with
    | error x =>
      rw [h2] at hP
      simp only at hP
      subst hP
      have hres := HRES.out
      simp only [h2] at hres
      have HRES := Lib.hid hres; clear hres
      unfold PanE
      go_wp2
      have hres := HRES.out
      subst hres
      exact ⟨rfl, KF2, rfl⟩
    | ok q =>
      obtain ⟨t, ts1⟩ := q
      rw [h2] at hP
      obtain ⟨A2, m2, C2, rfl, _, R2⟩ := hP
      have hres := HRES.out
      simp only [h2] at hres
      have HRES := Lib.hid hres; clear hres
      have hft := tok_text t.k t.a t.t A2 m2 C2
      obtain ⟨i0, hi0, hz0, hz1, hz2⟩ := info_parts info_str
      have hown := World.ownsRow_nil w2 w.heap.size 9 1
      go_wp2_with (at_builtin; go_loud (refine wpList_append_lies _ rfl _ _ 23 rfl w.heap.size 9 i0 (.string { data := #[] }) 1 16 Tryz.underlying23 hi0 hz0 hz1 hz2 rfl (by decide) _ 0 _ rfl (hown.alloc _) ⟨w2.heap.size, 0, none⟩ 1 1 [.string t.t] rfl rfl (World.news_of_block (Blk.new' _ _ _ (by simp))) (by simp [Value.oneCell']) (by decide) (by unfold maxLen; omega) (by omega) (by simp; omega) _ rfl ?_); intro g cap w3 O3 G3 W3 L3)
      have K23 : Keep [] w2 (w2.alloc (.cells #[.string t.t] 9)) := (Keep.refl _ _).alloc _
      have hap := OwnL.append (R := StrRow) (S := S) (xs := []) (x := t.t) (row := #[.string t.t]) (v := .slice none 0 0) [] rfl (fun i hi hi' => by simp at hi) strRow_stab rfl rfl O3 G3 W3
      have R3 := (R2.move (S' := ownB (.slice none 0 0) ++ S) K23 (by simp) (fun x hx => .inl (by simpa [ownB, Value.ownBlock] using hx))).grown (k := 1) (cap := cap) G3 W3 (by simp [ownB, Value.ownBlock])
      have KF3 := (KF2.trans (K23.mono (by simp))).grown G3 (fun x hx => by have hx : (none : Option Nat) = some x := hx; cases hx)
      have hst : KeysAt S b n deep ts w (keysL n [t.t] ts1) (.slice (some ⟨g, 0, none⟩) (0 + 1) cap) w3 := ⟨[t.t], ts1, by simp, R3, hap, KF3, rfl⟩
      have HST := Lib.hid hst; clear hst
      clear O3 G3 W3 L3 hap R3 KF3 hown R2 R1 K1 K2 KF2 hi0 hz0 hz1 hz2
      go_wp2
      go_loopw [3] (fun v wr => KeysAt S b n deep ts w (keysL n [t.t] ts1) v wr) (fun _ wr => lenOf ((wr.cell? ⟨b, 0, none⟩).getD undef))
      case atStart => exact HST.out
      case round =>
        clear HST hft
        obtain ⟨l, tr, hl, Hr, Hown, Kr, hg⟩ := hrel
        have HG := Lib.hid hg; clear hg
        have HM := Lib.hid Hr.len
        obtain ⟨A, C, rfl⟩ := Hown.slice
        have hbo : b ∉ ownB (.slice A l.length C) := fun h => by have := (Hown.base b h).1; omega
        have hsr := Kr.size
        go_wp2_with fail
        refine (ris_any _ b tr n deep 1 ⟨#[]⟩ wr Hr).mono ?_
        rintro e w5 ⟨rfl, rfl⟩
        cases hi2 : isR 1 ⟨#[]⟩ tr
        · have hres := HRES.out
          rw [← HG.out, keysL_end hi2] at hres
          simp only at hres
          have HRES := Lib.hid hres; clear hres
          have hSs : ∀ x ∈ ownB (.slice A l.length C), x ∉ S := fun x hx hx' => by
            have h1 := (Hown.base x hx).1
            have := hSl x hx'; omega
          have HL := Hown.read (S' := S) strRow_stab (fun x hx => .inl hx) hSs
          have R5 := Hr.move (S' := S) (Keep.refl [] _) (by simp) (fun x hx => .inl (by simp [hx]))
          go_wp2_with fail
          refine (take_any S b tr n deep 4 (sg 59) wr R5 hS).mono ?_
          rintro e w6 ⟨K6, hP⟩
          have KF6 := Kr.trans K6
          cases h6 : takeR n 4 (sg 59) tr with
          | error x =>
            rw [h6] at hP
            simp only at hP
            subst hP
            have hres := HRES.out
            simp only [h6] at hres
            have HRES := Lib.hid hres; clear hres
            unfold PanE
            go_wp2
            have hres := HRES.out
            subst hres
            exact ⟨rfl, KF6, rfl⟩
          | ok q =>
            obtain ⟨t6, ts6⟩ := q
            rw [h6] at hP
            obtain ⟨A6, m6, C6, rfl, _, R6⟩ := hP
            have hres := HRES.out
            simp only [h6] at hres
            have HRES := Lib.hid hres; clear hres
            have HL6 := HL.move (S' := S) strRow_stab (by omega) K6 (by simp [hS]) (fun x hx => .inl hx)
            go_wp2
            go_ret
            have hres := HRES.out
            subst hres
            exact ⟨KF6, A, C, rfl, HL6, R6⟩
        · cases tr with
          | nil => simp [isR] at hi2
          | cons t5 tr =>
            have hg := HG.out
            rw [keysL_go hi2] at hg
            have HG := Lib.hid hg; clear hg
            by_cases h8 : l.length = 8
            · have hb8 : ((l.length : Int) == 8) = true := by simp; omega
              have hres := HRES.out
              have hg := HG.out
              rw [if_pos h8] at hg
              rw [← hg] at hres
              simp only at hres
              have HRES := Lib.hid hres; clear hres hg h8
              go_wp2_with fail
              refine (fail_any _ b (t5 :: tr) n deep 7 wr Hr).mono ?_
              rintro e w6 ⟨rfl, K6⟩
              unfold PanE
              go_wp2
              have hres := HRES.out
              subst hres
              exact ⟨rfl, Kr.trans (K6.mono (by simp)), rfl⟩
            · have hb8 : ((l.length : Int) == 8) = false := by simp; omega
              have hg := HG.out
              rw [if_neg h8] at hg
              have HG := Lib.hid hg; clear hg
              have htk : takeR n 1 ⟨#[]⟩ (t5 :: tr) = .ok (t5, tr) := by simp [takeR, hi2]
              go_wp2_with fail
              refine (take_any _ b (t5 :: tr) n deep 1 ⟨#[]⟩ wr Hr (by simp [hS])).mono ?_
              rw [htk]
              rintro e w6 ⟨K6, A6, m6, C6, rfl, _, R6⟩
              have KF6 := Kr.trans K6
              have HO6 := Hown.move strRow_stab (S' := S) K6 (fun x hx => by simp at hx; subst hx; exact .inl ⟨hS, hbo⟩) (fun x hx => .inl hx)
              have HB := Lib.hid HO6.base
              have hft := tok_text t5.k t5.a t5.t A6 m6 C6
              obtain ⟨i0, hi0, hz0, hz1, hz2⟩ := info_parts info_str
              obtain ⟨rows, hlr, hown, hel⟩ := HO6
              have HEL := Lib.hid hel; clear hel Hown Hr Kr
              go_wp2_with (at_builtin; go_loud (refine wpList_append_lies _ rfl _ _ 23 rfl w.heap.size 9 i0 (.string { data := #[] }) 1 16 Tryz.underlying23 hi0 hz0 hz1 hz2 rfl (by decide) _ l.length _ rfl (hown.alloc _) ⟨w6.heap.size, 0, none⟩ 1 1 [.string t5.t] rfl rfl (World.news_of_block (Blk.new' _ _ _ (by simp))) (by simp [Value.oneCell']) (by decide) (by unfold maxLen; omega) (by omega) (by have := KF6.size; simp; omega) _ rfl ?_); intro g5 cap5 w7 O7 G7 W7 L7)
              have K67 : Keep [] w6 (w6.alloc (.cells #[.string t5.t] 9)) := (Keep.refl _ _).alloc _
              have hap := OwnL.append (R := StrRow) (S := S) (w := w6.alloc (.cells #[.string t5.t] 9)) (x := t5.t) (row := #[.string t5.t]) rows hlr (fun i hi hi' => ⟨(HEL.out i hi hi').1, (HEL.out i hi hi').2⟩) strRow_stab rfl rfl O7 G7 W7
              have R7 := (R6.move (S' := ownB (.slice A l.length C) ++ S) K67 (by simp) (fun x hx => .inl hx)).grown (k := l.length + 1) (cap := cap5) G7 W7 hbo
              have KF7 := (KF6.trans (K67.mono (by simp))).grown G7 (fun x hx => .inr (by have := (HB.out x (mem_own hx)).1; omega))
              refine ⟨⟨l ++ [t5.t], tr, by simp; omega, R7, hap, KF7, HG.out⟩, ?_⟩
              rw [HM.out, R7.len]
              simp
end Go.Proofs.YtkminfdblimiiaaGreatDoor
namespace Go.Proofs.YtkminfdblimiiaaGreatDoor
open Go Go.RowKit

def strRow1 (s : ByteArray) : Array Value := #[.string s]
def Strs1 (S : List Nat) (w : World) (v : Value) (l : List ByteArray) : Prop := Sl S w 1 v (l.map strRow1)
theorem strs_back {S : List Nat} {w : World} {v : Value} {l : List ByteArray} (h : SlOf StrRow S w 1 v l) : Strs1 S w v l := by
  obtain ⟨rows, h1, h2, h3⟩ := h
  have e : rows = l.map strRow1 := by
    refine List.ext_getElem (by simp [h2]) (fun i hi hi' => ?_)
    have := h3 i (by omega) hi
    rw [List.getElem_map]
    exact this
  rw [e] at h1
  exact h1
set_option maxRecDepth 20000 in
set_option maxHeartbeats 2000000 in
theorem strClone_any (S : List Nat) (v : Value) (l : List ByteArray) (w : World) (H : Strs1 S w v l) (hN : l.length ≤ 1000000) :
    Calls Tryz.prog 56 #[v] w fun e w' => (∃ A C, e = .returned (.slice A l.length C) ∧ ∀ S', (∀ b ∈ S', b < w.heap.size) → Strs1 S' w' (.slice A l.length C) l) ∧ Keep [] w w' := by
  have HH := H
  obtain ⟨A, C, rfl, hm, hr⟩ := HH
  have qT : ∀ (w : World) (a : Option Addr) (n c n' c' : Nat), (binOp .eql 23 (.slice a n c) (.slice none n' c')).run Tryz.prog w = .ok (.bool a.isNone) w := fun w a n c n' c' => Lib.run_eql_slice_nil w _ _ a n c n' c' Tryz.underlying23
  simp only [List.length_map] at H hm hr ⊢
  cases l with
  | nil =>
    cases A with
    | none =>
      go_enter Tryz.func56, Tryz.ntmps56
      go_wp2
      go_ret
      exact ⟨⟨none, 0, rfl, fun S' _ => Sl.nil _ _ _⟩, Keep.refl _ _⟩
    | some ad =>
      go_enter Tryz.func56, Tryz.ntmps56
      go_wp2
      go_ret
      exact ⟨⟨some ⟨w.heap.size, 0, none⟩, 0, rfl, fun S' _ => ⟨_, 0, rfl, by simp, fun h => absurd h (by simp)⟩⟩, (Keep.refl _ _).alloc _⟩
  | cons r l =>
    obtain ⟨b, o, rfl, hb, hc⟩ := hr (by simp)
    have hnews := Sl.news (by omega) (by have h := H; unfold Strs1 at h; simpa using h : Sl S w 1 (.slice (some ⟨b, o, none⟩) ((r :: l).map strRow1).length C) ((r :: l).map strRow1))
    obtain ⟨i0, hi0, hz0, hz1, hz2⟩ := info_parts info_str
    have HN := Lib.hid hnews; clear hnews hc hr
    go_enter Tryz.func56, Tryz.ntmps56
    have hown : (w.alloc (.cells #[] 9)).ownsRow w.heap.size 9 1 (.slice (some ⟨w.heap.size, 0, none⟩) 0 0) 0 [] := ⟨rfl, .inr ⟨w.heap.size, 0, #[], rfl, Nat.le_refl _, Blk.new w #[] 9, by omega, by decide, rfl, rfl⟩⟩
    have hnl : (((r :: l).map strRow1).flatMap Array.toList).length = (l.length + 1) * 1 := by rw [flat_len 1 _ (fun i hi => by rw [List.getElem_map]; rfl)]; simp
    have hone : ∀ u ∈ ((r :: l).map strRow1).flatMap Array.toList, u.oneCell' = true := fun u hu => by
      obtain ⟨x, hx, hu⟩ := List.mem_flatMap.1 hu
      obtain ⟨y, _, rfl⟩ := List.mem_map.1 hx
      simp [strRow1] at hu
      subst hu; rfl
    have K0 := (Keep.refl [] w).alloc (.cells #[] 9)
    have HN2 : Hid (∀ j u, (((r :: l).map strRow1).flatMap Array.toList)[j]? = some u → (w.alloc (.cells #[] 9)).cell? ((⟨b, o, none⟩ : Addr).add j) = some u) := Lib.hid (fun j u h => K0.cell (HN.out j u h) (by simp))
    have HONE := Lib.hid hone; clear hone
    have HNL := Lib.hid hnl; clear hnl
    rw [List.length_cons] at hN
    go_wp2_with (at_builtin; go_loud (refine wpList_append_lies _ rfl _ _ 23 rfl w.heap.size 9 i0 (.string { data := #[] }) 1 16 Tryz.underlying23 hi0 hz0 hz1 hz2 rfl (by decide) _ 0 _ rfl hown ⟨b, o, none⟩ (l.length + 1) C (((r :: l).map strRow1).flatMap Array.toList) rfl HNL.out HN2.out HONE.out (by omega) (by unfold maxLen; omega) (by omega) (by simp) _ rfl ?_); intro g cap w5 O5 G5 W5 L5)
    have hOL : ∀ S', OwnL StrRow S' w5 w.heap.size 9 1 (.slice (some ⟨g, 0, none⟩) (0 + (l.length + 1)) cap) (r :: l) := fun S' => by
      refine ⟨(r :: l).map strRow1, by simp, ?_, fun i hi hi' => ⟨by rw [List.getElem_map]; rfl, by rw [List.getElem_map]; rfl⟩⟩
      simpa using O5
    have hv : (Value.slice (some ⟨g, 0, none⟩) (0 + (l.length + 1)) cap) = .slice (some ⟨g, 0, none⟩) (l.length + 1) cap := by rw [Nat.zero_add]
    rw [hv] at hOL
    have KF := K0.grown G5 (fun x hx => .inr (by have hx : some w.heap.size = some x := hx; simp at hx; omega))
    have HOL := Lib.hid hOL
    clear O5 G5 W5 L5 hOL hown
    go_wp2
    go_ret
    refine ⟨⟨some ⟨g, 0, none⟩, cap, rfl, fun S' hS' => ?_⟩, KF⟩
    exact strs_back ((HOL.out S').read strRow_stab (fun x hx => .inl hx) (fun x hx hx' => by have h1 := ((HOL.out S').base x hx).1; have := hS' x hx'; omega))
end Go.Proofs.YtkminfdblimiiaaGreatDoor
namespace Go.Proofs.YtkminfdblimiiaaGreatDoor
open Go Go.RowKit

theorem info_sym : (Tryz.prog.info? 45).map (fun i => (i.zero, i.size, i.bytes)) = some (some (.agg #[.int .i64 0, .slice none 0 0, .int .i64 0]), 3, 40) := by kernel_rfl
set_option maxRecDepth 20000 in
set_option maxHeartbeats 2000000 in
theorem symClone_any (S : List Nat) (v : Value) (l : List SymS) (w : World) (H : Syms S w v l) (hN : l.length ≤ 1000000) (hS : ∀ b ∈ S, b < w.heap.size) :
    Calls Tryz.prog 83 #[v] w fun e w' => (∃ v', e = .returned v' ∧ OwnL SymRow S w' w.heap.size 45 3 v' l) ∧ Keep [] w w' := by
  obtain ⟨rows, h1, h2, h3⟩ := H
  have H1 := h1
  obtain ⟨A, C, rfl, hm, hr⟩ := h1
  have qT : ∀ (w : World) (a : Option Addr) (n c n' c' : Nat), (binOp .eql 43 (.slice a n c) (.slice none n' c')).run Tryz.prog w = .ok (.bool a.isNone) w := fun w a n c n' c' => Lib.run_eql_slice_nil w _ _ a n c n' c' Tryz.underlying43
  cases rows with
  | nil =>
    have : l = [] := List.eq_nil_of_length_eq_zero (by simpa using h2.symm)
    subst this
    cases A with
    | none =>
      go_enter Tryz.func83, Tryz.ntmps83
      go_wp2
      go_ret
      exact ⟨⟨_, rfl, OwnL.nil _ _ _ _ _⟩, Keep.refl _ _⟩
    | some ad =>
      have hO : OwnL SymRow S (w.alloc (.cells #[] 45)) w.heap.size 45 3 (.slice (some ⟨w.heap.size, 0, none⟩) 0 0) [] :=
        ⟨[], rfl, ⟨rfl, .inr ⟨w.heap.size, 0, #[], rfl, Nat.le_refl _, Blk.new w #[] 45, by simp, by decide, rfl, rfl⟩⟩, fun i hi => absurd hi (by simp)⟩
      have HO := Lib.hid hO; clear hO
      go_enter Tryz.func83, Tryz.ntmps83
      go_wp2
      go_ret
      exact ⟨⟨_, rfl, HO.out⟩, (Keep.refl _ _).alloc _⟩
  | cons r rows =>
    obtain ⟨b, o, rfl, hb, hc⟩ := hr (by simp)
    have hnews := Sl.news (by omega) H1
    have hrs : ∀ i (h : i < (r :: rows).length), (r :: rows)[i].size = 3 := fun i hi => (hc i hi).1
    obtain ⟨i0, hi0, hz0, hz1, hz2⟩ := info_parts info_sym
    have HN := Lib.hid hnews; clear hnews hc hr
    rw [← h2] at hN
    have hone : ∀ u ∈ (r :: rows).flatMap Array.toList, u.oneCell' = true := fun u hu => by
      obtain ⟨x, hx, hu⟩ := List.mem_flatMap.1 hu
      obtain ⟨i, hi, rfl⟩ := List.getElem_of_mem hx
      obtain ⟨A3, C3, hrow, _⟩ := h3 i (by omega) hi
      rw [hrow] at hu
      simp at hu
      rcases hu with rfl | rfl | rfl <;> rfl
    have hnl : ((r :: rows).flatMap Array.toList).length = (rows.length + 1) * 3 := by rw [flat_len 3 _ hrs]; simp
    have hown : (w.alloc (.cells #[] 45)).ownsRow w.heap.size 45 3 (.slice (some ⟨w.heap.size, 0, none⟩) 0 0) 0 [] := ⟨rfl, .inr ⟨w.heap.size, 0, #[], rfl, Nat.le_refl _, Blk.new w #[] 45, by omega, by decide, rfl, rfl⟩⟩
    have K0 := (Keep.refl [] w).alloc (.cells #[] 45)
    have HN2 : Hid (∀ j u, ((r :: rows).flatMap Array.toList)[j]? = some u → (w.alloc (.cells #[] 45)).cell? ((⟨b, o, none⟩ : Addr).add j) = some u) := Lib.hid (fun j u h => K0.cell (HN.out j u h) (by simp))
    have HONE := Lib.hid hone; clear hone
    have HNL := Lib.hid hnl; clear hnl
    have H3 := Lib.hid h3; clear h3
    have HRS := Lib.hid hrs; clear hrs
    have H2 := Lib.hid h2; clear h2
    rw [List.length_cons] at hN
    go_enter Tryz.func83, Tryz.ntmps83
    go_wp2_with (at_builtin; go_loud (refine wpList_append_lies _ rfl _ _ 43 rfl w.heap.size 45 i0 (.agg #[.int .i64 0, .slice none 0 0, .int .i64 0]) 3 40 Tryz.underlying43 hi0 hz0 hz1 hz2 rfl (by decide) _ 0 _ rfl hown ⟨b, o, none⟩ (rows.length + 1) C ((r :: rows).flatMap Array.toList) rfl HNL.out HN2.out HONE.out (by omega) (by unfold maxLen; omega) (by omega) (by simp) _ rfl ?_); intro g cap w5 O5 G5 W5 L5)
    have KF := K0.grown G5 (fun x hx => .inr (by have hx : some w.heap.size = some x := hx; simp at hx; omega))
    have hg : w.heap.size ≤ g := by
      have W5' : some w.heap.size = some g ∨ g = _ := W5
      rcases W5' with h | h
      · simp at h; omega
      · rw [h]; simp
    have hOL : OwnL SymRow S w5 w.heap.size 45 3 (.slice (some ⟨g, 0, none⟩) (0 + (rows.length + 1)) cap) l := by
      refine ⟨r :: rows, H2.out, ?_, fun i hi hi' => ⟨HRS.out i hi', symRow_stab _ _ _ _ _ _ _ (H3.out i hi hi') KF (by simp) (fun x hx => ?_)⟩⟩
      · have e : l.length = 0 + (rows.length + 1) := by rw [← H2.out]; simp
        rw [e]
        simpa using O5
      · rcases List.mem_append.1 hx with h | h
        · have : x = g := by simpa [ownB, Value.ownBlock, eq_comm] using h
          exact .inr (by omega)
        · exact .inl h
    rw [Nat.zero_add] at hOL
    have HOL := Lib.hid hOL
    clear O5 G5 W5 L5 hOL hown
    go_wp2
    go_ret
    exact ⟨⟨_, rfl, HOL.out⟩, KF⟩
end Go.Proofs.YtkminfdblimiiaaGreatDoor
namespace Go.Proofs.YtkminfdblimiiaaGreatDoor
open Go Go.RowKit Go.MapKept

/-- The map of names: each rule's place. -/
def nameE (names : List ByteArray) : Array MapEntry := (names.mapIdx fun i x => (⟨.string x, .int .i64 i, i⟩ : MapEntry)).toArray
/-- The maker at block m with map mb and slice pv; v is a slice of symbols in the making. -/
structure MkAt (S : List Nat) (w : World) (base m mb : Nat) (names : List ByteArray) (pv v : Value) (st : MkS) (l : List SymS) : Prop where
  box : MkB (ownB pv ++ ownB v ++ S) w m mb pv st.bad
  prods : OwnL ProdRow (ownB v ++ S) w base 29 3 pv st.p
  syms : OwnL SymRow (ownB pv ++ S) w base 45 3 v l
  map : MapB w mb (nameE names) names.length
  inS : m ∈ S
  mlow : m < base
  low : ∀ x ∈ S, x < w.heap.size
  base : base ≤ w.heap.size

theorem OwnL.type {α : Type} {R : List Nat → World → α → Array Value → Prop} {S : List Nat} {w : World} {base : Nat} {E : TypeId} {k : Nat} {v : Value} {xs : List α} (h : OwnL R S w base E k v xs) : ∀ b ∈ ownB v, ∃ cs, w.heap[b]? = some (.cells cs E (0, 0)) := by
  obtain ⟨rows, _, h1, _⟩ := h
  intro b hb
  rcases h1.2 with ⟨rfl, _⟩ | ⟨g, cap, cur, rfl, _, hg, _⟩
  · simp [ownB, Value.ownBlock] at hb
  · have e : b = g := by simpa [ownB, Value.ownBlock, eq_comm] using hb
    subst e
    exact ⟨cur, hg⟩
theorem OwnL.apart {α β : Type} {R : List Nat → World → α → Array Value → Prop} {Q : List Nat → World → β → Array Value → Prop} {S S' : List Nat} {w : World} {base base' : Nat} {E F : TypeId} {k k' : Nat} {v u : Value} {xs : List α} {ys : List β}
    (h : OwnL R S w base E k v xs) (h' : OwnL Q S' w base' F k' u ys) (hEF : E ≠ F) : ∀ b ∈ ownB v, b ∉ ownB u := by
  intro b hb hb'
  obtain ⟨cs, e1⟩ := h.type b hb
  obtain ⟨ds, e2⟩ := h'.type b hb'
  rw [e1] at e2
  simp only [Option.some.injEq, Obj.cells.injEq] at e2
  exact hEF e2.2.1
theorem MkAt.notOwn {S : List Nat} {w : World} {base m mb : Nat} {names : List ByteArray} {pv v : Value} {st : MkS} {l : List SymS} (h : MkAt S w base m mb names pv v st l) : m ∉ ownB pv ∧ m ∉ ownB v := by
  have h1 := h.mlow
  refine ⟨fun hm => ?_, fun hm => ?_⟩
  · have := (h.prods.base m hm).1; omega
  · have := (h.syms.base m hm).1; omega
/-- Where nothing of it turns. -/
theorem MkAt.keep {S : List Nat} {w w' : World} {base m mb : Nat} {names : List ByteArray} {pv v : Value} {st : MkS} {l : List SymS} (h : MkAt S w base m mb names pv v st l) (K : Keep [] w w') : MkAt S w' base m mb names pv v st l :=
  ⟨h.box.move K (by simp) (fun x hx => .inl hx), h.prods.move prodRow_stab K (by simp) (fun x hx => .inl hx), h.syms.move symRow_stab K (by simp) (fun x hx => .inl hx), h.map.keep K (by simp), h.inS, h.mlow, fun x hx => Nat.lt_of_lt_of_le (h.low x hx) K.size, Nat.le_trans h.base K.size⟩
/-- Where T turns, nothing of it among T, and it lies beside S' then. -/
theorem MkAt.move {S T S' : List Nat} {w w' : World} {base m mb : Nat} {names : List ByteArray} {pv v : Value} {st : MkS} {l : List SymS} (h : MkAt S w base m mb names pv v st l) (K : Keep T w w')
    (hT : ∀ b ∈ T, (b ∈ S ∧ b ≠ m ∧ b ≠ mb ∧ b ∉ ownB pv ∧ b ∉ ownB v) ∨ w.heap.size ≤ b) (hS : ∀ b ∈ S', b ∈ S ∨ (w.heap.size ≤ b ∧ b < w'.heap.size)) (hm : m ∈ S') : MkAt S' w' base m mb names pv v st l := by
  have hml := h.map.lt
  refine ⟨h.box.move K (fun x hx => ?_) (fun x hx => ?_), h.prods.move prodRow_stab K (fun x hx => ?_) (fun x hx => ?_), h.syms.move symRow_stab K (fun x hx => ?_) (fun x hx => ?_), h.map.keep K (fun hx => ?_), hm, h.mlow, fun x hx => ?_, Nat.le_trans h.base K.size⟩
  · rcases hT x hx with ⟨h1, h2, _⟩ | h1
    · exact .inl ⟨by simp [h1], h2⟩
    · exact .inr h1
  · rcases List.mem_append.1 hx with h1 | h1
    · exact .inl (List.mem_append.2 (.inl h1))
    · rcases hS x h1 with h2 | h2
      · exact .inl (by simp [h2])
      · exact .inr h2.1
  · rcases hT x hx with ⟨h1, _, _, h2, _⟩ | h1
    · exact .inl ⟨by simp [h1], h2⟩
    · exact .inr h1
  · rcases List.mem_append.1 hx with h1 | h1
    · exact .inl (List.mem_append.2 (.inl h1))
    · rcases hS x h1 with h2 | h2
      · exact .inl (by simp [h2])
      · exact .inr h2.1
  · rcases hT x hx with ⟨h1, _, _, _, h2⟩ | h1
    · exact .inl ⟨by simp [h1], h2⟩
    · exact .inr h1
  · rcases List.mem_append.1 hx with h1 | h1
    · exact .inl (List.mem_append.2 (.inl h1))
    · rcases hS x h1 with h2 | h2
      · exact .inl (by simp [h2])
      · exact .inr h2.1
  · rcases hT mb hx with ⟨_, _, h1, _⟩ | h1
    · exact h1 rfl
    · omega
  · rcases hS x hx with h1 | h1
    · exact Nat.lt_of_lt_of_le (h.low x h1) K.size
    · exact h1.2
/-- Behind an append of a symbol. -/
theorem MkAt.push {S : List Nat} {w w5 : World} {base m mb g cap : Nat} {names : List ByteArray} {pv v : Value} {st : MkS} {l : List SymS} {x : SymS} {row : Array Value} (h : MkAt S w base m mb names pv v st l) (rows : List (Array Value)) (hlr : rows.length = l.length)
    (hel : ∀ i (hi : i < l.length) (hi' : i < rows.length), rows[i].size = 3 ∧ SymRow (ownB v ++ (ownB pv ++ S)) w l[i] rows[i]) (hx : SymRow (ownB v ++ (ownB pv ++ S)) w x row) (hr : row.size = 3)
    (O : w5.ownsRow base 45 3 (.slice (some ⟨g, 0, none⟩) (l.length + 1) cap) (l.length + 1) (rows.flatMap Array.toList ++ row.toList)) (G : w.grownBy w5 v.ownBlock) (W : v.ownBlock = some g ∨ g = w.heap.size) :
    MkAt S w5 base m mb names pv (.slice (some ⟨g, 0, none⟩) (l.length + 1) cap) st (l ++ [x]) := by
  have KG := Keep.ofGrown (v := v) G
  have hno := h.notOwn
  have hap := h.syms.apart h.prods (by decide)
  refine ⟨h.box.move KG (fun y hy => .inl ⟨by simp [hy], fun e => hno.2 (e ▸ hy)⟩) (fun y hy => ?_), h.prods.move prodRow_stab KG (fun y hy => .inl ⟨by simp [hy], hap y hy⟩) (own_new W), OwnL.append rows hlr hel symRow_stab hx hr O G W, h.map.keep KG (fun hm => ?_), h.inS, h.mlow, fun x hx => Nat.lt_of_lt_of_le (h.low x hx) KG.size, Nat.le_trans h.base KG.size⟩
  · rcases List.mem_append.1 hy with hy | hy
    · rcases List.mem_append.1 hy with hy | hy
      · exact .inl (by simp [hy])
      · rcases own_new (S := []) W y (List.mem_append.2 (.inl hy)) with h1 | h1
        · exact .inl (by rcases List.mem_append.1 h1 with h2 | h2; exact List.mem_append.2 (.inl (List.mem_append.2 (.inr h2))); simp at h2)
        · exact .inr h1
    · exact .inl (by simp [hy])
  · obtain ⟨cs, e⟩ := h.syms.type mb hm
    have e2 : w.heap[mb]? = some (.map (nameE names) names.length) := h.map
    rw [e] at e2
    cases e2
end Go.Proofs.YtkminfdblimiiaaGreatDoor
