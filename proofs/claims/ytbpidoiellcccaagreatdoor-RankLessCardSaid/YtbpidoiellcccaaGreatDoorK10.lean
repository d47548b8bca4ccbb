/- The reader: a rule. -/
import Derived.Test.YtbpidoiellcccaaGreatDoorK9
import Derived.Defers
import Derived.Recover
set_option linter.unusedVariables false
set_option linter.unusedSimpArgs false
namespace Go.Proofs.YtbpidoiellcccaaGreatDoor
open Go Go.RowKit Go.MapKept

def ruleZ : Array Value := #[.string { data := #[] }, .int .i64 0, .int .i64 0, .string { data := #[] }, .slice none 0 0, .slice none 0 0, .int .i64 0, .slice none 0 0, .int .i64 0]
def ruleM (m : Int) : Array Value := #[.string { data := #[] }, .int .i64 m, .int .i64 0, .string { data := #[] }, .slice none 0 0, .slice none 0 0, .int .i64 0, .slice none 0 0, .int .i64 0]
def setE (w : World) (b : Nat) (x0 x1 x2 x3 x4 : Value) : World := ((((w.setCell ⟨b, 2, none⟩ x0).setCell ⟨b, 3, none⟩ x1).setCell ⟨b, 4, none⟩ x2).setCell ⟨b, 5, none⟩ x3).setCell ⟨b, 6, none⟩ x4
theorem Keep.setE {S : List Nat} {a w : World} (h : Keep S a w) {b : Nat} (hp : b ∈ S ∨ a.heap.size ≤ b) (x0 x1 x2 x3 x4 : Value) : Keep S a (Proofs.YtbpidoiellcccaaGreatDoor.setE w b x0 x1 x2 x3 x4) :=
  ((((h.setCell (p := ⟨b, 2, none⟩) hp _).setCell (p := ⟨b, 3, none⟩) hp _).setCell (p := ⟨b, 4, none⟩) hp _).setCell (p := ⟨b, 5, none⟩) hp _).setCell (p := ⟨b, 6, none⟩) hp _
theorem Blk.setE {w : World} {b : Nat} {y0 y1 y2 y3 y4 y5 y6 y7 y8 : Value} {T : TypeId} (h : Blk w b #[y0, y1, y2, y3, y4, y5, y6, y7, y8] T) (x0 x1 x2 x3 x4 : Value) : Blk (Proofs.YtbpidoiellcccaaGreatDoor.setE w b x0 x1 x2 x3 x4) b #[y0, y1, x0, x1, x2, x3, x4, y7, y8] T := by
  simpa [Proofs.YtbpidoiellcccaaGreatDoor.setE] using ((((h.set 2 x0).set 3 x1).set 4 x2).set 5 x3).set 6 x4
def set9 (w : World) (b : Nat) (x0 x1 x2 x3 x4 x5 x6 x7 x8 : Value) : World := ((((((((w.setCell ⟨b, 0, none⟩ x0).setCell ⟨b, 1, none⟩ x1).setCell ⟨b, 2, none⟩ x2).setCell ⟨b, 3, none⟩ x3).setCell ⟨b, 4, none⟩ x4).setCell ⟨b, 5, none⟩ x5).setCell ⟨b, 6, none⟩ x6).setCell ⟨b, 7, none⟩ x7).setCell ⟨b, 8, none⟩ x8
theorem Keep.set9 {S : List Nat} {a w : World} (h : Keep S a w) {b : Nat} (hp : b ∈ S ∨ a.heap.size ≤ b) (x0 x1 x2 x3 x4 x5 x6 x7 x8 : Value) : Keep S a (Proofs.YtbpidoiellcccaaGreatDoor.set9 w b x0 x1 x2 x3 x4 x5 x6 x7 x8) :=
  ((((((((h.setCell (p := ⟨b, 0, none⟩) hp _).setCell (p := ⟨b, 1, none⟩) hp _).setCell (p := ⟨b, 2, none⟩) hp _).setCell (p := ⟨b, 3, none⟩) hp _).setCell (p := ⟨b, 4, none⟩) hp _).setCell (p := ⟨b, 5, none⟩) hp _).setCell (p := ⟨b, 6, none⟩) hp _).setCell (p := ⟨b, 7, none⟩) hp _).setCell (p := ⟨b, 8, none⟩) hp _
theorem Blk.set9 {w : World} {b : Nat} {y0 y1 y2 y3 y4 y5 y6 y7 y8 : Value} {T : TypeId} (h : Blk w b #[y0, y1, y2, y3, y4, y5, y6, y7, y8] T) (x0 x1 x2 x3 x4 x5 x6 x7 x8 : Value) : Blk (Proofs.YtbpidoiellcccaaGreatDoor.set9 w b x0 x1 x2 x3 x4 x5 x6 x7 x8) b #[x0, x1, x2, x3, x4, x5, x6, x7, x8] T := by
  simpa [Proofs.YtbpidoiellcccaaGreatDoor.set9] using ((((((((h.set 0 x0).set 1 x1).set 2 x2).set 3 x3).set 4 x4).set 5 x5).set 6 x6).set 7 x7).set 8 x8

def RulePost (S : List Nat) (b : Nat) (n deep : Int) (w : World) (r : Except Err (RuleS × List TokS)) (e : Ending) (w' : World) : Prop :=
  Keep [b] w w' ∧ match r with
    | .ok (p, ts) => ∃ row, e = .returned (.agg row) ∧ RuleAt S w' p row ∧ Rdr S w' b ts n deep
    | .error x => e = PanE x
/-- What the walk of rule knows at the head of a round: the marks. -/
def MarksAt (S : List Nat) (b : Nat) (n deep : Int) (ts : List TokS) (w wr : World) : Prop :=
  ∃ (m : Int) (tr : List TokS), tr.length ≤ ts.length ∧ Rdr (w.heap.size :: (w.heap.size + 1) :: S) wr b tr n deep ∧ Blk wr w.heap.size ruleZ 87 ∧ Blk wr (w.heap.size + 1) (ruleM m) 87 ∧ Keep [b] w wr ∧ marksL m tr = marksL 0 ts
theorem marksL_go {m : Int} {t : TokS} {ts : List TokS} (h : isR 5 ⟨#[]⟩ (t :: ts) = true) : marksL m (t :: ts) = marksL (orR m (bitR t.t)) ts := by rw [marksL, if_pos h]
theorem marksL_end {m : Int} {ts : List TokS} (h : isR 5 ⟨#[]⟩ ts = false) : marksL m ts = (m, ts) := by
  cases ts with
  | nil => rfl
  | cons t ts => rw [marksL, if_neg (by simp [h])]

theorem tok_text (k a : Int) (t : ByteArray) (A : Option Addr) (m C : Nat) (w : World) : (Instr.field 132 (.agg #[.int .i64 k, .string t, .slice A m C, .int .i64 a]) 1).run Tryz.prog w = .ok (.string t) w := by kernel_rfl
theorem tok_set (k a : Int) (t : ByteArray) (A : Option Addr) (m C : Nat) (w : World) : (Instr.field 132 (.agg #[.int .i64 k, .string t, .slice A m C, .int .i64 a]) 2).run Tryz.prog w = .ok (.slice A m C) w := by kernel_rfl

set_option maxRecDepth 20000 in
set_option maxHeartbeats 4000000 in
theorem rule_any (S : List Nat) (b : Nat) (ts : List TokS) (n deep : Int) (many : Nat) (w : World) (hd : deep = 0) (hts : ts.length ≤ 600) (H : Rdr S w b ts n deep) (hS : b ∈ S) (hSl : ∀ x ∈ S, x < w.heap.size) :
    Calls Tryz.prog 45 #[.pointer (some ⟨b, 0, none⟩), .int .i64 many] w (RulePost S b n deep w (ruleR n many ts)) := by
  subst hd
  have hblt := H.lt
  generalize hres : ruleR n many ts = res
  have HRES := Lib.hid hres; clear hres
  have hst : MarksAt S b n 0 ts w ((w.alloc (.cells ruleZ 87)).alloc (.cells ruleZ 87)) := by
    have K0 := ((Keep.refl [] w).alloc (.cells ruleZ 87)).alloc (.cells ruleZ 87)
    exact ⟨0, ts, Nat.le_refl _, H.move K0 (by simp) (fun x hx => by rcases List.mem_cons.1 hx with rfl | h; exact .inr (by omega); rcases List.mem_cons.1 h with rfl | h; exact .inr (by omega); exact .inl h), (Blk.new _ _ _).alloc _, Blk.new' _ _ _ (by simp), K0.mono (by simp), rfl⟩
  have HST := Lib.hid hst; clear hst
  go_enter Tryz.func45, Tryz.ntmps45
  go_wp2
  go_loopw [] (fun wr => MarksAt S b n 0 ts w wr) (fun wr => lenOf ((wr.cell? ⟨b, 0, none⟩).getD undef))
  case atStart => exact HST.out
  case round =>
    clear HST H
    obtain ⟨m, tr, htr, Hr, Zr, Or, Kr, hg⟩ := hrel
    have HG := Lib.hid hg; clear hg
    have HM := Lib.hid Hr.len
    have hz := Zr.lt
    have ho := Or.lt
    have cO := Or.cell
    have fO := Or.frozen
    have c1 : wr.cell? ⟨w.heap.size + 1, 1, none⟩ = some (.int .i64 m) := cO 1
    go_wp2_with fail
    refine (ris_any _ b tr n 0 5 ⟨#[]⟩ wr Hr).mono ?_
    rintro e w1 ⟨rfl, rfl⟩
    cases hi : isR 5 ⟨#[]⟩ tr
    · have hmk : marksL 0 ts = (m, tr) := by rw [← HG.out]; exact marksL_end hi
      clear HG
      have HMK := Lib.hid hmk; clear hmk
      by_cases hmany : isR 0 ⟨#[]⟩ tr = true ∧ many = 16
      · obtain ⟨h1, h2⟩ := hmany
        have hb : ((many : Int) == 16) = true := by simp; omega
        have hres := HRES.out
        simp only [ruleR, HMK.out, h1, h2, and_self, if_true] at hres
        have HRES := Lib.hid hres; clear hres HMK h2
        go_wp2_with fail
        refine (ris_any _ b tr n 0 0 ⟨#[]⟩ wr Hr).mono ?_
        rintro e w1 ⟨rfl, rfl⟩
        rw [h1]
        go_wp2_with fail
        refine (fail_any _ b tr n 0 7 wr Hr).mono ?_
        rintro e w1 ⟨rfl, K1⟩
        have hres := HRES.out
        have HRES := Lib.hid hres; clear hres
        unfold PanE
        go_wp2
        have hres := HRES.out
        subst hres
        exact ⟨rfl, Kr.trans (K1.mono (by simp)), rfl⟩
      · have hcall : ∀ (Q : Ending → World → Prop), True := fun _ => trivial
        clear hcall
        have hpick : isR 0 ⟨#[]⟩ tr = false ∨ (isR 0 ⟨#[]⟩ tr = true ∧ ((many : Int) == 16) = false) := by
          cases h : isR 0 ⟨#[]⟩ tr
          · exact .inl rfl
          · exact .inr ⟨rfl, by simp; intro h2; exact hmany ⟨h, by omega⟩⟩
        have hres := HRES.out
        simp only [ruleR, HMK.out, if_neg hmany] at hres
        have HRES := Lib.hid hres; clear hres HMK
        go_wp2_with fail
        refine (ris_any _ b tr n 0 0 ⟨#[]⟩ wr Hr).mono ?_
        rintro e w1 ⟨rfl, rfl⟩
        clear hmany
        rcases hpick with h1 | ⟨h1, hb⟩
        all_goals
          rw [h1]
          clear h1
          go_wp2_with fail
          refine (take_any (w.heap.size :: (w.heap.size + 1) :: S) b tr n 0 0 ⟨#[]⟩ wr Hr (by simp [hS])).mono ?_
          rintro e w2 ⟨K2, hP⟩
          have Z2 := Zr.keep K2 (by simp; omega)
          have O2 := Or.keep K2 (by simp; omega)
          have KF2 := Kr.trans K2
          cases h2 : takeR n 0 ⟨#[]⟩ tr with
          | error x =>
            rw [h2] at hP
            simp only at hP
            subst hP
            have hres := HRES.out
            simp only [h2] at hres
            have HRES := Lib.hid hres; clear hres
            unfold PanE
            go_wp2
            have hres := HRES.out
            subst hres
            exact ⟨rfl, KF2, rfl⟩
          | ok q =>
            obtain ⟨t, ts1⟩ := q
            rw [h2] at hP
            obtain ⟨A2, m2, C2, rfl, _, R2⟩ := hP
            have hl2 := takeR_len h2
            have hres := HRES.out
            simp only [h2] at hres
            have HRES := Lib.hid hres; clear hres
            have T3 := Blk.new w2 #[.int .i64 t.k, .string t.t, .slice A2 m2 C2, .int .i64 t.a] 132
            have hz2 := Z2.lt
            have ho2 := O2.lt
            have O3 : Blk (((w2.setCell ⟨w.heap.size + 1, 0, none⟩ (.string t.t)).setCell ⟨w.heap.size + 1, 8, none⟩ (.int .i64 t.a)).alloc (.cells #[.int .i64 t.k, .string t.t, .slice A2 m2 C2, .int .i64 t.a] 132)) (w.heap.size + 1) #[.string t.t, .int .i64 m, .int .i64 0, .string { data := #[] }, .slice none 0 0, .slice none 0 0, .int .i64 0, .slice none 0 0, .int .i64 t.a] 87 := by
              simpa [ruleM] using ((O2.set 0 (.string t.t)).set 8 (.int .i64 t.a)).alloc (.cells #[.int .i64 t.k, .string t.t, .slice A2 m2 C2, .int .i64 t.a] 132)
            have Z3 := ((Z2.setOther ⟨w.heap.size + 1, 0, none⟩ (by simp) (.string t.t)).setOther ⟨w.heap.size + 1, 8, none⟩ (by simp) (.int .i64 t.a)).alloc (.cells #[.int .i64 t.k, .string t.t, .slice A2 m2 C2, .int .i64 t.a] 132)
            have K23 := (((Keep.refl [w.heap.size + 1] w2).setCell (p := ⟨w.heap.size + 1, 0, none⟩) (by simp) (.string t.t)).setCell (p := ⟨w.heap.size + 1, 8, none⟩) (by simp) (.int .i64 t.a)).alloc (.cells #[.int .i64 t.k, .string t.t, .slice A2 m2 C2, .int .i64 t.a] 132)
            have KF3 := ((KF2.setCell (p := ⟨w.heap.size + 1, 0, none⟩) (.inr (by simp)) (.string t.t)).setCell (p := ⟨w.heap.size + 1, 8, none⟩) (.inr (by simp)) (.int .i64 t.a)).alloc (.cells #[.int .i64 t.k, .string t.t, .slice A2 m2 C2, .int .i64 t.a] 132)
            have R3 := R2.move (S' := w.heap.size :: (w.heap.size + 1) :: S) K23 (fun x hx => .inl (by simp at hx; subst hx; exact ⟨by simp, by omega⟩)) (fun x hx => .inl hx)
            have fO2 := O2.frozen
            have cO2 := O2.cell
            unfold ruleM at cO2
            clear Hr Zr Or Kr cO fO c1 K2 K23 T3 R2 Z2 O2 KF2
            have R3d := R3.move (S' := (w.heap.size :: (w.heap.size + 1) :: S)) ((Keep.refl [] _).drew) (by simp) (fun x hx => .inl hx)
            have Z3d := Z3.drew
            have O3d := O3.drew
            have KF3d := KF3.drew
            clear R3 Z3 O3 KF3
            go_wp2_with fail
            go_region
            clear fO2 cO2
            go_wp2_with fail
            refine (take_any (w.heap.size :: (w.heap.size + 1) :: S) b ts1 n 0 4 (sg 61) _ R3d (by simp [hS])).mono ?_
            rintro e w4 ⟨K4, hP⟩
            have Z4 := Z3d.keep K4 (by simp; omega)
            have O4 := O3d.keep K4 (by simp; omega)
            have KF4 := KF3d.trans K4
            clear Z3d O3d KF3d
            cases h4 : takeR n 4 (sg 61) ts1 with
            | error x =>
              rw [h4] at hP
              simp only at hP
              subst hP
              have hres := HRES.out
              simp only [h4] at hres
              have HRES := Lib.hid hres; clear hres
              unfold PanE
              go_wp2
              have hres := HRES.out
              subst hres
              exact ⟨rfl, KF4, rfl⟩
            | ok q =>
              obtain ⟨t4, ts2⟩ := q
              rw [h4] at hP
              obtain ⟨A4, m4, C4, rfl, _, R4⟩ := hP
              have hl4 := takeR_len h4
              have hres := HRES.out
              simp only [h4] at hres
              have HRES := Lib.hid hres; clear hres
              have hz4 := Z4.lt
              have ho4 := O4.lt
              have hs4 := KF4.size
              go_wp2_with fail
              refine (alt_all 12 (w.heap.size :: (w.heap.size + 1) :: S) b ts2 n 0 w4 (by omega) (by omega) (by omega) R4 (by simp [hS]) (fun x hx => by rcases List.mem_cons.1 hx with rfl | h; exact hz4; rcases List.mem_cons.1 h with rfl | h; exact ho4; have := hSl x h; omega)).mono ?_
              rintro e w5 ⟨K5, hP⟩
              have Z5 := Z4.keep K5 (by simp; omega)
              have O5 := O4.keep K5 (by simp; omega)
              have KF5 := KF4.trans K5
              clear Z4 O4 KF4
              cases h5 : altR n 12 ts2 with
              | error x =>
                rw [h5] at hP
                simp only at hP
                subst hP
                have hres := HRES.out
                simp only [h5] at hres
                have HRES := Lib.hid hres; clear hres
                unfold PanE
                go_wp2
                have hres := HRES.out
                subst hres
                exact ⟨rfl, KF5, rfl⟩
              | ok q =>
                obtain ⟨p, ts3⟩ := q
                rw [h5] at hP
                obtain ⟨row, rfl, hp, R5⟩ := hP
                obtain ⟨k, tt, A', m', C', B, m'', D, a, hrow, hka, haa⟩ := PartAt.form hp
                subst hrow
                clear hka haa
                have hres := HRES.out
                simp only [h5] at hres
                have HRES := Lib.hid hres; clear hres
                have cO5 := O5.cell
                have fO5 := O5.frozen
                have hz5 := Z5.lt
                have ho5 := O5.lt
                have K56 := (Keep.refl [w.heap.size + 1] w5).setE (b := w.heap.size + 1) (by simp) (.int .i64 k) (.string tt) (.slice A' m' C') (.slice B m'' D) (.int .i64 a)
                have O6 := O5.setE (.int .i64 k) (.string tt) (.slice A' m' C') (.slice B m'' D) (.int .i64 a)
                have Z6 := Z5.keep K56 (by simp)
                have KF6 := KF5.setE (b := w.heap.size + 1) (.inr (by simp)) (.int .i64 k) (.string tt) (.slice A' m' C') (.slice B m'' D) (.int .i64 a)
                have R6 := R5.move (S' := (w.heap.size :: (w.heap.size + 1) :: S)) K56 (fun x hx => .inl (by simp at hx; subst hx; exact ⟨by simp, by omega⟩)) (fun x hx => .inl hx)
                have hp6 := partAt_stab _ _ (w.heap.size :: (w.heap.size + 1) :: S) _ _ _ _ hp K56 (by simp) (fun x hx => .inl hx)
                clear O5 Z5 KF5 R5 hp K56 K5 K4
                unfold setE at O6 Z6 KF6 R6 hp6
                go_wp2_with fail
                refine (sign2_any (w.heap.size :: (w.heap.size + 1) :: S) b ts3 n 0 (sg 47) _ R6 (by simp [hS])).mono ?_
                rintro e w7 ⟨rfl, R7, K7⟩
                have Z7 := Z6.keep K7 (by simp; omega)
                have O7 := O6.keep K7 (by simp; omega)
                have KF7 := KF6.trans K7
                have hp7 := partAt_stab _ _ (w.heap.size :: (w.heap.size + 1) :: S) _ _ _ _ hp6 K7 (by simp [hS]) (fun x hx => .inl hx)
                clear Z6 O6 KF6 hp6 cO5 fO5
                cases h7 : isR 4 (sg 47) ts3
                · rw [h7] at R7
                  simp only [Bool.false_eq_true, if_false] at R7
                  have hno : notR n ts3 = .ok ([], ts3) := by rw [notR, if_neg (by simp [h7])]
                  have hn7 : Rngs (w.heap.size :: (w.heap.size + 1) :: S) w7 (.slice none 0 0) [] := Sl.nil _ _ _
                  have hres := HRES.out
                  simp only [hno] at hres
                  have HRES := Lib.hid hres; clear hres
                  go_wp2_with fail
                  refine (take_any (w.heap.size :: (w.heap.size + 1) :: S) b ts3 n 0 4 (sg 59) _ R7 (by simp [hS])).mono ?_
                  rintro e w9 ⟨K9, hP⟩
                  have Z9 := Z7.keep K9 (by simp; omega)
                  have O9 := O7.keep K9 (by simp; omega)
                  have KF9 := KF7.trans K9
                  clear Z7 O7 KF7
                  cases h9 : takeR n 4 (sg 59) ts3 with
                  | error x =>
                    rw [h9] at hP
                    simp only at hP
                    subst hP
                    have hres := HRES.out
                    simp only [h9] at hres
                    have HRES := Lib.hid hres; clear hres
                    unfold PanE
                    go_wp2
                    have hres := HRES.out
                    subst hres
                    exact ⟨rfl, KF9, rfl⟩
                  | ok q =>
                    obtain ⟨t9, ts5⟩ := q
                    rw [h9] at hP
                    obtain ⟨A9, m9, C9, rfl, _, R9⟩ := hP
                    have hres := HRES.out
                    simp only [h9] at hres
                    have HRES := Lib.hid hres; clear hres
                    have hp9 := partAt_stab _ _ (w.heap.size :: (w.heap.size + 1) :: S) _ _ _ _ hp7 K9 (by simp [hS]) (fun x hx => .inl hx)
                    have hn9 := Sl.move (S' := (w.heap.size :: (w.heap.size + 1) :: S)) hn7 (by omega) K9 (by simp [hS]) (fun x hx => .inl hx)
                    have z9 := Z9.lt
                    have o9 := O9.lt
                    have cZ := Z9.cell
                    have fZ := Z9.frozen
                    have cO := O9.cell
                    unfold ruleZ at cZ
                    have K10 := (Keep.refl [w.heap.size] w9).set9 (b := w.heap.size) (by simp) (.string t.t) (.int .i64 m) (.int .i64 k) (.string tt) (.slice A' m' C') (.slice B m'' D) (.int .i64 a) (.slice none 0 0) (.int .i64 t.a)
                    have BF := Z9.set9 (.string t.t) (.int .i64 m) (.int .i64 k) (.string tt) (.slice A' m' C') (.slice B m'' D) (.int .i64 a) (.slice none 0 0) (.int .i64 t.a)
                    have hS5 : ∀ x ∈ S, x ∈ (w.heap.size :: (w.heap.size + 1) :: S) ∨ w9.heap.size ≤ x := fun x hx => .inl (by simp [hx])
                    have RF := R9.move (S' := S) K10 (fun x hx => .inl (by simp at hx; subst hx; exact ⟨by simp, by omega⟩)) hS5
                    have hpF := partAt_stab _ _ S _ _ _ _ hp9 K10 (by simp) hS5
                    have hnF := Sl.move (S' := S) hn9 (by omega) K10 (by simp) hS5
                    have KF := KF9.set9 (b := w.heap.size) (.inr (Nat.le_refl _)) (.string t.t) (.int .i64 m) (.int .i64 k) (.string tt) (.slice A' m' C') (.slice B m'' D) (.int .i64 a) (.slice none 0 0) (.int .i64 t.a)
                    have cF := BF.cell
                    unfold set9 at cF
                    have CF := Lib.hid cF; clear cF BF
                    go_wp2
                    have cF := CF.out
                    have hres := HRES.out
                    subst hres
                    exact bodyPost_ret (v := .agg #[.string t.t, .int .i64 m, .int .i64 k, .string tt, .slice A' m' C', .slice B m'' D, .int .i64 a, .slice none 0 0, .int .i64 t.a]) (by simp [results, Tryz.results45, go_sem, cF]) rfl ⟨KF, _, rfl, ⟨k, tt, A', m', C', B, m'', D, a, none, 0, 0, rfl, hpF, hnF⟩, RF⟩
                · rw [h7] at R7
                  simp only [if_true] at R7
                  go_wp2_with fail
                  refine (take_any (w.heap.size :: (w.heap.size + 1) :: S) b ts3.tail n 0 2 ⟨#[]⟩ _ R7 (by simp [hS])).mono ?_
                  rintro e w8 ⟨K8, hP⟩
                  have Z8 := Z7.keep K8 (by simp; omega)
                  have O8 := O7.keep K8 (by simp; omega)
                  have KF8 := KF7.trans K8
                  have hp8 := partAt_stab _ _ (w.heap.size :: (w.heap.size + 1) :: S) _ _ _ _ hp7 K8 (by simp [hS]) (fun x hx => .inl hx)
                  clear Z7 O7 KF7 hp7
                  cases h8 : takeR n 2 ⟨#[]⟩ ts3.tail with
                  | error x =>
                    rw [h8] at hP
                    simp only at hP
                    subst hP
                    have hno : notR n ts3 = .error x := by rw [notR, if_pos h7, h8]
                    have hres := HRES.out
                    simp only [hno] at hres
                    have HRES := Lib.hid hres; clear hres
                    unfold PanE
                    go_wp2
                    have hres := HRES.out
                    subst hres
                    exact ⟨rfl, KF8, rfl⟩
                  | ok q =>
                    obtain ⟨t8, ts4⟩ := q
                    rw [h8] at hP
                    obtain ⟨N, n8, F, rfl, hn8, R8⟩ := hP
                    have hno : notR n ts3 = .ok (t8.r, ts4) := by rw [notR, if_pos h7, h8]
                    have hres := HRES.out
                    simp only [hno] at hres
                    have HRES := Lib.hid hres; clear hres
                    have cO8 := O8.cell
                    have fO8 := O8.frozen
                    have hz8 := Z8.lt
                    have ho8 := O8.lt
                    have hfs := tok_set t8.k t8.a t8.t N n8 F
                    have K89 := (Keep.refl [w.heap.size + 1] w8).setCell (p := ⟨w.heap.size + 1, 7, none⟩) (by simp) (.slice N n8 F)
                    have Oa : Blk (w8.setCell ⟨w.heap.size + 1, 7, none⟩ (.slice N n8 F)) (w.heap.size + 1) #[.string t.t, .int .i64 m, .int .i64 k, .string tt, .slice A' m' C', .slice B m'' D, .int .i64 a, .slice N n8 F, .int .i64 t.a] 87 := by simpa using O8.set 7 (.slice N n8 F)
                    have Za := Z8.keep K89 (by simp)
                    have KFa := KF8.setCell (p := ⟨w.heap.size + 1, 7, none⟩) (.inr (by simp)) (.slice N n8 F)
                    have Ra := R8.move (S' := (w.heap.size :: (w.heap.size + 1) :: S)) K89 (fun x hx => .inl (by simp at hx; subst hx; exact ⟨by simp, by omega⟩)) (fun x hx => .inl hx)
                    have hpa := partAt_stab _ _ (w.heap.size :: (w.heap.size + 1) :: S) _ _ _ _ hp8 K89 (by simp) (fun x hx => .inl hx)
                    have hna := Sl.move (S' := (w.heap.size :: (w.heap.size + 1) :: S)) hn8 (by omega) K89 (by simp) (fun x hx => .inl hx)
                    clear O8 Z8 KF8 R8 hp8 hn8 K89
                    go_wp2_with fail
                    refine (take_any (w.heap.size :: (w.heap.size + 1) :: S) b ts4 n 0 4 (sg 59) _ Ra (by simp [hS])).mono ?_
                    rintro e w9 ⟨K9, hP⟩
                    have Z9 := Za.keep K9 (by simp; omega)
                    have O9 := Oa.keep K9 (by simp; omega)
                    have KF9 := KFa.trans K9
                    clear Za Oa KFa
                    cases h9 : takeR n 4 (sg 59) ts4 with
                    | error x =>
                      rw [h9] at hP
                      simp only at hP
                      subst hP
                      have hres := HRES.out
                      simp only [h9] at hres
                      have HRES := Lib.hid hres; clear hres
                      unfold PanE
                      go_wp2
                      have hres := HRES.out
                      subst hres
                      exact ⟨rfl, KF9, rfl⟩
                    | ok q =>
                      obtain ⟨t9, ts5⟩ := q
                      rw [h9] at hP
                      obtain ⟨A9, m9, C9, rfl, _, R9⟩ := hP
                      have hres := HRES.out
                      simp only [h9] at hres
                      have HRES := Lib.hid hres; clear hres
                      have hp9 := partAt_stab _ _ (w.heap.size :: (w.heap.size + 1) :: S) _ _ _ _ hpa K9 (by simp [hS]) (fun x hx => .inl hx)
                      have hn9 := Sl.move (S' := (w.heap.size :: (w.heap.size + 1) :: S)) hna (by omega) K9 (by simp [hS]) (fun x hx => .inl hx)
                      have z9 := Z9.lt
                      have o9 := O9.lt
                      have cZ := Z9.cell
                      have fZ := Z9.frozen
                      have cO := O9.cell
                      unfold ruleZ at cZ
                      have K10 := (Keep.refl [w.heap.size] w9).set9 (b := w.heap.size) (by simp) (.string t.t) (.int .i64 m) (.int .i64 k) (.string tt) (.slice A' m' C') (.slice B m'' D) (.int .i64 a) (.slice N n8 F) (.int .i64 t.a)
                      have BF := Z9.set9 (.string t.t) (.int .i64 m) (.int .i64 k) (.string tt) (.slice A' m' C') (.slice B m'' D) (.int .i64 a) (.slice N n8 F) (.int .i64 t.a)
                      have hS5 : ∀ x ∈ S, x ∈ (w.heap.size :: (w.heap.size + 1) :: S) ∨ w9.heap.size ≤ x := fun x hx => .inl (by simp [hx])
                      have RF := R9.move (S' := S) K10 (fun x hx => .inl (by simp at hx; subst hx; exact ⟨by simp, by omega⟩)) hS5
                      have hpF := partAt_stab _ _ S _ _ _ _ hp9 K10 (by simp) hS5
                      have hnF := Sl.move (S' := S) hn9 (by omega) K10 (by simp) hS5
                      have KF := KF9.set9 (b := w.heap.size) (.inr (Nat.le_refl _)) (.string t.t) (.int .i64 m) (.int .i64 k) (.string tt) (.slice A' m' C') (.slice B m'' D) (.int .i64 a) (.slice N n8 F) (.int .i64 t.a)
                      have cF := BF.cell
                      unfold set9 at cF
                      have CF := Lib.hid cF; clear cF BF
                      go_wp2
                      have cF := CF.out
                      have hres := HRES.out
                      subst hres
                      exact bodyPost_ret (v := .agg #[.string t.t, .int .i64 m, .int .i64 k, .string tt, .slice A' m' C', .slice B m'' D, .int .i64 a, .slice N n8 F, .int .i64 t.a]) (by simp [results, Tryz.results45, go_sem, cF]) rfl ⟨KF, _, rfl, ⟨k, tt, A', m', C', B, m'', D, a, N, n8, F, rfl, hpF, hnF⟩, RF⟩
    · cases tr with
      | nil => simp [isR] at hi
      | cons t tr =>
        have htk : takeR n 5 ⟨#[]⟩ (t :: tr) = .ok (t, tr) := by simp [takeR, hi]
        have HRX : ∀ W, Keep [] wr W → Rdr (w.heap.size :: (w.heap.size + 1) :: S) W b (t :: tr) n 0 := fun W K => Hr.move K (by simp) (fun x hx => .inl hx)
        have hmem : b ∈ w.heap.size :: (w.heap.size + 1) :: S := by simp [hS]
        have fin : ∀ W, Keep [b] wr W → Rdr (w.heap.size :: (w.heap.size + 1) :: S) W b tr n 0 → MarksAt S b n 0 ts w (W.setCell ⟨w.heap.size + 1, 1, none⟩ (.int .i64 (bits .or .i64 m (bitR t.t)))) ∧
            lenOf (((W.setCell ⟨w.heap.size + 1, 1, none⟩ (.int .i64 (bits .or .i64 m (bitR t.t)))).cell? ⟨b, 0, none⟩).getD undef) < lenOf ((wr.cell? ⟨b, 0, none⟩).getD undef) := fun W K R => by
          have KS : Keep [w.heap.size + 1] W (W.setCell ⟨w.heap.size + 1, 1, none⟩ (.int .i64 (bits .or .i64 m (bitR t.t)))) := (Keep.refl _ _).setCell (by simp) _
          have R2 := R.move (S' := w.heap.size :: (w.heap.size + 1) :: S) KS (fun x hx => .inl (by simp at hx; subst hx; exact ⟨by simp, by omega⟩)) (fun x hx => .inl hx)
          have hg := HG.out
          rw [marksL_go hi] at hg
          refine ⟨⟨orR m (bitR t.t), tr, by simp at htr; omega, R2, (Zr.keep K (by simp; omega)).setOther _ (by simp) _, ?_, (Kr.trans K).setCell (.inr (by simp)) _, hg⟩, ?_⟩
          · simpa [ruleM, orR] using (Or.keep K (by simp; omega)).set 1 (.int .i64 (bits .or .i64 m (bitR t.t)))
          · rw [HM.out, R2.len]; simp
        have FIN := Lib.hid fin; clear fin
        have KA : Keep [b] wr wr.drew := (Keep.refl _ _).drew
        have KB : Keep [] wr wr.drew := (Keep.refl _ _).drew
        have hbw : b < wr.heap.size := Hr.lt
        have hft := tok_text t.k t.a t.t
        go_wp2
        have cOX : ∀ W, Keep [b] wr W → W.cell? ⟨w.heap.size + 1, 1, none⟩ = some (.int .i64 m) := fun W K => (Or.keep K (by simp; omega)).cell 1
        have fOX : ∀ W, Keep [b] wr W → W.frozen? ⟨w.heap.size + 1, 1, none⟩ = false := fun W K => (Or.keep K (by simp; omega)).frozen 1
        go_region_with (first
          | (go_at_call 70; refine (bits_any _).mono ?_; rintro e w1 ⟨rfl, M, K⟩; replace KA := KA.trans (K.mono (by simp)); replace KB := Keep.trans KB K; try (replace R2 := Rdr.move R2 K (by simp) (fun x hx => .inl hx)); have hl := bit_look _ _ t.t _ M; have cc := cOX _ KA; have ff := fOX _ KA)
          | (go_at_call 67; refine (take_any _ b (t :: tr) n 0 5 ⟨#[]⟩ _ (HRX _ KB) hmem).mono ?_; rw [htk]; rintro e w2 ⟨K2, A2, m2, C2, rfl, hR2, R2⟩; replace KA := KA.trans K2; have cc := cOX _ KA; have ff := fOX _ KA; try (have M2 := MapB.keep (show MapB _ wr.heap.size bitE 6 from M) K2 (by simp; omega); have hl2 := bit_look _ wr.heap.size t.t _ M2)))
        all_goals
          go_wp2
          exact FIN.out _ KA R2
end Go.Proofs.YtbpidoiellcccaaGreatDoor
namespace Go.Proofs.YtbpidoiellcccaaGreatDoor
open Go Go.RowKit Go.MapKept

def StrRow (_S : List Nat) (_w : World) (x : ByteArray) (row : Array Value) : Prop := row = #[.string x]
theorem strRow_stab : Stab StrRow := fun _ _ _ _ _ _ _ h _ _ _ => h
def keysL (n : Int) : List ByteArray → List TokS → Except Err (List ByteArray × List TokS)
  | l, [] => .ok (l, [])
  | l, t :: ts => if isR 1 ⟨#[]⟩ (t :: ts) then (if l.length = 8 then .error (7, t.a) else keysL n (l ++ [t.t]) ts) else .ok (l, t :: ts)
/-- The words that are reserved. -/
def keysR (n : Int) (ts : List TokS) : Except Err (List ByteArray × List TokS) :=
  if isR 4 (sg 37) ts then (match takeR n 1 ⟨#[]⟩ ts.tail with
    | .error x => .error x
    | .ok (t, ts1) => match keysL n [t.t] ts1 with
      | .error x => .error x
      | .ok (l, ts2) => match takeR n 4 (sg 59) ts2 with
        | .error x => .error x
        | .ok (_, ts3) => .ok (l, ts3)) else .ok ([], ts)
theorem keysL_len {n : Int} : ∀ (l : List ByteArray) (ts : List TokS) {l1 : List ByteArray} {ts1 : List TokS}, keysL n l ts = .ok (l1, ts1) → ts1.length ≤ ts.length
  | l, [], l1, ts1, h => by
    simp only [keysL, Except.ok.injEq, Prod.mk.injEq] at h
    rw [← h.2]; simp
  | l, t :: ts, l1, ts1, h => by
    unfold keysL at h
    split at h
    · split at h
      · cases h
      · have := keysL_len _ ts h
        simp; omega
    · simp only [Except.ok.injEq, Prod.mk.injEq] at h
      rw [← h.2]; simp
theorem keysR_len {n : Int} {ts : List TokS} {l : List ByteArray} {ts1 : List TokS} (h : keysR n ts = .ok (l, ts1)) : ts1.length ≤ ts.length := by
  unfold keysR at h
  split at h
  · split at h
    · cases h
    · rename_i t1 ts1 e1
      have h1 := takeR_len e1
      split at h
      · cases h
      · rename_i l2 ts2 e2
        have h2 := keysL_len _ _ e2
        split at h
        · cases h
        · rename_i t3 ts3 e3
          have h3 := takeR_len e3
          simp only [Except.ok.injEq, Prod.mk.injEq] at h
          rw [← h.2]
          simp at h1; omega
  · simp only [Except.ok.injEq, Prod.mk.injEq] at h
    rw [← h.2]; exact Nat.le_refl _
def KeysPost (S : List Nat) (b : Nat) (n deep : Int) (w : World) (r : Except Err (List ByteArray × List TokS)) (e : Ending) (w' : World) : Prop :=
  Keep [b] w w' ∧ match r with
    | .ok (l, ts) => ∃ A C, e = .returned (.slice A l.length C) ∧ SlOf StrRow S w' 1 (.slice A l.length C) l ∧ Rdr S w' b ts n deep
    | .error x => e = PanE x
theorem info_str : (Tryz.prog.info? 9).map (fun i => (i.zero, i.size, i.bytes)) = some (some (.string { data := #[] }), 1, 16) := by kernel_rfl
theorem keysL_end {n : Int} {l : List ByteArray} {ts : List TokS} (h : isR 1 ⟨#[]⟩ ts = false) : keysL n l ts = .ok (l, ts) := by
  cases ts with
  | nil => rfl
  | cons t ts => rw [keysL, if_neg (by simp [h])]
theorem keysL_go {n : Int} {l : List ByteArray} {t : TokS} {ts : List TokS} (h : isR 1 ⟨#[]⟩ (t :: ts) = true) : keysL n l (t :: ts) = if l.length = 8 then .error (7, t.a) else keysL n (l ++ [t.t]) ts := by rw [keysL, if_pos h]
/-- What the walk of keys knows at the head of a round. -/
def KeysAt (S : List Nat) (b : Nat) (n deep : Int) (ts : List TokS) (w : World) (goal : Except Err (List ByteArray × List TokS)) (v : Value) (wr : World) : Prop :=
  ∃ (l : List ByteArray) (tr : List TokS), l.length ≤ 8 ∧ Rdr (ownB v ++ S) wr b tr n deep ∧ OwnL StrRow S wr w.heap.size 9 1 v l ∧ Keep [b] w wr ∧ keysL n l tr = goal

set_option maxRecDepth 20000 in
set_option maxHeartbeats 4000000 in
theorem keys_any (S : List Nat) (b : Nat) (ts : List TokS) (n deep : Int) (w : World) (H : Rdr S w b ts n deep) (hS : b ∈ S) (hSl : ∀ x ∈ S, x < w.heap.size) :
    Calls Tryz.prog 44 #[.pointer (some ⟨b, 0, none⟩)] w (KeysPost S b n deep w (keysR n ts)) := by
  have hblt := H.lt
  generalize hres : keysR n ts = res
  have HRES := Lib.hid hres; clear hres
  go_enter Tryz.func44, Tryz.ntmps44
  go_wp2_with fail
  refine (sign2_any S b ts n deep (sg 37) w H hS).mono ?_
  rintro e w1 ⟨rfl, R1, K1⟩
  have hs1 := K1.size
  cases hi : isR 4 (sg 37) ts
  · rw [hi] at R1
    simp only [Bool.false_eq_true, if_false] at R1
    have hres := HRES.out
    simp only [keysR, hi, Bool.false_eq_true, if_false] at hres
    subst hres
    go_wp2
    go_ret
    exact ⟨K1, none, 0, rfl, SlOf.nil _ _ _, R1⟩
  · rw [hi] at R1
    simp only [if_true] at R1
    have hres := HRES.out
    simp only [keysR, hi, if_true] at hres
    have HRES := Lib.hid hres; clear hres
    go_wp2_with fail
    refine (take_any S b ts.tail n deep 1 ⟨#[]⟩ w1 R1 hS).mono ?_
    rintro e w2 ⟨K2, hP⟩
    have KF2 := K1.trans K2
    have hs2 := KF2.size
    cases h2 : takeR n 1 ⟨#[]⟩ ts.tail with
    | error x =>
      rw [h2] at hP
      simp only at hP
      subst hP
      have hres := HRES.out
      simp only [h2] at hres
      have HRES := Lib.hid hres; clear hres
      unfold PanE
      go_wp2
      have hres := HRES.out
      subst hres
      exact ⟨rfl, KF2, rfl⟩
    | ok q =>
      obtain ⟨t, ts1⟩ := q
      rw [h2] at hP
      obtain ⟨A2, m2, C2, rfl, _, R2⟩ := hP
      have hres := HRES.out
      simp only [h2] at hres
      have HRES := Lib.hid hres; clear hres
      have hft := tok_text t.k t.a t.t A2 m2 C2
      obtain ⟨i0, hi0, hz0, hz1, hz2⟩ := info_parts info_str
      have hown := World.ownsRow_nil w2 w.heap.size 9 1
      go_wp2_with (at_builtin; go_loud (refine wpList_append_lies _ rfl _ _ 23 rfl w.heap.size 9 i0 (.string { data := #[] }) 1 16 Tryz.underlying23 hi0 hz0 hz1 hz2 rfl (by decide) _ 0 _ rfl (hown.alloc _) ⟨w2.heap.size, 0, none⟩ 1 1 [.string t.t] rfl rfl (World.news_of_block (Blk.new' _ _ _ (by simp))) (by simp [Value.oneCell']) (by decide) (by unfold maxLen; omega) (by omega) (by simp; omega) _ rfl ?_); intro g cap w3 O3 G3 W3 L3)
      have K23 : Keep [] w2 (w2.alloc (.cells #[.string t.t] 9)) := (Keep.refl _ _).alloc _
      have hap := OwnL.append (R := StrRow) (S := S) (xs := []) (x := t.t) (row := #[.string t.t]) (v := .slice none 0 0) [] rfl (fun i hi hi' => by simp at hi) strRow_stab rfl rfl O3 G3 W3
      have R3 := (R2.move (S' := ownB (.slice none 0 0) ++ S) K23 (by simp) (fun x hx => .inl (by simpa [ownB, Value.ownBlock] using hx))).grown (k := 1) (cap := cap) G3 W3 (by simp [ownB, Value.ownBlock])
      have KF3 := (KF2.trans (K23.mono (by simp))).grown G3 (fun x hx => by have hx : (none : Option Nat) = some x := hx; cases hx)
      have hst : KeysAt S b n deep ts w (keysL n [t.t] ts1) (.slice (some ⟨g, 0, none⟩) (0 + 1) cap) w3 := ⟨[t.t], ts1, by simp, R3, hap, KF3, rfl⟩
      have HST := Lib.hid hst; clear hst
      clear O3 G3 W3 L3 hap R3 KF3 hown R2 R1 K1 K2 KF2 hi0 hz0 hz1 hz2
      go_wp2
      go_loopw [3] (fun v wr => KeysAt S b n deep ts w (keysL n [t.t] ts1) v wr) (fun _ wr => lenOf ((wr.cell? ⟨b, 0, none⟩).getD undef))
      case atStart => exact HST.out
      case round =>
        clear HST hft
        obtain ⟨l, tr, hl, Hr, Hown, Kr, hg⟩ := hrel
        have HG := Lib.hid hg; clear hg
        have HM := Lib.hid Hr.len
        obtain ⟨A, C, rfl⟩ := Hown.slice
        have hbo : b ∉ ownB (.slice A l.length C) := fun h => by have := (Hown.base b h).1; omega
        have hsr := Kr.size
        go_wp2_with fail
        refine (ris_any _ b tr n deep 1 ⟨#[]⟩ wr Hr).mono ?_
        rintro e w5 ⟨rfl, rfl⟩
        cases hi2 : isR 1 ⟨#[]⟩ tr
        · have hres := HRES.out
          rw [← HG.out, keysL_end hi2] at hres
          simp only at hres
          have HRES := Lib.hid hres; clear hres
          have hSs : ∀ x ∈ ownB (.slice A l.length C), x ∉ S := fun x hx hx' => by
            have h1 := (Hown.base x hx).1
            have := hSl x hx'; omega
          have HL := Hown.read (S' := S) strRow_stab (fun x hx => .inl hx) hSs
          have R5 := Hr.move (S' := S) (Keep.refl [] _) (by simp) (fun x hx => .inl (by simp [hx]))
          go_wp2_with fail
          refine (take_any S b tr n deep 4 (sg 59) wr R5 hS).mono ?_
          rintro e w6 ⟨K6, hP⟩
          have KF6 := Kr.trans K6
          cases h6 : takeR n 4 (sg 59) tr with
          | error x =>
            rw [h6] at hP
            simp only at hP
            subst hP
            have hres := HRES.out
            simp only [h6] at hres
            have HRES := Lib.hid hres; clear hres
            unfold PanE
            go_wp2
            have hres := HRES.out
            subst hres
            exact ⟨rfl, KF6, rfl⟩
          | ok q =>
            obtain ⟨t6, ts6⟩ := q
            rw [h6] at hP
            obtain ⟨A6, m6, C6, rfl, _, R6⟩ := hP
            have hres := HRES.out
            simp only [h6] at hres
            have HRES := Lib.hid hres; clear hres
            have HL6 := HL.move (S' := S) strRow_stab (by omega) K6 (by simp [hS]) (fun x hx => .inl hx)
            go_wp2
            go_ret
            have hres := HRES.out
            subst hres
            exact ⟨KF6, A, C, rfl, HL6, R6⟩
        · cases tr with
          | nil => simp [isR] at hi2
          | cons t5 tr =>
            have hg := HG.out
            rw [keysL_go hi2] at hg
            have HG := Lib.hid hg; clear hg
            by_cases h8 : l.length = 8
            · have hb8 : ((l.length : Int) == 8) = true := by simp; omega
              have hres := HRES.out
              have hg := HG.out
              rw [if_pos h8] at hg
              rw [← hg] at hres
              simp only at hres
              have HRES := Lib.hid hres; clear hres hg h8
              go_wp2_with fail
              refine (fail_any _ b (t5 :: tr) n deep 7 wr Hr).mono ?_
              rintro e w6 ⟨rfl, K6⟩
              unfold PanE
              go_wp2
              have hres := HRES.out
              subst hres
              exact ⟨rfl, Kr.trans (K6.mono (by simp)), rfl⟩
            · have hb8 : ((l.length : Int) == 8) = false := by simp; omega
              have hg := HG.out
              rw [if_neg h8] at hg
              have HG := Lib.hid hg; clear hg
              have htk : takeR n 1 ⟨#[]⟩ (t5 :: tr) = .ok (t5, tr) := by simp [takeR, hi2]
              go_wp2_with fail
              refine (take_any _ b (t5 :: tr) n deep 1 ⟨#[]⟩ wr Hr (by simp [hS])).mono ?_
              rw [htk]
              rintro e w6 ⟨K6, A6, m6, C6, rfl, _, R6⟩
              have KF6 := Kr.trans K6
              have HO6 := Hown.move strRow_stab (S' := S) K6 (fun x hx => by simp at hx; subst hx; exact .inl ⟨hS, hbo⟩) (fun x hx => .inl hx)
              have HB := Lib.hid HO6.base
              have hft := tok_text t5.k t5.a t5.t A6 m6 C6
              obtain ⟨i0, hi0, hz0, hz1, hz2⟩ := info_parts info_str
              obtain ⟨rows, hlr, hown, hel⟩ := HO6
              have HEL := Lib.hid hel; clear hel Hown Hr Kr
              go_wp2_with (at_builtin; go_loud (refine wpList_append_lies _ rfl _ _ 23 rfl w.heap.size 9 i0 (.string { data := #[] }) 1 16 Tryz.underlying23 hi0 hz0 hz1 hz2 rfl (by decide) _ l.length _ rfl (hown.alloc _) ⟨w6.heap.size, 0, none⟩ 1 1 [.string t5.t] rfl rfl (World.news_of_block (Blk.new' _ _ _ (by simp))) (by simp [Value.oneCell']) (by decide) (by unfold maxLen; omega) (by omega) (by have := KF6.size; simp; omega) _ rfl ?_); intro g5 cap5 w7 O7 G7 W7 L7)
              have K67 : Keep [] w6 (w6.alloc (.cells #[.string t5.t] 9)) := (Keep.refl _ _).alloc _
              have hap := OwnL.append (R := StrRow) (S := S) (w := w6.alloc (.cells #[.string t5.t] 9)) (x := t5.t) (row := #[.string t5.t]) rows hlr (fun i hi hi' => ⟨(HEL.out i hi hi').1, (HEL.out i hi hi').2⟩) strRow_stab rfl rfl O7 G7 W7
              have R7 := (R6.move (S' := ownB (.slice A l.length C) ++ S) K67 (by simp) (fun x hx => .inl hx)).grown (k := l.length + 1) (cap := cap5) G7 W7 hbo
              have KF7 := (KF6.trans (K67.mono (by simp))).grown G7 (fun x hx => .inr (by have := (HB.out x (mem_own hx)).1; omega))
              refine ⟨⟨l ++ [t5.t], tr, by simp; omega, R7, hap, KF7, HG.out⟩, ?_⟩
              rw [HM.out, R7.len]
              simp
end Go.Proofs.YtbpidoiellcccaaGreatDoor
namespace Go.Proofs.YtbpidoiellcccaaGreatDoor
open Go Go.RowKit Go.MapKept

set_option maxHeartbeats 1000000 in
theorem catch_idle (a b c : Value) (w : World) :
    CallsD Tryz.prog 43 #[a, b, c] .returning w fun e u' w' => e = .returned (.tuple #[]) ∧ u' = .returning ∧ w' = w := by
  have hq : ∀ w, (binOp .eql 20 .nilIface .nilIface).run Tryz.prog w = .ok (.bool true) w := fun _ => by kernel_rfl
  refine callsD_of_wpS Tryz.func43 rfl fun c₀ cs hu => ?_
  apply wpS_seq
  apply wpS_region
  simp [wpOpsS, go_sem, recoverD, hu, Tryz.ntmps43, Exit.thenS]
  refine wpS_of_wp ?_
  simp [Array.replicate]
  go_wp2
  cases c₀
  simp_all [bodyPostS, results, Tryz.results43]
set_option maxRecDepth 20000 in
set_option maxHeartbeats 1000000 in
theorem catch_wrong (F T X : Nat) (e0 a0 : Int) (f0 f1 y0 y1 : Value) (w : World) (hF : Blk w F #[f0, f1] 49) (hT : Blk w T #[y0] 3) (hX : Blk w X #[y1] 50) (hFT : F ≠ T) (hFX : F ≠ X) (hTX : T ≠ X) :
    CallsD Tryz.prog 43 #[.pointer (some ⟨F, 0, none⟩), .pointer (some ⟨T, 0, none⟩), .pointer (some ⟨X, 0, none⟩)] (.panicking [{ v := .iface 78 (.agg #[.int .i64 e0, .int .i64 a0]), recovered := false }]) w fun e u' w' =>
      e = .returned (.tuple #[]) ∧ u' = .panicking [{ v := .iface 78 (.agg #[.int .i64 e0, .int .i64 a0]), recovered := true }] ∧ Keep [F, T, X] w w' ∧ Blk w' F #[.slice none 0 0, .slice none 0 0] 49 ∧ Blk w' T #[.int .i64 a0] 3 ∧ Blk w' X #[.int .i64 e0] 50 := by
  refine callsD_of_wpS Tryz.func43 rfl fun c₀ cs hu => ?_
  apply wpS_seq
  apply wpS_region
  simp [wpOpsS, go_sem, recoverD, hu, Tryz.ntmps43, Exit.thenS]
  refine wpS_of_wp ?_
  simp [Array.replicate]
  have cF := hF.cell
  have fF := hF.frozen
  have cT := hT.cell
  have fT := hT.frozen
  have cX := hX.cell
  have fX := hX.frozen
  have l1 := hF.lt
  have l2 := hT.lt
  have l3 := hX.lt
  have hta : ∀ w, (Instr.typeAssert (.iface 78 (.agg #[.int .i64 e0, .int .i64 a0])) 20 78 true).run Tryz.prog w = .ok (.tuple #[.agg #[.int .i64 e0, .int .i64 a0], .bool true]) w := fun _ => by kernel_rfl
  go_wp2
  go_region
  go_wp2
  refine ⟨rfl, _, rfl, .tuple #[], by simp [results, Tryz.results43], ⟨rfl, rfl, ?_, ?_, ?_, ?_⟩⟩
  · exact (((((((Keep.refl _ _).setCell (by simp) _).setCell (by simp) _).setCell (by simp) _).setCell (by simp) _).alloc _).drew)
  · simpa using (((((hF.set 0 (.slice none 0 0)).set 1 (.slice none 0 0)).setOther ⟨T, 0, none⟩ (by simpa using hFT) (.int .i64 a0)).setOther ⟨X, 0, none⟩ (by simpa using hFX) (.int .i64 e0)).alloc (.cells #[.int .i64 e0, .int .i64 a0] 78)).drew
  · simpa using ((((((hT.setOther ⟨F, 0, none⟩ (by simpa using Ne.symm hFT) (.slice none 0 0)).setOther ⟨F, 1, none⟩ (by simpa using Ne.symm hFT) (.slice none 0 0)).set 0 (.int .i64 a0)).setOther ⟨X, 0, none⟩ (by simpa using hTX) (.int .i64 e0))).alloc (.cells #[.int .i64 e0, .int .i64 a0] 78)).drew
  · simpa using ((((((hX.setOther ⟨F, 0, none⟩ (by simpa using Ne.symm hFX) (.slice none 0 0)).setOther ⟨F, 1, none⟩ (by simpa using Ne.symm hFX) (.slice none 0 0)).setOther ⟨T, 0, none⟩ (by simpa using Ne.symm hTX) (.int .i64 a0)).set 0 (.int .i64 e0))).alloc (.cells #[.int .i64 e0, .int .i64 a0] 78)).drew
end Go.Proofs.YtbpidoiellcccaaGreatDoor
