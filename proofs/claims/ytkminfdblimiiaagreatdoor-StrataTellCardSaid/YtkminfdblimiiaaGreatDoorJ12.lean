/- A grammar's text is read. -/
import Derived.Test.YtkminfdblimiiaaGreatDoorJ11
import Derived.Test.YtkminfdblimiiaaGreatDoorJ7
import Derived.Deep.RegionLaw
set_option linter.unusedVariables false
set_option linter.unusedSimpArgs false
namespace Go.Proofs.YtkminfdblimiiaaGreatDoor
open Go Go.RowKit Go.MapKept

def rulesL (n : Int) : Nat → List RuleS → List TokS → Except Err (List RuleS)
  | 0, l, _ => .ok l
  | f + 1, l, ts => if l.isEmpty = true ∨ ts.isEmpty = false then (match ruleR n l.length ts with
    | .error x => .error x
    | .ok (r, ts1) => rulesL n f (l ++ [r]) ts1) else .ok l
structure FileS where
  keys : List ByteArray
  rules : List RuleS
def parseR (n : Int) (ts : List TokS) : Except Err FileS := match keysR n ts with
  | .error x => .error x
  | .ok (k, ts1) => match rulesL n (ts1.length + 1) [] ts1 with
    | .error x => .error x
    | .ok l => .ok ⟨k, l⟩
/-- A grammar of a text: what File hands back. -/
def fileR (cR bR : ByteArray → Nat → WayR) (s : ByteArray) : FileS × Int × Int :=
  if (lexR cR bR s (s.size + 1) 0 []).2.2 = 0 then (match parseR s.size (lexR cR bR s (s.size + 1) 0 []).1 with
    | .error x => (⟨[], []⟩, x.2, x.1)
    | .ok f => (f, s.size, 0)) else (⟨[], []⟩, (lexR cR bR s (s.size + 1) 0 []).2.1, (lexR cR bR s (s.size + 1) 0 []).2.2)
theorem lexR_len (cR bR : ByteArray → Nat → WayR) (s : ByteArray) : ∀ (n i : Nat) (acc : List TokS), acc.length ≤ 600 → (lexR cR bR s n i acc).1.length ≤ 600
  | 0, i, acc, h => by simp [lexR]
  | n + 1, i, acc, h => by
    unfold lexR
    split
    · exact h
    · split
      · simp
      · split
        · simp
        · exact lexR_len cR bR s n _ _ (by simp; omega)
theorem rulesL_end {n : Int} {f : Nat} {l : List RuleS} {ts : List TokS} (h : l.isEmpty = false) (h2 : ts.isEmpty = true) : rulesL n f l ts = .ok l := by
  cases f with
  | zero => rfl
  | succ f => rw [rulesL, if_neg (by simp [h, h2])]
theorem rulesL_go {n : Int} {f : Nat} {l : List RuleS} {ts : List TokS} (hf : 0 < f) (h : l.isEmpty = true ∨ ts.isEmpty = false) {r : RuleS} {ts1 : List TokS} (hr : ruleR n l.length ts = .ok (r, ts1)) : rulesL n f l ts = rulesL n (f - 1) (l ++ [r]) ts1 := by
  obtain ⟨m, rfl⟩ : ∃ m, f = m + 1 := ⟨f - 1, by omega⟩
  rw [rulesL, if_pos h, hr]; rfl
theorem rulesL_bad {n : Int} {f : Nat} {l : List RuleS} {ts : List TokS} (hf : 0 < f) (h : l.isEmpty = true ∨ ts.isEmpty = false) {x : Err} (hr : ruleR n l.length ts = .error x) : rulesL n f l ts = .error x := by
  obtain ⟨m, rfl⟩ : ∃ m, f = m + 1 := ⟨f - 1, by omega⟩
  rw [rulesL, if_pos h, hr]

def FileAt (S : List Nat) (w : World) (f : FileS) (row : Array Value) : Prop := ∃ A C B D, row = #[.slice A f.keys.length C, .slice B f.rules.length D] ∧ SlOf StrRow S w 1 (.slice A f.keys.length C) f.keys ∧ SlOf RuleAt S w 9 (.slice B f.rules.length D) f.rules
def FilePost (S0 : List Nat) (w : World) (r : FileS × Int × Int) (e : Ending) (w' : World) : Prop :=
  Keep [] w w' ∧ ∃ row, e = .returned (.tuple #[.agg row, .int .i64 r.2.1, .int .i64 r.2.2]) ∧ FileAt S0 w' r.1 row
/-- What the walk of File knows at the head of a round. -/
def RulesAt (S0 : List Nat) (n : Int) (keys : List ByteArray) (kv : Value) (B : Nat) (x0 : Int) (w : World) (goal : Except Err (List RuleS)) (wr : World) : Prop :=
  ∃ (f : Nat) (l : List RuleS) (tr : List TokS) (v : Value), tr.length < f ∧ l.length + tr.length ≤ 600 + 1 ∧ tr.length ≤ 600 ∧ Rdr (ownB v ++ (B :: w.heap.size :: (w.heap.size + 1) :: (w.heap.size + 2) :: S0)) wr B tr n 0 ∧ SlOf StrRow (ownB v ++ (B :: w.heap.size :: (w.heap.size + 1) :: (w.heap.size + 2) :: S0)) wr 1 kv keys ∧
    OwnL RuleAt (B :: w.heap.size :: (w.heap.size + 1) :: (w.heap.size + 2) :: S0) wr (B + 1) 92 9 v l ∧ Blk wr w.heap.size #[kv, v] 63 ∧ Blk wr (w.heap.size + 1) #[.int .i64 x0] 3 ∧ Blk wr (w.heap.size + 2) #[.int .i64 0] 64 ∧ Keep [] w wr ∧ rulesL n f l tr = goal
theorem info_rule : (Tryz.prog.info? 92).map (fun i => (i.zero, i.size, i.bytes)) = some (some (.agg ruleZ), 9, 136) := by kernel_rfl

theorem file_leaves (tmps : Array Value) (F T X : Nat) (R : Ending → World → Prop) (W : World) (A B : Option Addr) (n c m d : Nat) (a e : Int) (h2 : tmps[2]? = some (.pointer (some ⟨F, 0, none⟩))) (h3 : tmps[3]? = some (.pointer (some ⟨T, 0, none⟩))) (h4 : tmps[4]? = some (.pointer (some ⟨X, 0, none⟩)))
    (hF : Blk W F #[.slice A n c, .slice B m d] 63) (hT : Blk W T #[.int .i64 a] 3) (hX : Blk W X #[.int .i64 e] 64) (hR : R (.returned (.tuple #[.agg #[.slice A n c, .slice B m d], .int .i64 a, .int .i64 e])) W) :
    Leaves Tryz.prog Tryz.f40 tmps R [] .returning W := by
  refine ⟨_, ?_, hR⟩
  have cF := hF.cell
  have cT := hT.cell
  have cX := hX.cell
  simp [results, Tryz.results40, go_sem, h2, h3, h4, cF, cT, cX]

set_option maxRecDepth 20000 in
set_option maxHeartbeats 4000000 in
theorem file_any (S0 : List Nat) (cR bR : ByteArray → Nat → WayR) (s : ByteArray) (hm : s.size ≤ 3000) (hC : SetsAt 70 91 cR s) (hB : SetsAt 71 60 bR s) (hcA : Ahead cR s) (hbA : Ahead bR s) (hok : ∀ x, parseR s.size (lexR cR bR s (s.size + 1) 0 []).1 ≠ .error x) (w : World) (hS0 : ∀ x ∈ S0, x < w.heap.size) :
    Calls Tryz.prog 40 #[.string s] w (FilePost S0 w (fileR cR bR s)) := by
  generalize hlx : lexR cR bR s (s.size + 1) 0 [] = lx
  obtain ⟨ts, a0, e0⟩ := lx
  have hts : ts.length ≤ 600 := by have := lexR_len cR bR s (s.size + 1) 0 [] (by simp); rw [hlx] at this; exact this
  rw [hlx] at hok
  simp only at hok
  generalize hres : fileR cR bR s = res
  simp only [fileR, hlx] at hres
  have HRES := Lib.hid hres; clear hres
  have BF := ((Blk.new w #[.slice none 0 0, .slice none 0 0] 63).alloc (.cells #[.int .i64 0] 3)).alloc (.cells #[.int .i64 0] 64)
  have BT := (Blk.new' (w.alloc (.cells #[.slice none 0 0, .slice none 0 0] 63)) #[.int .i64 0] 3 (b := w.heap.size + 1) (by simp)).alloc (.cells #[.int .i64 0] 64)
  have BX := Blk.new' ((w.alloc (.cells #[.slice none 0 0, .slice none 0 0] 63)).alloc (.cells #[.int .i64 0] 3)) #[.int .i64 0] 64 (b := w.heap.size + 2) (by simp)
  have K0 := (((Keep.refl [] w).alloc (.cells #[.slice none 0 0, .slice none 0 0] 63)).alloc (.cells #[.int .i64 0] 3)).alloc (.cells #[.int .i64 0] 64)
  have hmf : ∀ (fn : Fn) (first cap : Array Value) (w : World), (Instr.makeFunc fn first cap).run Tryz.prog w = .ok (.func fn first cap) w := fun _ _ _ _ => rfl
  have hHL := Lib.hid hlx; clear hlx
  go_enter_defers Tryz.func40, Tryz.ntmps40
  go_wp2_with fail
  refine (all_any (w.heap.size :: (w.heap.size + 1) :: (w.heap.size + 2) :: S0) cR bR s hm hC hB hcA hbA _ (fun x hx => by rcases List.mem_cons.1 hx with h | hx; (simp; omega); rcases List.mem_cons.1 hx with h | hx; (simp; omega); rcases List.mem_cons.1 hx with h | hx; (simp; omega); (have := hS0 x hx; simp; omega)) ts a0 e0 hHL.out).mono ?_
  rintro e w1 ⟨⟨v, rfl, hT⟩, K1⟩
  clear hHL
  have BF1 := BF.keep K1 (by simp)
  have BT1 := BT.keep K1 (by simp)
  have BX1 := BX.keep K1 (by simp)
  have KF1 := K0.trans K1
  clear BF BT BX K0 K1
  obtain ⟨A, C, rfl, _⟩ := SlOf.at hT
  rename_i hrest
  clear hrest
  have cF := BF1.cell
  have fF := BF1.frozen
  have cT := BT1.cell
  have fT := BT1.frozen
  have cX := BX1.cell
  have fX := BX1.frozen
  have lX := BX1.lt
  obtain ⟨x0, hx0⟩ : ∃ x : Int, x = (e0 : Int) := ⟨_, rfl⟩
  have KS := (((Keep.refl [w.heap.size + 1, w.heap.size + 2] w1).setCell (p := ⟨w.heap.size + 1, 0, none⟩) (by simp) (.int .i64 a0)).setCell (p := ⟨w.heap.size + 2, 0, none⟩) (by simp) (.int .i64 x0))
  have BF2 := BF1.keep KS (by simp)
  have BT2 : Blk ((w1.setCell ⟨w.heap.size + 1, 0, none⟩ (.int .i64 a0)).setCell ⟨w.heap.size + 2, 0, none⟩ (.int .i64 x0)) (w.heap.size + 1) #[.int .i64 a0] 3 := by simpa using (BT1.set 0 (.int .i64 a0)).setOther ⟨w.heap.size + 2, 0, none⟩ (by simp) (.int .i64 x0)
  have BX2 : Blk ((w1.setCell ⟨w.heap.size + 1, 0, none⟩ (.int .i64 a0)).setCell ⟨w.heap.size + 2, 0, none⟩ (.int .i64 x0)) (w.heap.size + 2) #[.int .i64 x0] 64 := by simpa using (BX1.setOther ⟨w.heap.size + 1, 0, none⟩ (by simp) (.int .i64 a0)).set 0 (.int .i64 x0)
  have KF2 := ((KF1.setCell (p := ⟨w.heap.size + 1, 0, none⟩) (.inr (by simp)) (.int .i64 a0)).setCell (p := ⟨w.heap.size + 2, 0, none⟩) (.inr (by simp)) (.int .i64 x0))
  have hT2 : Toks (w.heap.size :: (w.heap.size + 1) :: (w.heap.size + 2) :: S0) _ _ _ := SlOf.move hT tokRow_stab (by omega) KS (by simp) (fun x hx => .inl hx)
  by_cases he : e0 = 0
  · subst he
    obtain rfl : x0 = 0 := by omega
    clear hx0
    have heb : (((0 : Nat) : Int) == 0) = true := rfl
    have hres := HRES.out
    clear HRES
    simp only [if_true] at hres
    have HRES := Lib.hid hres; clear hres
    have K3 := (Keep.refl [] ((w1.setCell ⟨w.heap.size + 1, 0, none⟩ (.int .i64 a0)).setCell ⟨w.heap.size + 2, 0, none⟩ (.int .i64 0))).alloc (.cells #[.slice A ts.length C, .int .i64 s.size, .int .i64 0] 86)
    have hsz : ((w1.setCell ⟨w.heap.size + 1, 0, none⟩ (.int .i64 a0)).setCell ⟨w.heap.size + 2, 0, none⟩ (.int .i64 0)).heap.size = w1.heap.size := by simp [World.setCell]
    have R3 : Rdr (w1.heap.size :: w.heap.size :: (w.heap.size + 1) :: (w.heap.size + 2) :: S0) _ w1.heap.size ts s.size 0 := ⟨_, Blk.new' _ _ 86 hsz, SlOf.move hT2 tokRow_stab (by omega) K3 (by simp) (fun x hx => by rcases List.mem_cons.1 hx with rfl | h; exact .inr (by omega); exact .inl h)⟩
    have BF3 := BF2.alloc (.cells #[.slice A ts.length C, .int .i64 s.size, .int .i64 0] 86)
    have BT3 := BT2.alloc (.cells #[.slice A ts.length C, .int .i64 s.size, .int .i64 0] 86)
    have BX3 := BX2.alloc (.cells #[.slice A ts.length C, .int .i64 s.size, .int .i64 0] 86)
    have KF3 := KF2.alloc (.cells #[.slice A ts.length C, .int .i64 s.size, .int .i64 0] 86)
    have hS3 : ∀ x ∈ (w1.heap.size :: w.heap.size :: (w.heap.size + 1) :: (w.heap.size + 2) :: S0), x < (((w1.setCell ⟨w.heap.size + 1, 0, none⟩ (.int .i64 a0)).setCell ⟨w.heap.size + 2, 0, none⟩ (.int .i64 0)).alloc (.cells #[.slice A ts.length C, .int .i64 s.size, .int .i64 0] 86)).heap.size := by
      intro x hx
      have : (((w1.setCell ⟨w.heap.size + 1, 0, none⟩ (.int .i64 a0)).setCell ⟨w.heap.size + 2, 0, none⟩ (.int .i64 0)).alloc (.cells #[.slice A ts.length C, .int .i64 s.size, .int .i64 0] 86)).heap.size = w1.heap.size + 1 := by simp [World.setCell]
      rw [this]
      simp at hx
      have hw1 := KF1.size
      rcases hx with h | h | h | h | h
      · omega
      · omega
      · omega
      · omega
      · have := hS0 x h; omega
    go_wp2_with fail
    refine (keys_any (w1.heap.size :: w.heap.size :: (w.heap.size + 1) :: (w.heap.size + 2) :: S0) w1.heap.size ts s.size 0 _ R3 (by simp) hS3).mono ?_
    rintro e w4 ⟨K4, hP⟩
    have BF4 := BF3.keep K4 (by simp; omega)
    have BT4 := BT3.keep K4 (by simp; omega)
    have BX4 := BX3.keep K4 (by simp; omega)
    have KF4 := KF3.then K4 (by simp; have := KF1.size; omega)
    clear BF3 BT3 BX3 KF3 BF2 BT2 BX2 KF2 BF1 BT1 BX1 cF fF cT fT cX fX K3 R3 hT hT2 KS hsz
    have lX4 := BX4.lt
    cases hk : keysR s.size ts with
    | error x =>
      rw [hk] at hP
      simp only at hP
      subst hP
      have hres := HRES.out
      clear HRES
      simp only [parseR, hk] at hres
      have HRES := Lib.hid hres; clear hres
      unfold PanE
      go_wp2
      have hres := HRES.out
      subst hres
      refine leaves_cons (f := 51) (args := #[.pointer (some ⟨w.heap.size, 0, none⟩), .pointer (some ⟨w.heap.size + 1, 0, none⟩), .pointer (some ⟨w.heap.size + 2, 0, none⟩)]) (by simp) (by simp [go_sem]) ?_
      refine (catch_wrong w.heap.size (w.heap.size + 1) (w.heap.size + 2) x.1 x.2 _ _ _ _ _ BF4 BT4 BX4 (by omega) (by omega) (by omega)).mono ?_
      rintro e u' w5 ⟨rfl, rfl, K5, BF5, BT5, BX5⟩
      simp only [settle]
      refine file_leaves _ w.heap.size (w.heap.size + 1) (w.heap.size + 2) _ _ none none 0 0 0 0 x.2 x.1 rfl rfl rfl BF5 BT5 BX5 ⟨KF4.then K5 (by simp), _, rfl, none, 0, none, 0, rfl, SlOf.nil _ _ _, SlOf.nil _ _ _⟩
    | ok q =>
      obtain ⟨keys, ts1⟩ := q
      rw [hk] at hP
      obtain ⟨KA, KC, rfl, hkeys, R4⟩ := hP
      have hkl := keysR_len hk
      have hres := HRES.out
      clear HRES
      simp only [parseR, hk] at hres
      have HRES := Lib.hid hres; clear hres
      have cF := BF4.cell
      have fF := BF4.frozen
      have KS4 := (Keep.refl [w.heap.size] w4).setCell (p := ⟨w.heap.size, 0, none⟩) (by simp) (.slice KA keys.length KC)
      have BF5 : Blk (w4.setCell ⟨w.heap.size, 0, none⟩ (.slice KA keys.length KC)) w.heap.size #[.slice KA keys.length KC, .slice none 0 0] 63 := by simpa using BF4.set 0 (.slice KA keys.length KC)
      have BT5 := BT4.keep KS4 (by simp)
      have BX5 := BX4.keep KS4 (by simp)
      have KF5 := KF4.setCell (p := ⟨w.heap.size, 0, none⟩) (.inr (by simp)) (.slice KA keys.length KC)
      have R5 := R4.move (S' := ownB (.slice none 0 0) ++ (w1.heap.size :: w.heap.size :: (w.heap.size + 1) :: (w.heap.size + 2) :: S0)) KS4 (fun x hx => .inl (by simp at hx; subst hx; exact ⟨by simp, by omega⟩)) (fun x hx => .inl (by simpa [ownB, Value.ownBlock] using hx))
      have hk5 := SlOf.move (S' := ownB (.slice none 0 0) ++ (w1.heap.size :: w.heap.size :: (w.heap.size + 1) :: (w.heap.size + 2) :: S0)) hkeys strRow_stab (by omega) KS4 (by simp) (fun x hx => .inl (by simpa [ownB, Value.ownBlock] using hx))
      have hst : RulesAt S0 s.size keys (.slice KA keys.length KC) w1.heap.size a0 w (rulesL s.size (ts1.length + 1) [] ts1) (w4.setCell ⟨w.heap.size, 0, none⟩ (.slice KA keys.length KC)) :=
        ⟨_, [], ts1, .slice none 0 0, by omega, by simp; omega, by omega, R5, hk5, OwnL.nil _ _ _ _ _, BF5, BT5, BX5, KF5, rfl⟩
      have HST := Lib.hid hst; clear hst BF5 BT5 BX5 KF5 R5 hk5 BF4 BT4 BX4 KF4 R4 hkeys K4
      go_wp2
      go_loopw [] (fun wr => RulesAt S0 s.size keys (.slice KA keys.length KC) w1.heap.size a0 w (rulesL s.size (ts1.length + 1) [] ts1) wr) (fun wr => lenOf ((wr.cell? ⟨w1.heap.size, 0, none⟩).getD undef))
      case atStart => exact HST.out
      case round =>
        clear HST cF fF KS4
        obtain ⟨f, l, tr, v, hf, hl, htr, Hr, Hk, Hown, BF, BT, BX, Kr, hg⟩ := hrel
        have HG := Lib.hid hg; clear hg
        have HM := Lib.hid Hr.len
        obtain ⟨A5, C5, rfl⟩ := Hown.slice
        have HC := Hr
        obtain ⟨vT, hBr, hTr⟩ := HC
        obtain ⟨A6, C6, rfl, _⟩ := SlOf.at hTr
        have cF := BF.cell
        have fF := BF.frozen
        have cR := hBr.cell
        have lF := BF.lt
        have lR := hBr.lt
        clear hTr hBr
        by_cases hgo : l.isEmpty = true ∨ tr.isEmpty = false
        · have hcond : (((l.length : Int) == 0) = true) ∨ (((l.length : Int) == 0) = false ∧ (0 : Int) < (tr.length : Int)) := by
            cases l with
            | nil => exact .inl rfl
            | cons a l =>
              refine .inr ⟨by simp; omega, ?_⟩
              cases tr with
              | nil => simp at hgo
              | cons t tr => rw [List.length_cons]; omega
          have HGO := Lib.hid hgo; clear hgo
          have hSl : ∀ x ∈ ownB (.slice A5 l.length C5) ++ (w1.heap.size :: w.heap.size :: (w.heap.size + 1) :: (w.heap.size + 2) :: S0), x < wr.drew.heap.size := fun x hx => by
            have lX := BX.lt
            rcases List.mem_append.1 hx with h | h
            · exact (Hown.base x h).2
            · have : wr.drew.heap.size = wr.heap.size := rfl
              simp at h
              have hw2 := Kr.size
              rcases h with h | h | h | h | h
              · omega
              · omega
              · omega
              · omega
              · have := hS0 x h; omega
          have HR0 := Hr.move (S' := ownB (.slice A5 l.length C5) ++ (w1.heap.size :: w.heap.size :: (w.heap.size + 1) :: (w.heap.size + 2) :: S0)) ((Keep.refl [] _).drew) (by simp) (fun x hx => .inl hx)
          have hcall := rule_any (ownB (.slice A5 l.length C5) ++ (w1.heap.size :: w.heap.size :: (w.heap.size + 1) :: (w.heap.size + 2) :: S0)) w1.heap.size tr s.size 0 l.length wr.drew rfl htr HR0 (by simp) hSl
          cases hr : ruleR s.size l.length tr with
          | error x =>
            rw [hr] at hcall
            exfalso
            refine hok x ?_
            simp only [parseR, hk, ← HG.out, rulesL_bad (f := f) (by omega) HGO.out hr]
          | ok q =>
            obtain ⟨r, ts2⟩ := q
            rw [hr] at hcall
            have hrl := ruleR_len hr
            have hg := HG.out
            rw [rulesL_go (by omega) HGO.out hr] at hg
            have HG := Lib.hid hg; clear hg hr
            have HB := Lib.hid Hown.base
            have hbo : w1.heap.size ∉ ownB (.slice A5 l.length C5) := fun h => by have := (Hown.base _ h).1; omega
            have hFo : w.heap.size ∉ ownB (.slice A5 l.length C5) := fun h => by have := (Hown.base _ h).1; omega
            obtain ⟨i0, hi0, hz0, hz1, hz2⟩ := info_parts info_rule
            rcases hcond with hc | ⟨hc, hp⟩
            all_goals
              go_wp2
              refine wp_region_noPanic ?_
              go_region_law (first
                | (go_simp; go_at_call 53; refine hcall.mono ?_; rintro e w6 ⟨K6, row, rfl, hrow, R6⟩; obtain ⟨k, t, A', m, C', B', m', D, a, N, n', F, rfl, hp6, hn6⟩ := hrow; have BF6 := (BF.drew).keep K6 (by simp; omega); have cF6 := BF6.cell; have lF6 := BF6.lt; have fF6 := BF6.frozen; have K6' := ((Keep.refl [w1.heap.size] wr).drew).trans K6; have HO6 := Hown.move ruleAt_stab (S' := (w1.heap.size :: w.heap.size :: (w.heap.size + 1) :: (w.heap.size + 2) :: S0)) K6' (fun x hx => by simp at hx; subst hx; exact .inl ⟨by simp, hbo⟩) (fun x hx => .inl hx); obtain ⟨rows, hlr, hown, hel⟩ := HO6; have hsz6 := K6'.size; dsimp only)
                | (refine step_append_lies _ (by rfl) _ _ _ (by rfl) (w1.heap.size + 1) 92 i0 (.agg ruleZ) 9 136 Tryz.underlying61 hi0 hz0 hz1 hz2 rfl (by omega) (.slice A5 l.length C5) l.length _ (by rfl) (hown.alloc _) ⟨w6.heap.size, 0, none⟩ 1 1 [.string r.name, .int .i64 r.marks, .int .i64 k, .string t, .slice A' m C', .slice B' m' D, .int .i64 a, .slice N n' F, .int .i64 r.a] (by rfl) rfl (World.news_of_block (Blk.new' _ #[.string r.name, .int .i64 r.marks, .int .i64 k, .string t, .slice A' m C', .slice B' m' D, .int .i64 a, .slice N n' F, .int .i64 r.a] _ rfl)) (by simp [Value.oneCell']) (by decide) (by unfold maxLen; omega) (by omega) (by simp; omega) _ rfl ?_; intro g cap w7 O7 G7 W7 L7; have BF7 := Blk.grown (BF6.alloc _) G7 (fun e => hFo (mem_own e)); have cF7 := BF7.cell; have fF7 := BF7.frozen))
              all_goals
                have K67 := (Keep.refl [] w6).alloc (.cells #[.string r.name, .int .i64 r.marks, .int .i64 k, .string t, .slice A' m C', .slice B' m' D, .int .i64 a, .slice N n' F, .int .i64 r.a] 92)
                have hrow6 : RuleAt (ownB (.slice A5 l.length C5) ++ (w1.heap.size :: w.heap.size :: (w.heap.size + 1) :: (w.heap.size + 2) :: S0)) w6 r #[.string r.name, .int .i64 r.marks, .int .i64 k, .string t, .slice A' m C', .slice B' m' D, .int .i64 a, .slice N n' F, .int .i64 r.a] := ⟨k, t, A', m, C', B', m', D, a, N, n', F, rfl, hp6, hn6⟩
                have hap := OwnL.append rows hlr (fun i hi hi' => ⟨(hel i hi hi').1, ruleAt_stab _ _ _ _ _ _ _ (hel i hi hi').2 K67 (by simp) (fun x hx => .inl hx)⟩) ruleAt_stab (ruleAt_stab _ _ _ _ _ _ _ hrow6 K67 (by simp) (fun x hx => .inl hx)) rfl O7 G7 W7
                have R7 := (R6.move (S' := ownB (.slice A5 l.length C5) ++ (w1.heap.size :: w.heap.size :: (w.heap.size + 1) :: (w.heap.size + 2) :: S0)) K67 (by simp) (fun x hx => .inl hx)).grown (k := l.length + 1) (cap := cap) G7 W7 hbo
                have KG := Keep.ofGrown (v := .slice A5 l.length C5) G7
                have hk7 := SlOf.move (S' := ownB (.slice (some ⟨g, 0, none⟩) (l.length + 1) cap) ++ (w1.heap.size :: w.heap.size :: (w.heap.size + 1) :: (w.heap.size + 2) :: S0)) (SlOf.move (S' := ownB (.slice A5 l.length C5) ++ (w1.heap.size :: w.heap.size :: (w.heap.size + 1) :: (w.heap.size + 2) :: S0)) (SlOf.move (S' := ownB (.slice A5 l.length C5) ++ (w1.heap.size :: w.heap.size :: (w.heap.size + 1) :: (w.heap.size + 2) :: S0)) Hk strRow_stab (by omega) K6' (by simp) (fun x hx => .inl hx)) strRow_stab (by omega) K67 (by simp) (fun x hx => .inl hx)) strRow_stab (by omega) KG (fun x hx => .inl (by simp [hx])) (own_new W7)
                have BT7 := Blk.grown ((BT.keep K6' (by simp; omega)).alloc (.cells #[.string r.name, .int .i64 r.marks, .int .i64 k, .string t, .slice A' m C', .slice B' m' D, .int .i64 a, .slice N n' F, .int .i64 r.a] 92)) G7 (fun e => by have := (HB.out _ (mem_own e)).1; omega)
                have BX7 := Blk.grown ((BX.keep K6' (by simp; omega)).alloc (.cells #[.string r.name, .int .i64 r.marks, .int .i64 k, .string t, .slice A' m C', .slice B' m' D, .int .i64 a, .slice N n' F, .int .i64 r.a] 92)) G7 (fun e => by have := (HB.out _ (mem_own e)).1; omega)
                have hsw := KF1.size
                have K7 := ((Kr.then K6' (by simp; omega)).trans K67).grown G7 (fun x hx => .inr (by have := (HB.out x (mem_own hx)).1; omega))
                have KS := (Keep.refl [w.heap.size] w7).setCell (p := ⟨w.heap.size, 1, none⟩) (by simp) (.slice (some ⟨g, 0, none⟩) (l.length + 1) cap)
                have BF8 : Blk (w7.setCell ⟨w.heap.size, 1, none⟩ (.slice (some ⟨g, 0, none⟩) (l.length + 1) cap)) w.heap.size #[.slice KA keys.length KC, .slice (some ⟨g, 0, none⟩) (l.length + 1) cap] 63 := by simpa using BF7.set 1 (.slice (some ⟨g, 0, none⟩) (l.length + 1) cap)
                have hgF : w.heap.size ∉ ownB (.slice (some ⟨g, 0, none⟩) (l.length + 1) cap) := fun h => by
                  have h1 : w.heap.size = g := by simpa [ownB, Value.ownBlock, eq_comm] using h
                  rcases W7 with h2 | h2
                  · exact hFo (by rw [h1]; exact mem_own h2)
                  · simp at h2; omega
                have BT8 := BT7.keep KS (by simp)
                have BX8 := BX7.keep KS (by simp)
                have R8 := R7.move (S' := ownB (.slice (some ⟨g, 0, none⟩) (l.length + 1) cap) ++ (w1.heap.size :: w.heap.size :: (w.heap.size + 1) :: (w.heap.size + 2) :: S0)) KS (fun x hx => .inl (by simp at hx; subst hx; exact ⟨by simp, by omega⟩)) (fun x hx => .inl hx)
                have hk8 := SlOf.move (S' := ownB (.slice (some ⟨g, 0, none⟩) (l.length + 1) cap) ++ (w1.heap.size :: w.heap.size :: (w.heap.size + 1) :: (w.heap.size + 2) :: S0)) hk7 strRow_stab (by omega) KS (by simp) (fun x hx => .inl hx)
                have ho8 := hap.move ruleAt_stab (S' := (w1.heap.size :: w.heap.size :: (w.heap.size + 1) :: (w.heap.size + 2) :: S0)) KS (fun x hx => by simp at hx; subst hx; exact .inl ⟨by simp, hgF⟩) (fun x hx => .inl hx)
                have K8 := K7.setCell (p := ⟨w.heap.size, 1, none⟩) (.inr (by simp)) (.slice (some ⟨g, 0, none⟩) (l.length + 1) cap)
                refine NoPanic.normal ?_
                clear cF7 fF7 cF6 fF6 hel hown
                go_wp2
                refine ⟨⟨f - 1, l ++ [r], ts2, .slice (some ⟨g, 0, none⟩) (l.length + 1) cap, by omega, by simp; omega, by omega, R8, hk8, ho8, BF8, BT8, BX8, K8, HG.out⟩, ?_⟩
                rw [HM.out, R8.len]
                omega
        · have h1 : l.isEmpty = false := by cases h : l.isEmpty <;> simp_all
          have h2 : tr.isEmpty = true := by cases h : tr.isEmpty <;> simp_all
          have h1b : ((l.length : Int) == 0) = false := by
            cases l with
            | nil => simp at h1
            | cons a l => simp; omega
          have h2b : tr = [] := by simpa using h2
          subst h2b
          clear hgo
          have hres := HRES.out
          clear HRES
          rw [← HG.out, rulesL_end h1 h2] at hres
          simp only at hres
          have HRES := Lib.hid hres; clear hres h1 h2
          have cT := BT.cell
          have fT := BT.frozen
          have cX := BX.cell
          have fX := BX.frozen
          have lX := BX.lt
          have HL := (Hown.read (S' := []) ruleAt_stab (by simp) (by simp))
          have HKF := Hk.move (S' := []) strRow_stab (by omega) (Keep.refl [] _) (by simp) (by simp)
          go_wp2
          have hres := HRES.out
          subst hres
          refine leaves_cons (f := 51) (args := #[.pointer (some ⟨w.heap.size, 0, none⟩), .pointer (some ⟨w.heap.size + 1, 0, none⟩), .pointer (some ⟨w.heap.size + 2, 0, none⟩)]) (by simp) (by simp [go_sem]) ?_
          refine (catch_idle _ _ _ _).mono ?_
          rintro e u' w5 ⟨rfl, rfl, rfl⟩
          simp only [settle]
          have KE := ((((Keep.refl [w.heap.size, w.heap.size + 1, w.heap.size + 2] wr).setCell (p := ⟨w.heap.size, 0, none⟩) (by simp) (.slice KA keys.length KC)).setCell (p := ⟨w.heap.size, 1, none⟩) (by simp) (.slice A5 l.length C5)).setCell (p := ⟨w.heap.size + 1, 0, none⟩) (by simp) (.int .i64 s.size)).setCell (p := ⟨w.heap.size + 2, 0, none⟩) (by simp) (.int .i64 0)
          have hkF := SlOf.move (S' := S0) Hk strRow_stab (by omega) KE (by simp) (fun x hx => .inl (by simp [hx]))
          have hrF := SlOf.move (S' := S0) (Hown.read (S' := (w.heap.size :: (w.heap.size + 1) :: (w.heap.size + 2) :: S0)) ruleAt_stab (fun x hx => .inl (by simp at hx; simp [hx])) (fun x hx hx' => by have h1 := (Hown.base x hx).1; simp at hx'; have hw1 := KF1.size; rcases hx' with h | h | h | h; omega; omega; omega; have := hS0 x h; omega)) ruleAt_stab (by omega) KE (fun x hx => .inl (by simp at hx ⊢; rcases hx with h | h | h <;> simp [h])) (fun x hx => .inl (by simp [hx]))
          refine file_leaves _ w.heap.size (w.heap.size + 1) (w.heap.size + 2) _ _ KA A5 keys.length KC l.length C5 s.size 0 rfl rfl rfl ?_ ?_ ?_ ⟨?_, _, rfl, KA, KC, A5, C5, rfl, hkF, hrF⟩
          · simpa using (((BF.set 0 (.slice KA keys.length KC)).set 1 (.slice A5 l.length C5)).setOther ⟨w.heap.size + 1, 0, none⟩ (by simp) (.int .i64 s.size)).setOther ⟨w.heap.size + 2, 0, none⟩ (by simp) (.int .i64 0)
          · simpa using (((BT.setOther ⟨w.heap.size, 0, none⟩ (by simp) (.slice KA keys.length KC)).setOther ⟨w.heap.size, 1, none⟩ (by simp) (.slice A5 l.length C5)).set 0 (.int .i64 s.size)).setOther ⟨w.heap.size + 2, 0, none⟩ (by simp) (.int .i64 0)
          · simpa using (((BX.setOther ⟨w.heap.size, 0, none⟩ (by simp) (.slice KA keys.length KC)).setOther ⟨w.heap.size, 1, none⟩ (by simp) (.slice A5 l.length C5)).setOther ⟨w.heap.size + 1, 0, none⟩ (by simp) (.int .i64 s.size)).set 0 (.int .i64 0)
          · exact Kr.then KE (by simp)
  · subst hx0
    have heb : ((e0 : Int) == 0) = false := by simp; omega
    have hres := HRES.out
    clear HRES
    rw [if_neg he] at hres
    have HRES := Lib.hid hres; clear hres he
    go_wp2
    go_region
    go_wp2
    have hres := HRES.out
    subst hres
    refine file_leaves _ w.heap.size (w.heap.size + 1) (w.heap.size + 2) _ _ none none 0 0 0 0 a0 e0 rfl rfl rfl ?_ ?_ ?_ ⟨?_, _, rfl, none, 0, none, 0, rfl, SlOf.nil _ _ _, SlOf.nil _ _ _⟩
    · simpa using ((((BF2.set 0 (.slice none 0 0)).set 1 (.slice none 0 0)).setOther ⟨w.heap.size + 1, 0, none⟩ (by simp) (.int .i64 a0)).setOther ⟨w.heap.size + 2, 0, none⟩ (by simp) (.int .i64 e0)).drew
    · simpa using ((((BT2.setOther ⟨w.heap.size, 0, none⟩ (by simp) (.slice none 0 0)).setOther ⟨w.heap.size, 1, none⟩ (by simp) (.slice none 0 0)).set 0 (.int .i64 a0)).setOther ⟨w.heap.size + 2, 0, none⟩ (by simp) (.int .i64 e0)).drew
    · simpa using ((((BX2.setOther ⟨w.heap.size, 0, none⟩ (by simp) (.slice none 0 0)).setOther ⟨w.heap.size, 1, none⟩ (by simp) (.slice none 0 0)).setOther ⟨w.heap.size + 1, 0, none⟩ (by simp) (.int .i64 a0)).set 0 (.int .i64 e0)).drew
    · exact ((((KF2.setCell (.inr (by simp)) _).setCell (.inr (by simp)) _).setCell (.inr (by simp)) _).setCell (.inr (by simp; try omega)) _).drew
end Go.Proofs.YtkminfdblimiiaaGreatDoor
namespace Go.Proofs.YtkminfdblimiiaaGreatDoor
open Go Go.RowKit Go.MapKept

/-- No set is told. -/
def cN : ByteArray → Nat → WayR := fun _ _ => none
theorem cN_ahead (s : ByteArray) : Ahead cN s := fun i k t r j h => by simp [cN] at h
theorem cN_sets (f c0 : Nat) (s : ByteArray) (h : s.data.toList.all (fun b => b.toNat != c0) = true) : SetsAt f c0 cN s := by
  intro b i w hi _ hc
  exfalso
  have h1 := List.all_eq_true.1 h s[i] (by
    have : s[i] = s.data.toList[i]'(by simpa using hi) := rfl
    rw [this]
    exact List.getElem_mem _)
  simp at h1
  exact h1 hc
/-- What a text comes to, whose tokens and rules are known. -/
theorem file_known (S0 : List Nat) (s : ByteArray) (f : FileS) (w : World) (hS0 : ∀ x ∈ S0, x < w.heap.size) (hm : s.size ≤ 3000) (h1 : s.data.toList.all (fun b => b.toNat != 91) = true) (h2 : s.data.toList.all (fun b => b.toNat != 60) = true) (he : (lexR cN cN s (s.size + 1) 0 []).2.2 = 0) (hp : parseR s.size (lexR cN cN s (s.size + 1) 0 []).1 = .ok f) :
    Calls Tryz.prog 40 #[.string s] w fun e w' => Keep [] w w' ∧ ∃ row, e = .returned (.tuple #[.agg row, .int .i64 s.size, .int .i64 0]) ∧ FileAt S0 w' f row := by
  have h := file_any S0 cN cN s hm (cN_sets _ _ s h1) (cN_sets _ _ s h2) (cN_ahead s) (cN_ahead s) (fun x hx => by rw [hp] at hx; cases hx) w hS0
  have hr : fileR cN cN s = (f, (s.size : Int), 0) := by
    unfold fileR
    rw [if_pos he, hp]
  rw [hr] at h
  exact h
def t11a : ByteArray := ⟨#[97, 32, 61, 32, 34, 120, 34, 59, 32, 98, 32, 61, 32, 97, 59]⟩
def f11a : FileS := ⟨[], [⟨⟨#[97]⟩, 0, .mk 1 ⟨#[120]⟩ [] [] 4, [], 0⟩, ⟨⟨#[98]⟩, 0, .mk 0 ⟨#[97]⟩ [] [] 13, [], 9⟩]⟩
def t11b : ByteArray := ⟨#[97, 32, 61, 32, 97, 32, 34, 120, 34, 59]⟩
theorem l11a : lexR cN cN t11a (t11a.size + 1) 0 [] = ([⟨0, ⟨#[97]⟩, [], 0⟩, ⟨4, ⟨#[61]⟩, [], 2⟩, ⟨1, ⟨#[120]⟩, [], 4⟩, ⟨4, ⟨#[59]⟩, [], 7⟩, ⟨0, ⟨#[98]⟩, [], 9⟩, ⟨4, ⟨#[61]⟩, [], 11⟩, ⟨0, ⟨#[97]⟩, [], 13⟩, ⟨4, ⟨#[59]⟩, [], 14⟩], 15, 0) := by kernel_rfl
theorem p11a : parseR t11a.size (lexR cN cN t11a (t11a.size + 1) 0 []).1 = .ok f11a := by kernel_rfl
end Go.Proofs.YtkminfdblimiiaaGreatDoor
