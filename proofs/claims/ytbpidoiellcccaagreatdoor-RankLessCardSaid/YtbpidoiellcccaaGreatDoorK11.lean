/- A grammar's text is read. -/
import Derived.Test.YtbpidoiellcccaaGreatDoorK10
import Derived.Test.YtbpidoiellcccaaGreatDoorK7
import Derived.Deep.RegionLaw
import Derived.Test.YtbpidoiellcccaaGreatDoorK9
import Derived.BigQuiet
set_option linter.unusedVariables false
set_option linter.unusedSimpArgs false
namespace Go.Proofs.YtbpidoiellcccaaGreatDoor
open Go Go.RowKit Go.MapKept

def rulesL (n : Int) : Nat → List RuleS → List TokS → Except Err (List RuleS)
  | 0, l, _ => .ok l
  | f + 1, l, ts => if l.isEmpty = true ∨ ts.isEmpty = false then (match ruleR n l.length ts with
    | .error x => .error x
    | .ok (r, ts1) => rulesL n f (l ++ [r]) ts1) else .ok l
structure FileS where
  keys : List ByteArray
  rules : List RuleS
def parseR (n : Int) (ts : List TokS) : Except Err FileS := match keysR n ts with
  | .error x => .error x
  | .ok (k, ts1) => match rulesL n (ts1.length + 1) [] ts1 with
    | .error x => .error x
    | .ok l => .ok ⟨k, l⟩
/-- A grammar of a text: what File hands back. -/
def fileR (cR bR : ByteArray → Nat → WayR) (s : ByteArray) : FileS × Int × Int :=
  if (lexR cR bR s (s.size + 1) 0 []).2.2 = 0 then (match parseR s.size (lexR cR bR s (s.size + 1) 0 []).1 with
    | .error x => (⟨[], []⟩, x.2, x.1)
    | .ok f => (f, s.size, 0)) else (⟨[], []⟩, (lexR cR bR s (s.size + 1) 0 []).2.1, (lexR cR bR s (s.size + 1) 0 []).2.2)
theorem lexR_len (cR bR : ByteArray → Nat → WayR) (s : ByteArray) : ∀ (n i : Nat) (acc : List TokS), acc.length ≤ 600 → (lexR cR bR s n i acc).1.length ≤ 600
  | 0, i, acc, h => by simp [lexR]
  | n + 1, i, acc, h => by
    unfold lexR
    split
    · exact h
    · split
      · simp
      · split
        · simp
        · exact lexR_len cR bR s n _ _ (by simp; omega)
theorem rulesL_end {n : Int} {f : Nat} {l : List RuleS} {ts : List TokS} (h : l.isEmpty = false) (h2 : ts.isEmpty = true) : rulesL n f l ts = .ok l := by
  cases f with
  | zero => rfl
  | succ f => rw [rulesL, if_neg (by simp [h, h2])]
theorem rulesL_go {n : Int} {f : Nat} {l : List RuleS} {ts : List TokS} (hf : 0 < f) (h : l.isEmpty = true ∨ ts.isEmpty = false) {r : RuleS} {ts1 : List TokS} (hr : ruleR n l.length ts = .ok (r, ts1)) : rulesL n f l ts = rulesL n (f - 1) (l ++ [r]) ts1 := by
  obtain ⟨m, rfl⟩ : ∃ m, f = m + 1 := ⟨f - 1, by omega⟩
  rw [rulesL, if_pos h, hr]; rfl
theorem rulesL_bad {n : Int} {f : Nat} {l : List RuleS} {ts : List TokS} (hf : 0 < f) (h : l.isEmpty = true ∨ ts.isEmpty = false) {x : Err} (hr : ruleR n l.length ts = .error x) : rulesL n f l ts = .error x := by
  obtain ⟨m, rfl⟩ : ∃ m, f = m + 1 := ⟨f - 1, by omega⟩
  rw [rulesL, if_pos h, hr]

def FileAt (S : List Nat) (w : World) (f : FileS) (row : Array Value) : Prop := ∃ A C B D, row = #[.slice A f.keys.length C, .slice B f.rules.length D] ∧ SlOf StrRow S w 1 (.slice A f.keys.length C) f.keys ∧ SlOf RuleAt S w 9 (.slice B f.rules.length D) f.rules
def FilePost (S0 : List Nat) (w : World) (r : FileS × Int × Int) (e : Ending) (w' : World) : Prop :=
  Keep [] w w' ∧ ∃ row, e = .returned (.tuple #[.agg row, .int .i64 r.2.1, .int .i64 r.2.2]) ∧ FileAt S0 w' r.1 row
/-- What the walk of File knows at the head of a round. -/
def RulesAt (S0 : List Nat) (n : Int) (keys : List ByteArray) (kv : Value) (B : Nat) (x0 : Int) (w : World) (goal : Except Err (List RuleS)) (wr : World) : Prop :=
  ∃ (f : Nat) (l : List RuleS) (tr : List TokS) (v : Value), tr.length < f ∧ l.length + tr.length ≤ 600 + 1 ∧ tr.length ≤ 600 ∧ Rdr (ownB v ++ (B :: w.heap.size :: (w.heap.size + 1) :: (w.heap.size + 2) :: S0)) wr B tr n 0 ∧ SlOf StrRow (ownB v ++ (B :: w.heap.size :: (w.heap.size + 1) :: (w.heap.size + 2) :: S0)) wr 1 kv keys ∧
    OwnL RuleAt (B :: w.heap.size :: (w.heap.size + 1) :: (w.heap.size + 2) :: S0) wr (B + 1) 87 9 v l ∧ Blk wr w.heap.size #[kv, v] 49 ∧ Blk wr (w.heap.size + 1) #[.int .i64 x0] 3 ∧ Blk wr (w.heap.size + 2) #[.int .i64 0] 50 ∧ Keep [] w wr ∧ rulesL n f l tr = goal
theorem info_rule : (Tryz.prog.info? 87).map (fun i => (i.zero, i.size, i.bytes)) = some (some (.agg ruleZ), 9, 136) := by kernel_rfl

theorem file_leaves (tmps : Array Value) (F T X : Nat) (R : Ending → World → Prop) (W : World) (A B : Option Addr) (n c m d : Nat) (a e : Int) (h2 : tmps[2]? = some (.pointer (some ⟨F, 0, none⟩))) (h3 : tmps[3]? = some (.pointer (some ⟨T, 0, none⟩))) (h4 : tmps[4]? = some (.pointer (some ⟨X, 0, none⟩)))
    (hF : Blk W F #[.slice A n c, .slice B m d] 49) (hT : Blk W T #[.int .i64 a] 3) (hX : Blk W X #[.int .i64 e] 50) (hR : R (.returned (.tuple #[.agg #[.slice A n c, .slice B m d], .int .i64 a, .int .i64 e])) W) :
    Leaves Tryz.prog Tryz.f20 tmps R [] .returning W := by
  refine ⟨_, ?_, hR⟩
  have cF := hF.cell
  have cT := hT.cell
  have cX := hX.cell
  simp [results, Tryz.results20, go_sem, h2, h3, h4, cF, cT, cX]

set_option maxRecDepth 20000 in
set_option maxHeartbeats 4000000 in
theorem file_any (S0 : List Nat) (cR bR : ByteArray → Nat → WayR) (s : ByteArray) (hm : s.size ≤ 3000) (hC : SetsAt 91 91 cR s) (hB : SetsAt 92 60 bR s) (hcA : Ahead cR s) (hbA : Ahead bR s) (hok : ∀ x, parseR s.size (lexR cR bR s (s.size + 1) 0 []).1 ≠ .error x) (w : World) (hS0 : ∀ x ∈ S0, x < w.heap.size) :
    Calls Tryz.prog 20 #[.string s] w (FilePost S0 w (fileR cR bR s)) := by
  generalize hlx : lexR cR bR s (s.size + 1) 0 [] = lx
  obtain ⟨ts, a0, e0⟩ := lx
  have hts : ts.length ≤ 600 := by have := lexR_len cR bR s (s.size + 1) 0 [] (by simp); rw [hlx] at this; exact this
  rw [hlx] at hok
  simp only at hok
  generalize hres : fileR cR bR s = res
  simp only [fileR, hlx] at hres
  have HRES := Lib.hid hres; clear hres
  have BF := ((Blk.new w #[.slice none 0 0, .slice none 0 0] 49).alloc (.cells #[.int .i64 0] 3)).alloc (.cells #[.int .i64 0] 50)
  have BT := (Blk.new' (w.alloc (.cells #[.slice none 0 0, .slice none 0 0] 49)) #[.int .i64 0] 3 (b := w.heap.size + 1) (by simp)).alloc (.cells #[.int .i64 0] 50)
  have BX := Blk.new' ((w.alloc (.cells #[.slice none 0 0, .slice none 0 0] 49)).alloc (.cells #[.int .i64 0] 3)) #[.int .i64 0] 50 (b := w.heap.size + 2) (by simp)
  have K0 := (((Keep.refl [] w).alloc (.cells #[.slice none 0 0, .slice none 0 0] 49)).alloc (.cells #[.int .i64 0] 3)).alloc (.cells #[.int .i64 0] 50)
  have hmf : ∀ (fn : Fn) (first cap : Array Value) (w : World), (Instr.makeFunc fn first cap).run Tryz.prog w = .ok (.func fn first cap) w := fun _ _ _ _ => rfl
  have hHL := Lib.hid hlx; clear hlx
  go_enter_defers Tryz.func20, Tryz.ntmps20
  go_wp2_with fail
  refine (all_any (w.heap.size :: (w.heap.size + 1) :: (w.heap.size + 2) :: S0) cR bR s hm hC hB hcA hbA _ (fun x hx => by rcases List.mem_cons.1 hx with h | hx; (simp; omega); rcases List.mem_cons.1 hx with h | hx; (simp; omega); rcases List.mem_cons.1 hx with h | hx; (simp; omega); (have := hS0 x hx; simp; omega)) ts a0 e0 hHL.out).mono ?_
  rintro e w1 ⟨⟨v, rfl, hT⟩, K1⟩
  clear hHL
  have BF1 := BF.keep K1 (by simp)
  have BT1 := BT.keep K1 (by simp)
  have BX1 := BX.keep K1 (by simp)
  have KF1 := K0.trans K1
  clear BF BT BX K0 K1
  obtain ⟨A, C, rfl, _⟩ := SlOf.at hT
  rename_i hrest
  clear hrest
  have cF := BF1.cell
  have fF := BF1.frozen
  have cT := BT1.cell
  have fT := BT1.frozen
  have cX := BX1.cell
  have fX := BX1.frozen
  have lX := BX1.lt
  obtain ⟨x0, hx0⟩ : ∃ x : Int, x = (e0 : Int) := ⟨_, rfl⟩
  have KS := (((Keep.refl [w.heap.size + 1, w.heap.size + 2] w1).setCell (p := ⟨w.heap.size + 1, 0, none⟩) (by simp) (.int .i64 a0)).setCell (p := ⟨w.heap.size + 2, 0, none⟩) (by simp) (.int .i64 x0))
  have BF2 := BF1.keep KS (by simp)
  have BT2 : Blk ((w1.setCell ⟨w.heap.size + 1, 0, none⟩ (.int .i64 a0)).setCell ⟨w.heap.size + 2, 0, none⟩ (.int .i64 x0)) (w.heap.size + 1) #[.int .i64 a0] 3 := by simpa using (BT1.set 0 (.int .i64 a0)).setOther ⟨w.heap.size + 2, 0, none⟩ (by simp) (.int .i64 x0)
  have BX2 : Blk ((w1.setCell ⟨w.heap.size + 1, 0, none⟩ (.int .i64 a0)).setCell ⟨w.heap.size + 2, 0, none⟩ (.int .i64 x0)) (w.heap.size + 2) #[.int .i64 x0] 50 := by simpa using (BX1.setOther ⟨w.heap.size + 1, 0, none⟩ (by simp) (.int .i64 a0)).set 0 (.int .i64 x0)
  have KF2 := ((KF1.setCell (p := ⟨w.heap.size + 1, 0, none⟩) (.inr (by simp)) (.int .i64 a0)).setCell (p := ⟨w.heap.size + 2, 0, none⟩) (.inr (by simp)) (.int .i64 x0))
  have hT2 : Toks (w.heap.size :: (w.heap.size + 1) :: (w.heap.size + 2) :: S0) _ _ _ := SlOf.move hT tokRow_stab (by omega) KS (by simp) (fun x hx => .inl hx)
  by_cases he : e0 = 0
  · subst he
    obtain rfl : x0 = 0 := by omega
    clear hx0
    have heb : (((0 : Nat) : Int) == 0) = true := rfl
    have hres := HRES.out
    clear HRES
    simp only [if_true] at hres
    have HRES := Lib.hid hres; clear hres
    have K3 := (Keep.refl [] ((w1.setCell ⟨w.heap.size + 1, 0, none⟩ (.int .i64 a0)).setCell ⟨w.heap.size + 2, 0, none⟩ (.int .i64 0))).alloc (.cells #[.slice A ts.length C, .int .i64 s.size, .int .i64 0] 81)
    have hsz : ((w1.setCell ⟨w.heap.size + 1, 0, none⟩ (.int .i64 a0)).setCell ⟨w.heap.size + 2, 0, none⟩ (.int .i64 0)).heap.size = w1.heap.size := by simp [World.setCell]
    have R3 : Rdr (w1.heap.size :: w.heap.size :: (w.heap.size + 1) :: (w.heap.size + 2) :: S0) _ w1.heap.size ts s.size 0 := ⟨_, Blk.new' _ _ 81 hsz, SlOf.move hT2 tokRow_stab (by omega) K3 (by simp) (fun x hx => by rcases List.mem_cons.1 hx with rfl | h; exact .inr (by omega); exact .inl h)⟩
    have BF3 := BF2.alloc (.cells #[.slice A ts.length C, .int .i64 s.size, .int .i64 0] 81)
    have BT3 := BT2.alloc (.cells #[.slice A ts.length C, .int .i64 s.size, .int .i64 0] 81)
    have BX3 := BX2.alloc (.cells #[.slice A ts.length C, .int .i64 s.size, .int .i64 0] 81)
    have KF3 := KF2.alloc (.cells #[.slice A ts.length C, .int .i64 s.size, .int .i64 0] 81)
    have hS3 : ∀ x ∈ (w1.heap.size :: w.heap.size :: (w.heap.size + 1) :: (w.heap.size + 2) :: S0), x < (((w1.setCell ⟨w.heap.size + 1, 0, none⟩ (.int .i64 a0)).setCell ⟨w.heap.size + 2, 0, none⟩ (.int .i64 0)).alloc (.cells #[.slice A ts.length C, .int .i64 s.size, .int .i64 0] 81)).heap.size := by
      intro x hx
      have : (((w1.setCell ⟨w.heap.size + 1, 0, none⟩ (.int .i64 a0)).setCell ⟨w.heap.size + 2, 0, none⟩ (.int .i64 0)).alloc (.cells #[.slice A ts.length C, .int .i64 s.size, .int .i64 0] 81)).heap.size = w1.heap.size + 1 := by simp [World.setCell]
      rw [this]
      simp at hx
      have hw1 := KF1.size
      rcases hx with h | h | h | h | h
      · omega
      · omega
      · omega
      · omega
      · have := hS0 x h; omega
    go_wp2_with fail
    refine (keys_any (w1.heap.size :: w.heap.size :: (w.heap.size + 1) :: (w.heap.size + 2) :: S0) w1.heap.size ts s.size 0 _ R3 (by simp) hS3).mono ?_
    rintro e w4 ⟨K4, hP⟩
    have BF4 := BF3.keep K4 (by simp; omega)
    have BT4 := BT3.keep K4 (by simp; omega)
    have BX4 := BX3.keep K4 (by simp; omega)
    have KF4 := KF3.then K4 (by simp; have := KF1.size; omega)
    clear BF3 BT3 BX3 KF3 BF2 BT2 BX2 KF2 BF1 BT1 BX1 cF fF cT fT cX fX K3 R3 hT hT2 KS hsz
    have lX4 := BX4.lt
    cases hk : keysR s.size ts with
    | error x =>
      rw [hk] at hP
      simp only at hP
      subst hP
      have hres := HRES.out
      clear HRES
      simp only [parseR, hk] at hres
      have HRES := Lib.hid hres; clear hres
      unfold PanE
      go_wp2
      have hres := HRES.out
      subst hres
      refine leaves_cons (f := 43) (args := #[.pointer (some ⟨w.heap.size, 0, none⟩), .pointer (some ⟨w.heap.size + 1, 0, none⟩), .pointer (some ⟨w.heap.size + 2, 0, none⟩)]) (by simp) (by simp [go_sem]) ?_
      refine (catch_wrong w.heap.size (w.heap.size + 1) (w.heap.size + 2) x.1 x.2 _ _ _ _ _ BF4 BT4 BX4 (by omega) (by omega) (by omega)).mono ?_
      rintro e u' w5 ⟨rfl, rfl, K5, BF5, BT5, BX5⟩
      simp only [settle]
      refine file_leaves _ w.heap.size (w.heap.size + 1) (w.heap.size + 2) _ _ none none 0 0 0 0 x.2 x.1 rfl rfl rfl BF5 BT5 BX5 ⟨KF4.then K5 (by simp), _, rfl, none, 0, none, 0, rfl, SlOf.nil _ _ _, SlOf.nil _ _ _⟩
    | ok q =>
      obtain ⟨keys, ts1⟩ := q
      rw [hk] at hP
      obtain ⟨KA, KC, rfl, hkeys, R4⟩ := hP
      have hkl := keysR_len hk
      have hres := HRES.out
      clear HRES
      simp only [parseR, hk] at hres
      have HRES := Lib.hid hres; clear hres
      have cF := BF4.cell
      have fF := BF4.frozen
      have KS4 := (Keep.refl [w.heap.size] w4).setCell (p := ⟨w.heap.size, 0, none⟩) (by simp) (.slice KA keys.length KC)
      have BF5 : Blk (w4.setCell ⟨w.heap.size, 0, none⟩ (.slice KA keys.length KC)) w.heap.size #[.slice KA keys.length KC, .slice none 0 0] 49 := by simpa using BF4.set 0 (.slice KA keys.length KC)
      have BT5 := BT4.keep KS4 (by simp)
      have BX5 := BX4.keep KS4 (by simp)
      have KF5 := KF4.setCell (p := ⟨w.heap.size, 0, none⟩) (.inr (by simp)) (.slice KA keys.length KC)
      have R5 := R4.move (S' := ownB (.slice none 0 0) ++ (w1.heap.size :: w.heap.size :: (w.heap.size + 1) :: (w.heap.size + 2) :: S0)) KS4 (fun x hx => .inl (by simp at hx; subst hx; exact ⟨by simp, by omega⟩)) (fun x hx => .inl (by simpa [ownB, Value.ownBlock] using hx))
      have hk5 := SlOf.move (S' := ownB (.slice none 0 0) ++ (w1.heap.size :: w.heap.size :: (w.heap.size + 1) :: (w.heap.size + 2) :: S0)) hkeys strRow_stab (by omega) KS4 (by simp) (fun x hx => .inl (by simpa [ownB, Value.ownBlock] using hx))
      have hst : RulesAt S0 s.size keys (.slice KA keys.length KC) w1.heap.size a0 w (rulesL s.size (ts1.length + 1) [] ts1) (w4.setCell ⟨w.heap.size, 0, none⟩ (.slice KA keys.length KC)) :=
        ⟨_, [], ts1, .slice none 0 0, by omega, by simp; omega, by omega, R5, hk5, OwnL.nil _ _ _ _ _, BF5, BT5, BX5, KF5, rfl⟩
      have HST := Lib.hid hst; clear hst BF5 BT5 BX5 KF5 R5 hk5 BF4 BT4 BX4 KF4 R4 hkeys K4
      go_wp2
      go_loopw [] (fun wr => RulesAt S0 s.size keys (.slice KA keys.length KC) w1.heap.size a0 w (rulesL s.size (ts1.length + 1) [] ts1) wr) (fun wr => lenOf ((wr.cell? ⟨w1.heap.size, 0, none⟩).getD undef))
      case atStart => exact HST.out
      case round =>
        clear HST cF fF KS4
        obtain ⟨f, l, tr, v, hf, hl, htr, Hr, Hk, Hown, BF, BT, BX, Kr, hg⟩ := hrel
        have HG := Lib.hid hg; clear hg
        have HM := Lib.hid Hr.len
        obtain ⟨A5, C5, rfl⟩ := Hown.slice
        have HC := Hr
        obtain ⟨vT, hBr, hTr⟩ := HC
        obtain ⟨A6, C6, rfl, _⟩ := SlOf.at hTr
        have cF := BF.cell
        have fF := BF.frozen
        have cR := hBr.cell
        have lF := BF.lt
        have lR := hBr.lt
        clear hTr hBr
        by_cases hgo : l.isEmpty = true ∨ tr.isEmpty = false
        · have hcond : (((l.length : Int) == 0) = true) ∨ (((l.length : Int) == 0) = false ∧ (0 : Int) < (tr.length : Int)) := by
            cases l with
            | nil => exact .inl rfl
            | cons a l =>
              refine .inr ⟨by simp; omega, ?_⟩
              cases tr with
              | nil => simp at hgo
              | cons t tr => rw [List.length_cons]; omega
          have HGO := Lib.hid hgo; clear hgo
          have hSl : ∀ x ∈ ownB (.slice A5 l.length C5) ++ (w1.heap.size :: w.heap.size :: (w.heap.size + 1) :: (w.heap.size + 2) :: S0), x < wr.drew.heap.size := fun x hx => by
            have lX := BX.lt
            rcases List.mem_append.1 hx with h | h
            · exact (Hown.base x h).2
            · have : wr.drew.heap.size = wr.heap.size := rfl
              simp at h
              have hw2 := Kr.size
              rcases h with h | h | h | h | h
              · omega
              · omega
              · omega
              · omega
              · have := hS0 x h; omega
          have HR0 := Hr.move (S' := ownB (.slice A5 l.length C5) ++ (w1.heap.size :: w.heap.size :: (w.heap.size + 1) :: (w.heap.size + 2) :: S0)) ((Keep.refl [] _).drew) (by simp) (fun x hx => .inl hx)
          have hcall := rule_any (ownB (.slice A5 l.length C5) ++ (w1.heap.size :: w.heap.size :: (w.heap.size + 1) :: (w.heap.size + 2) :: S0)) w1.heap.size tr s.size 0 l.length wr.drew rfl htr HR0 (by simp) hSl
          cases hr : ruleR s.size l.length tr with
          | error x =>
            rw [hr] at hcall
            exfalso
            refine hok x ?_
            simp only [parseR, hk, ← HG.out, rulesL_bad (f := f) (by omega) HGO.out hr]
          | ok q =>
            obtain ⟨r, ts2⟩ := q
            rw [hr] at hcall
            have hrl := ruleR_len hr
            have hg := HG.out
            rw [rulesL_go (by omega) HGO.out hr] at hg
            have HG := Lib.hid hg; clear hg hr
            have HB := Lib.hid Hown.base
            have hbo : w1.heap.size ∉ ownB (.slice A5 l.length C5) := fun h => by have := (Hown.base _ h).1; omega
            have hFo : w.heap.size ∉ ownB (.slice A5 l.length C5) := fun h => by have := (Hown.base _ h).1; omega
            obtain ⟨i0, hi0, hz0, hz1, hz2⟩ := info_parts info_rule
            rcases hcond with hc | ⟨hc, hp⟩
            all_goals
              go_wp2
              refine wp_region_noPanic ?_
              go_region_law (first
                | (go_simp; go_at_call 45; refine hcall.mono ?_; rintro e w6 ⟨K6, row, rfl, hrow, R6⟩; obtain ⟨k, t, A', m, C', B', m', D, a, N, n', F, rfl, hp6, hn6⟩ := hrow; have BF6 := (BF.drew).keep K6 (by simp; omega); have cF6 := BF6.cell; have lF6 := BF6.lt; have fF6 := BF6.frozen; have K6' := ((Keep.refl [w1.heap.size] wr).drew).trans K6; have HO6 := Hown.move ruleAt_stab (S' := (w1.heap.size :: w.heap.size :: (w.heap.size + 1) :: (w.heap.size + 2) :: S0)) K6' (fun x hx => by simp at hx; subst hx; exact .inl ⟨by simp, hbo⟩) (fun x hx => .inl hx); obtain ⟨rows, hlr, hown, hel⟩ := HO6; have hsz6 := K6'.size; dsimp only)
                | (refine step_append_lies _ (by rfl) _ _ _ (by rfl) (w1.heap.size + 1) 87 i0 (.agg ruleZ) 9 136 Tryz.underlying47 hi0 hz0 hz1 hz2 rfl (by omega) (.slice A5 l.length C5) l.length _ (by rfl) (hown.alloc _) ⟨w6.heap.size, 0, none⟩ 1 1 [.string r.name, .int .i64 r.marks, .int .i64 k, .string t, .slice A' m C', .slice B' m' D, .int .i64 a, .slice N n' F, .int .i64 r.a] (by rfl) rfl (World.news_of_block (Blk.new' _ #[.string r.name, .int .i64 r.marks, .int .i64 k, .string t, .slice A' m C', .slice B' m' D, .int .i64 a, .slice N n' F, .int .i64 r.a] _ rfl)) (by simp [Value.oneCell']) (by decide) (by unfold maxLen; omega) (by omega) (by simp; omega) _ rfl ?_; intro g cap w7 O7 G7 W7 L7; have BF7 := Blk.grown (BF6.alloc _) G7 (fun e => hFo (mem_own e)); have cF7 := BF7.cell; have fF7 := BF7.frozen))
              all_goals
                have K67 := (Keep.refl [] w6).alloc (.cells #[.string r.name, .int .i64 r.marks, .int .i64 k, .string t, .slice A' m C', .slice B' m' D, .int .i64 a, .slice N n' F, .int .i64 r.a] 87)
                have hrow6 : RuleAt (ownB (.slice A5 l.length C5) ++ (w1.heap.size :: w.heap.size :: (w.heap.size + 1) :: (w.heap.size + 2) :: S0)) w6 r #[.string r.name, .int .i64 r.marks, .int .i64 k, .string t, .slice A' m C', .slice B' m' D, .int .i64 a, .slice N n' F, .int .i64 r.a] := ⟨k, t, A', m, C', B', m', D, a, N, n', F, rfl, hp6, hn6⟩
                have hap := OwnL.append rows hlr (fun i hi hi' => ⟨(hel i hi hi').1, ruleAt_stab _ _ _ _ _ _ _ (hel i hi hi').2 K67 (by simp) (fun x hx => .inl hx)⟩) ruleAt_stab (ruleAt_stab _ _ _ _ _ _ _ hrow6 K67 (by simp) (fun x hx => .inl hx)) rfl O7 G7 W7
                have R7 := (R6.move (S' := ownB (.slice A5 l.length C5) ++ (w1.heap.size :: w.heap.size :: (w.heap.size + 1) :: (w.heap.size + 2) :: S0)) K67 (by simp) (fun x hx => .inl hx)).grown (k := l.length + 1) (cap := cap) G7 W7 hbo
                have KG := Keep.ofGrown (v := .slice A5 l.length C5) G7
                have hk7 := SlOf.move (S' := ownB (.slice (some ⟨g, 0, none⟩) (l.length + 1) cap) ++ (w1.heap.size :: w.heap.size :: (w.heap.size + 1) :: (w.heap.size + 2) :: S0)) (SlOf.move (S' := ownB (.slice A5 l.length C5) ++ (w1.heap.size :: w.heap.size :: (w.heap.size + 1) :: (w.heap.size + 2) :: S0)) (SlOf.move (S' := ownB (.slice A5 l.length C5) ++ (w1.heap.size :: w.heap.size :: (w.heap.size + 1) :: (w.heap.size + 2) :: S0)) Hk strRow_stab (by omega) K6' (by simp) (fun x hx => .inl hx)) strRow_stab (by omega) K67 (by simp) (fun x hx => .inl hx)) strRow_stab (by omega) KG (fun x hx => .inl (by simp [hx])) (own_new W7)
                have BT7 := Blk.grown ((BT.keep K6' (by simp; omega)).alloc (.cells #[.string r.name, .int .i64 r.marks, .int .i64 k, .string t, .slice A' m C', .slice B' m' D, .int .i64 a, .slice N n' F, .int .i64 r.a] 87)) G7 (fun e => by have := (HB.out _ (mem_own e)).1; omega)
                have BX7 := Blk.grown ((BX.keep K6' (by simp; omega)).alloc (.cells #[.string r.name, .int .i64 r.marks, .int .i64 k, .string t, .slice A' m C', .slice B' m' D, .int .i64 a, .slice N n' F, .int .i64 r.a] 87)) G7 (fun e => by have := (HB.out _ (mem_own e)).1; omega)
                have hsw := KF1.size
                have K7 := ((Kr.then K6' (by simp; omega)).trans K67).grown G7 (fun x hx => .inr (by have := (HB.out x (mem_own hx)).1; omega))
                have KS := (Keep.refl [w.heap.size] w7).setCell (p := ⟨w.heap.size, 1, none⟩) (by simp) (.slice (some ⟨g, 0, none⟩) (l.length + 1) cap)
                have BF8 : Blk (w7.setCell ⟨w.heap.size, 1, none⟩ (.slice (some ⟨g, 0, none⟩) (l.length + 1) cap)) w.heap.size #[.slice KA keys.length KC, .slice (some ⟨g, 0, none⟩) (l.length + 1) cap] 49 := by simpa using BF7.set 1 (.slice (some ⟨g, 0, none⟩) (l.length + 1) cap)
                have hgF : w.heap.size ∉ ownB (.slice (some ⟨g, 0, none⟩) (l.length + 1) cap) := fun h => by
                  have h1 : w.heap.size = g := by simpa [ownB, Value.ownBlock, eq_comm] using h
                  rcases W7 with h2 | h2
                  · exact hFo (by rw [h1]; exact mem_own h2)
                  · simp at h2; omega
                have BT8 := BT7.keep KS (by simp)
                have BX8 := BX7.keep KS (by simp)
                have R8 := R7.move (S' := ownB (.slice (some ⟨g, 0, none⟩) (l.length + 1) cap) ++ (w1.heap.size :: w.heap.size :: (w.heap.size + 1) :: (w.heap.size + 2) :: S0)) KS (fun x hx => .inl (by simp at hx; subst hx; exact ⟨by simp, by omega⟩)) (fun x hx => .inl hx)
                have hk8 := SlOf.move (S' := ownB (.slice (some ⟨g, 0, none⟩) (l.length + 1) cap) ++ (w1.heap.size :: w.heap.size :: (w.heap.size + 1) :: (w.heap.size + 2) :: S0)) hk7 strRow_stab (by omega) KS (by simp) (fun x hx => .inl hx)
                have ho8 := hap.move ruleAt_stab (S' := (w1.heap.size :: w.heap.size :: (w.heap.size + 1) :: (w.heap.size + 2) :: S0)) KS (fun x hx => by simp at hx; subst hx; exact .inl ⟨by simp, hgF⟩) (fun x hx => .inl hx)
                have K8 := K7.setCell (p := ⟨w.heap.size, 1, none⟩) (.inr (by simp)) (.slice (some ⟨g, 0, none⟩) (l.length + 1) cap)
                refine NoPanic.normal ?_
                clear cF7 fF7 cF6 fF6 hel hown
                go_wp2
                refine ⟨⟨f - 1, l ++ [r], ts2, .slice (some ⟨g, 0, none⟩) (l.length + 1) cap, by omega, by simp; omega, by omega, R8, hk8, ho8, BF8, BT8, BX8, K8, HG.out⟩, ?_⟩
                rw [HM.out, R8.len]
                omega
        · have h1 : l.isEmpty = false := by cases h : l.isEmpty <;> simp_all
          have h2 : tr.isEmpty = true := by cases h : tr.isEmpty <;> simp_all
          have h1b : ((l.length : Int) == 0) = false := by
            cases l with
            | nil => simp at h1
            | cons a l => simp; omega
          have h2b : tr = [] := by simpa using h2
          subst h2b
          clear hgo
          have hres := HRES.out
          clear HRES
          rw [← HG.out, rulesL_end h1 h2] at hres
          simp only at hres
          have HRES := Lib.hid hres; clear hres h1 h2
          have cT := BT.cell
          have fT := BT.frozen
          have cX := BX.cell
          have fX := BX.frozen
          have lX := BX.lt
          have HL := (Hown.read (S' := []) ruleAt_stab (by simp) (by simp))
          have HKF := Hk.move (S' := []) strRow_stab (by omega) (Keep.refl [] _) (by simp) (by simp)
          go_wp2
          have hres := HRES.out
          subst hres
          refine leaves_cons (f := 43) (args := #[.pointer (some ⟨w.heap.size, 0, none⟩), .pointer (some ⟨w.heap.size + 1, 0, none⟩), .pointer (some ⟨w.heap.size + 2, 0, none⟩)]) (by simp) (by simp [go_sem]) ?_
          refine (catch_idle _ _ _ _).mono ?_
          rintro e u' w5 ⟨rfl, rfl, rfl⟩
          simp only [settle]
          have KE := ((((Keep.refl [w.heap.size, w.heap.size + 1, w.heap.size + 2] wr).setCell (p := ⟨w.heap.size, 0, none⟩) (by simp) (.slice KA keys.length KC)).setCell (p := ⟨w.heap.size, 1, none⟩) (by simp) (.slice A5 l.length C5)).setCell (p := ⟨w.heap.size + 1, 0, none⟩) (by simp) (.int .i64 s.size)).setCell (p := ⟨w.heap.size + 2, 0, none⟩) (by simp) (.int .i64 0)
          have hkF := SlOf.move (S' := S0) Hk strRow_stab (by omega) KE (by simp) (fun x hx => .inl (by simp [hx]))
          have hrF := SlOf.move (S' := S0) (Hown.read (S' := (w.heap.size :: (w.heap.size + 1) :: (w.heap.size + 2) :: S0)) ruleAt_stab (fun x hx => .inl (by simp at hx; simp [hx])) (fun x hx hx' => by have h1 := (Hown.base x hx).1; simp at hx'; have hw1 := KF1.size; rcases hx' with h | h | h | h; omega; omega; omega; have := hS0 x h; omega)) ruleAt_stab (by omega) KE (fun x hx => .inl (by simp at hx ⊢; rcases hx with h | h | h <;> simp [h])) (fun x hx => .inl (by simp [hx]))
          refine file_leaves _ w.heap.size (w.heap.size + 1) (w.heap.size + 2) _ _ KA A5 keys.length KC l.length C5 s.size 0 rfl rfl rfl ?_ ?_ ?_ ⟨?_, _, rfl, KA, KC, A5, C5, rfl, hkF, hrF⟩
          · simpa using (((BF.set 0 (.slice KA keys.length KC)).set 1 (.slice A5 l.length C5)).setOther ⟨w.heap.size + 1, 0, none⟩ (by simp) (.int .i64 s.size)).setOther ⟨w.heap.size + 2, 0, none⟩ (by simp) (.int .i64 0)
          · simpa using (((BT.setOther ⟨w.heap.size, 0, none⟩ (by simp) (.slice KA keys.length KC)).setOther ⟨w.heap.size, 1, none⟩ (by simp) (.slice A5 l.length C5)).set 0 (.int .i64 s.size)).setOther ⟨w.heap.size + 2, 0, none⟩ (by simp) (.int .i64 0)
          · simpa using (((BX.setOther ⟨w.heap.size, 0, none⟩ (by simp) (.slice KA keys.length KC)).setOther ⟨w.heap.size, 1, none⟩ (by simp) (.slice A5 l.length C5)).setOther ⟨w.heap.size + 1, 0, none⟩ (by simp) (.int .i64 s.size)).set 0 (.int .i64 0)
          · exact Kr.then KE (by simp)
  · subst hx0
    have heb : ((e0 : Int) == 0) = false := by simp; omega
    have hres := HRES.out
    clear HRES
    rw [if_neg he] at hres
    have HRES := Lib.hid hres; clear hres he
    go_wp2
    go_region
    go_wp2
    have hres := HRES.out
    subst hres
    refine file_leaves _ w.heap.size (w.heap.size + 1) (w.heap.size + 2) _ _ none none 0 0 0 0 a0 e0 rfl rfl rfl ?_ ?_ ?_ ⟨?_, _, rfl, none, 0, none, 0, rfl, SlOf.nil _ _ _, SlOf.nil _ _ _⟩
    · simpa using ((((BF2.set 0 (.slice none 0 0)).set 1 (.slice none 0 0)).setOther ⟨w.heap.size + 1, 0, none⟩ (by simp) (.int .i64 a0)).setOther ⟨w.heap.size + 2, 0, none⟩ (by simp) (.int .i64 e0)).drew
    · simpa using ((((BT2.setOther ⟨w.heap.size, 0, none⟩ (by simp) (.slice none 0 0)).setOther ⟨w.heap.size, 1, none⟩ (by simp) (.slice none 0 0)).set 0 (.int .i64 a0)).setOther ⟨w.heap.size + 2, 0, none⟩ (by simp) (.int .i64 e0)).drew
    · simpa using ((((BX2.setOther ⟨w.heap.size, 0, none⟩ (by simp) (.slice none 0 0)).setOther ⟨w.heap.size, 1, none⟩ (by simp) (.slice none 0 0)).setOther ⟨w.heap.size + 1, 0, none⟩ (by simp) (.int .i64 a0)).set 0 (.int .i64 e0)).drew
    · exact ((((KF2.setCell (.inr (by simp)) _).setCell (.inr (by simp)) _).setCell (.inr (by simp)) _).setCell (.inr (by simp; try omega)) _).drew
end Go.Proofs.YtbpidoiellcccaaGreatDoor
namespace Go.Proofs.YtbpidoiellcccaaGreatDoor
open Go Go.RowKit Go.MapKept

/-- No set is told. -/
def cN : ByteArray → Nat → WayR := fun _ _ => none
theorem cN_ahead (s : ByteArray) : Ahead cN s := fun i k t r j h => by simp [cN] at h
theorem cN_sets (f c0 : Nat) (s : ByteArray) (h : s.data.toList.all (fun b => b.toNat != c0) = true) : SetsAt f c0 cN s := by
  intro b i w hi _ hc
  exfalso
  have h1 := List.all_eq_true.1 h s[i] (by
    have : s[i] = s.data.toList[i]'(by simpa using hi) := rfl
    rw [this]
    exact List.getElem_mem _)
  simp at h1
  exact h1 hc
/-- What a text comes to, whose tokens and rules are known. -/
theorem file_known (S0 : List Nat) (s : ByteArray) (f : FileS) (w : World) (hS0 : ∀ x ∈ S0, x < w.heap.size) (hm : s.size ≤ 3000) (h1 : s.data.toList.all (fun b => b.toNat != 91) = true) (h2 : s.data.toList.all (fun b => b.toNat != 60) = true) (he : (lexR cN cN s (s.size + 1) 0 []).2.2 = 0) (hp : parseR s.size (lexR cN cN s (s.size + 1) 0 []).1 = .ok f) :
    Calls Tryz.prog 20 #[.string s] w fun e w' => Keep [] w w' ∧ ∃ row, e = .returned (.tuple #[.agg row, .int .i64 s.size, .int .i64 0]) ∧ FileAt S0 w' f row := by
  have h := file_any S0 cN cN s hm (cN_sets _ _ s h1) (cN_sets _ _ s h2) (cN_ahead s) (cN_ahead s) (fun x hx => by rw [hp] at hx; cases hx) w hS0
  have hr : fileR cN cN s = (f, (s.size : Int), 0) := by
    unfold fileR
    rw [if_pos he, hp]
  rw [hr] at h
  exact h
def t11a : ByteArray := ⟨#[97, 32, 61, 32, 34, 120, 34, 59, 32, 98, 32, 61, 32, 97, 59]⟩
def f11a : FileS := ⟨[], [⟨⟨#[97]⟩, 0, .mk 1 ⟨#[120]⟩ [] [] 4, [], 0⟩, ⟨⟨#[98]⟩, 0, .mk 0 ⟨#[97]⟩ [] [] 13, [], 9⟩]⟩
def t11b : ByteArray := ⟨#[97, 32, 61, 32, 97, 32, 34, 120, 34, 59]⟩
theorem l11a : lexR cN cN t11a (t11a.size + 1) 0 [] = ([⟨0, ⟨#[97]⟩, [], 0⟩, ⟨4, ⟨#[61]⟩, [], 2⟩, ⟨1, ⟨#[120]⟩, [], 4⟩, ⟨4, ⟨#[59]⟩, [], 7⟩, ⟨0, ⟨#[98]⟩, [], 9⟩, ⟨4, ⟨#[61]⟩, [], 11⟩, ⟨0, ⟨#[97]⟩, [], 13⟩, ⟨4, ⟨#[59]⟩, [], 14⟩], 15, 0) := by kernel_rfl
theorem p11a : parseR t11a.size (lexR cN cN t11a (t11a.size + 1) 0 []).1 = .ok f11a := by kernel_rfl
end Go.Proofs.YtbpidoiellcccaaGreatDoor
namespace Go.Proofs.YtbpidoiellcccaaGreatDoor
open Go Go.RowKit

/-- What the maker holds: the nonterminals, and what is wrong. -/
structure MkS where
  p : List ProdS
  bad : Option Err
def MkS.fail (st : MkS) (x : Err) : MkS := { st with bad := failR true x st.bad }
/-- The place of a name. -/
def nameAt (names : List ByteArray) (x : ByteArray) : Option Nat := names.idxOf? x
def PartS.l : PartS → List PartS | .mk _ _ _ l _ => l
/-- A child's symbols, one behind nothing. -/
def oneF (part : MkS → List SymS → PartS → MkS × List SymS) (st : MkS) (ch : List PartS) (i : Nat) : MkS × List SymS :=
  match ch[i]? with
  | none => (st, [])
  | some x => if st.bad = none then part st [] x else (st, [])
def altsF (part : MkS → List SymS → PartS → MkS × List SymS) (ch : List PartS) : Nat → MkS × List (List SymS) → MkS × List (List SymS)
  | 0, r => r
  | n + 1, r => let q := altsF part ch n r; let o := oneF part q.1 ch n; (o.1, q.2 ++ [o.2])
/-- A nonterminal's alternatives. -/
def fillF (part : MkS → List SymS → PartS → MkS × List SymS) (st : MkS) (n : Nat) (p : PartS) : MkS :=
  let self : SymS := ⟨2, [], n⟩
  let q : MkS × List (List SymS) :=
    if p.k = 5 then altsF part p.l p.l.length (st, [])
    else let o := oneF part st p.l 0
      if p.k = 6 then (o.1, [o.2 ++ [self], []]) else if p.k = 7 then (o.1, [o.2 ++ [self], o.2]) else (o.1, [o.2, []])
  let st2 : MkS := if q.2.length = 0 ∨ 8 < q.2.length ∨ q.2.any (fun l => decide (40 < l.length)) = true then q.1.fail (7, p.a) else q.1
  { st2 with p := st2.p.modify n (fun x => { x with a := q.2 }) }
/-- Symbols with a part behind; parts within one another at most d. -/
def pieceF (names : List ByteArray) : Nat → MkS → List SymS → PartS → MkS × List SymS
  | 0, st, l, _ => (st, l)
  | d + 1, st, l, .mk k t r ch a =>
    if k = 0 then (match nameAt names t with
      | none => (st.fail (5, a), l)
      | some n => (st, l ++ [⟨2, [], n⟩]))
    else if k = 1 then (st, l ++ t.data.toList.map fun c => ⟨0, [⟨c.toNat, c.toNat⟩], 0⟩)
    else if k = 2 then (st, l ++ [⟨1, r, 0⟩])
    else if k = 3 then (st, l ++ [⟨0, r, 0⟩])
    else if k = 4 then ch.foldl (fun q x => if q.1.bad = none then pieceF names d q.1 q.2 x else q) (st, l)
    else if (k < 0 ∨ 8 < k ∨ (k ≠ 5 ∧ ch.length ≠ 1)) ∨ st.p.length = 60 then (st.fail (7, a), l)
    else (fillF (pieceF names d) { st with p := st.p ++ [⟨[], 0, []⟩] } st.p.length (.mk k t r ch a), l ++ [⟨2, [], st.p.length⟩])
end Go.Proofs.YtbpidoiellcccaaGreatDoor
namespace Go.Proofs.YtbpidoiellcccaaGreatDoor
open Go Go.RowKit

def strRow1 (s : ByteArray) : Array Value := #[.string s]
def Strs1 (S : List Nat) (w : World) (v : Value) (l : List ByteArray) : Prop := Sl S w 1 v (l.map strRow1)
theorem strs_back {S : List Nat} {w : World} {v : Value} {l : List ByteArray} (h : SlOf StrRow S w 1 v l) : Strs1 S w v l := by
  obtain ⟨rows, h1, h2, h3⟩ := h
  have e : rows = l.map strRow1 := by
    refine List.ext_getElem (by simp [h2]) (fun i hi hi' => ?_)
    have := h3 i (by omega) hi
    rw [List.getElem_map]
    exact this
  rw [e] at h1
  exact h1
set_option maxRecDepth 20000 in
set_option maxHeartbeats 2000000 in
theorem strClone_any (S : List Nat) (v : Value) (l : List ByteArray) (w : World) (H : Strs1 S w v l) (hN : l.length ≤ 1000000) :
    Calls Tryz.prog 48 #[v] w fun e w' => (∃ A C, e = .returned (.slice A l.length C) ∧ ∀ S', (∀ b ∈ S', b < w.heap.size) → Strs1 S' w' (.slice A l.length C) l) ∧ Keep [] w w' := by
  have HH := H
  obtain ⟨A, C, rfl, hm, hr⟩ := HH
  have qT : ∀ (w : World) (a : Option Addr) (n c n' c' : Nat), (binOp .eql 23 (.slice a n c) (.slice none n' c')).run Tryz.prog w = .ok (.bool a.isNone) w := fun w a n c n' c' => Lib.run_eql_slice_nil w _ _ a n c n' c' Tryz.underlying23
  simp only [List.length_map] at H hm hr ⊢
  cases l with
  | nil =>
    cases A with
    | none =>
      go_enter Tryz.func48, Tryz.ntmps48
      go_wp2
      go_ret
      exact ⟨⟨none, 0, rfl, fun S' _ => Sl.nil _ _ _⟩, Keep.refl _ _⟩
    | some ad =>
      go_enter Tryz.func48, Tryz.ntmps48
      go_wp2
      go_ret
      exact ⟨⟨some ⟨w.heap.size, 0, none⟩, 0, rfl, fun S' _ => ⟨_, 0, rfl, by simp, fun h => absurd h (by simp)⟩⟩, (Keep.refl _ _).alloc _⟩
  | cons r l =>
    obtain ⟨b, o, rfl, hb, hc⟩ := hr (by simp)
    have hnews := Sl.news (by omega) (by have h := H; unfold Strs1 at h; simpa using h : Sl S w 1 (.slice (some ⟨b, o, none⟩) ((r :: l).map strRow1).length C) ((r :: l).map strRow1))
    obtain ⟨i0, hi0, hz0, hz1, hz2⟩ := info_parts info_str
    have HN := Lib.hid hnews; clear hnews hc hr
    go_enter Tryz.func48, Tryz.ntmps48
    have hown : (w.alloc (.cells #[] 9)).ownsRow w.heap.size 9 1 (.slice (some ⟨w.heap.size, 0, none⟩) 0 0) 0 [] := ⟨rfl, .inr ⟨w.heap.size, 0, #[], rfl, Nat.le_refl _, Blk.new w #[] 9, by omega, by decide, rfl, rfl⟩⟩
    have hnl : (((r :: l).map strRow1).flatMap Array.toList).length = (l.length + 1) * 1 := by rw [flat_len 1 _ (fun i hi => by rw [List.getElem_map]; rfl)]; simp
    have hone : ∀ u ∈ ((r :: l).map strRow1).flatMap Array.toList, u.oneCell' = true := fun u hu => by
      obtain ⟨x, hx, hu⟩ := List.mem_flatMap.1 hu
      obtain ⟨y, _, rfl⟩ := List.mem_map.1 hx
      simp [strRow1] at hu
      subst hu; rfl
    have K0 := (Keep.refl [] w).alloc (.cells #[] 9)
    have HN2 : Hid (∀ j u, (((r :: l).map strRow1).flatMap Array.toList)[j]? = some u → (w.alloc (.cells #[] 9)).cell? ((⟨b, o, none⟩ : Addr).add j) = some u) := Lib.hid (fun j u h => K0.cell (HN.out j u h) (by simp))
    have HONE := Lib.hid hone; clear hone
    have HNL := Lib.hid hnl; clear hnl
    rw [List.length_cons] at hN
    go_wp2_with (at_builtin; go_loud (refine wpList_append_lies _ rfl _ _ 23 rfl w.heap.size 9 i0 (.string { data := #[] }) 1 16 Tryz.underlying23 hi0 hz0 hz1 hz2 rfl (by decide) _ 0 _ rfl hown ⟨b, o, none⟩ (l.length + 1) C (((r :: l).map strRow1).flatMap Array.toList) rfl HNL.out HN2.out HONE.out (by omega) (by unfold maxLen; omega) (by omega) (by simp) _ rfl ?_); intro g cap w5 O5 G5 W5 L5)
    have hOL : ∀ S', OwnL StrRow S' w5 w.heap.size 9 1 (.slice (some ⟨g, 0, none⟩) (0 + (l.length + 1)) cap) (r :: l) := fun S' => by
      refine ⟨(r :: l).map strRow1, by simp, ?_, fun i hi hi' => ⟨by rw [List.getElem_map]; rfl, by rw [List.getElem_map]; rfl⟩⟩
      simpa using O5
    have hv : (Value.slice (some ⟨g, 0, none⟩) (0 + (l.length + 1)) cap) = .slice (some ⟨g, 0, none⟩) (l.length + 1) cap := by rw [Nat.zero_add]
    rw [hv] at hOL
    have KF := K0.grown G5 (fun x hx => .inr (by have hx : some w.heap.size = some x := hx; simp at hx; omega))
    have HOL := Lib.hid hOL
    clear O5 G5 W5 L5 hOL hown
    go_wp2
    go_ret
    refine ⟨⟨some ⟨g, 0, none⟩, cap, rfl, fun S' hS' => ?_⟩, KF⟩
    exact strs_back ((HOL.out S').read strRow_stab (fun x hx => .inl hx) (fun x hx hx' => by have h1 := ((HOL.out S').base x hx).1; have := hS' x hx'; omega))
end Go.Proofs.YtbpidoiellcccaaGreatDoor
namespace Go.Proofs.YtbpidoiellcccaaGreatDoor
open Go Go.RowKit

theorem info_sym : (Tryz.prog.info? 43).map (fun i => (i.zero, i.size, i.bytes)) = some (some (.agg #[.int .i64 0, .slice none 0 0, .int .i64 0]), 3, 40) := by kernel_rfl
set_option maxRecDepth 20000 in
set_option maxHeartbeats 2000000 in
theorem symClone_any (S : List Nat) (v : Value) (l : List SymS) (w : World) (H : Syms S w v l) (hN : l.length ≤ 1000000) (hS : ∀ b ∈ S, b < w.heap.size) :
    Calls Tryz.prog 104 #[v] w fun e w' => (∃ v', e = .returned v' ∧ OwnL SymRow S w' w.heap.size 43 3 v' l) ∧ Keep [] w w' := by
  obtain ⟨rows, h1, h2, h3⟩ := H
  have H1 := h1
  obtain ⟨A, C, rfl, hm, hr⟩ := h1
  have qT : ∀ (w : World) (a : Option Addr) (n c n' c' : Nat), (binOp .eql 44 (.slice a n c) (.slice none n' c')).run Tryz.prog w = .ok (.bool a.isNone) w := fun w a n c n' c' => Lib.run_eql_slice_nil w _ _ a n c n' c' Tryz.underlying44
  cases rows with
  | nil =>
    have : l = [] := List.eq_nil_of_length_eq_zero (by simpa using h2.symm)
    subst this
    cases A with
    | none =>
      go_enter Tryz.func104, Tryz.ntmps104
      go_wp2
      go_ret
      exact ⟨⟨_, rfl, OwnL.nil _ _ _ _ _⟩, Keep.refl _ _⟩
    | some ad =>
      have hO : OwnL SymRow S (w.alloc (.cells #[] 43)) w.heap.size 43 3 (.slice (some ⟨w.heap.size, 0, none⟩) 0 0) [] :=
        ⟨[], rfl, ⟨rfl, .inr ⟨w.heap.size, 0, #[], rfl, Nat.le_refl _, Blk.new w #[] 43, by simp, by decide, rfl, rfl⟩⟩, fun i hi => absurd hi (by simp)⟩
      have HO := Lib.hid hO; clear hO
      go_enter Tryz.func104, Tryz.ntmps104
      go_wp2
      go_ret
      exact ⟨⟨_, rfl, HO.out⟩, (Keep.refl _ _).alloc _⟩
  | cons r rows =>
    obtain ⟨b, o, rfl, hb, hc⟩ := hr (by simp)
    have hnews := Sl.news (by omega) H1
    have hrs : ∀ i (h : i < (r :: rows).length), (r :: rows)[i].size = 3 := fun i hi => (hc i hi).1
    obtain ⟨i0, hi0, hz0, hz1, hz2⟩ := info_parts info_sym
    have HN := Lib.hid hnews; clear hnews hc hr
    rw [← h2] at hN
    have hone : ∀ u ∈ (r :: rows).flatMap Array.toList, u.oneCell' = true := fun u hu => by
      obtain ⟨x, hx, hu⟩ := List.mem_flatMap.1 hu
      obtain ⟨i, hi, rfl⟩ := List.getElem_of_mem hx
      obtain ⟨A3, C3, hrow, _⟩ := h3 i (by omega) hi
      rw [hrow] at hu
      simp at hu
      rcases hu with rfl | rfl | rfl <;> rfl
    have hnl : ((r :: rows).flatMap Array.toList).length = (rows.length + 1) * 3 := by rw [flat_len 3 _ hrs]; simp
    have hown : (w.alloc (.cells #[] 43)).ownsRow w.heap.size 43 3 (.slice (some ⟨w.heap.size, 0, none⟩) 0 0) 0 [] := ⟨rfl, .inr ⟨w.heap.size, 0, #[], rfl, Nat.le_refl _, Blk.new w #[] 43, by omega, by decide, rfl, rfl⟩⟩
    have K0 := (Keep.refl [] w).alloc (.cells #[] 43)
    have HN2 : Hid (∀ j u, ((r :: rows).flatMap Array.toList)[j]? = some u → (w.alloc (.cells #[] 43)).cell? ((⟨b, o, none⟩ : Addr).add j) = some u) := Lib.hid (fun j u h => K0.cell (HN.out j u h) (by simp))
    have HONE := Lib.hid hone; clear hone
    have HNL := Lib.hid hnl; clear hnl
    have H3 := Lib.hid h3; clear h3
    have HRS := Lib.hid hrs; clear hrs
    have H2 := Lib.hid h2; clear h2
    rw [List.length_cons] at hN
    go_enter Tryz.func104, Tryz.ntmps104
    go_wp2_with (at_builtin; go_loud (refine wpList_append_lies _ rfl _ _ 44 rfl w.heap.size 43 i0 (.agg #[.int .i64 0, .slice none 0 0, .int .i64 0]) 3 40 Tryz.underlying44 hi0 hz0 hz1 hz2 rfl (by decide) _ 0 _ rfl hown ⟨b, o, none⟩ (rows.length + 1) C ((r :: rows).flatMap Array.toList) rfl HNL.out HN2.out HONE.out (by omega) (by unfold maxLen; omega) (by omega) (by simp) _ rfl ?_); intro g cap w5 O5 G5 W5 L5)
    have KF := K0.grown G5 (fun x hx => .inr (by have hx : some w.heap.size = some x := hx; simp at hx; omega))
    have hg : w.heap.size ≤ g := by
      have W5' : some w.heap.size = some g ∨ g = _ := W5
      rcases W5' with h | h
      · simp at h; omega
      · rw [h]; simp
    have hOL : OwnL SymRow S w5 w.heap.size 43 3 (.slice (some ⟨g, 0, none⟩) (0 + (rows.length + 1)) cap) l := by
      refine ⟨r :: rows, H2.out, ?_, fun i hi hi' => ⟨HRS.out i hi', symRow_stab _ _ _ _ _ _ _ (H3.out i hi hi') KF (by simp) (fun x hx => ?_)⟩⟩
      · have e : l.length = 0 + (rows.length + 1) := by rw [← H2.out]; simp
        rw [e]
        simpa using O5
      · rcases List.mem_append.1 hx with h | h
        · have : x = g := by simpa [ownB, Value.ownBlock, eq_comm] using h
          exact .inr (by omega)
        · exact .inl h
    rw [Nat.zero_add] at hOL
    have HOL := Lib.hid hOL
    clear O5 G5 W5 L5 hOL hown
    go_wp2
    go_ret
    exact ⟨⟨_, rfl, HOL.out⟩, KF⟩
end Go.Proofs.YtbpidoiellcccaaGreatDoor
namespace Go.Proofs.YtbpidoiellcccaaGreatDoor
open Go Go.RowKit Go.MapKept

/-- The map of names: each rule's place. -/
def nameE (names : List ByteArray) : Array MapEntry := (names.mapIdx fun i x => (⟨.string x, .int .i64 i, i⟩ : MapEntry)).toArray
/-- The maker at block m with map mb and slice pv; v is a slice of symbols in the making. -/
structure MkAt (S : List Nat) (w : World) (base m mb : Nat) (names : List ByteArray) (pv v : Value) (st : MkS) (l : List SymS) : Prop where
  box : MkB (ownB pv ++ ownB v ++ S) w m mb pv st.bad
  prods : OwnL ProdRow (ownB v ++ S) w base 41 3 pv st.p
  syms : OwnL SymRow (ownB pv ++ S) w base 43 3 v l
  map : MapB w mb (nameE names) names.length
  inS : m ∈ S
  mlow : m < base
  low : ∀ x ∈ S, x < w.heap.size
  base : base ≤ w.heap.size

theorem OwnL.type {α : Type} {R : List Nat → World → α → Array Value → Prop} {S : List Nat} {w : World} {base : Nat} {E : TypeId} {k : Nat} {v : Value} {xs : List α} (h : OwnL R S w base E k v xs) : ∀ b ∈ ownB v, ∃ cs, w.heap[b]? = some (.cells cs E (0, 0)) := by
  obtain ⟨rows, _, h1, _⟩ := h
  intro b hb
  rcases h1.2 with ⟨rfl, _⟩ | ⟨g, cap, cur, rfl, _, hg, _⟩
  · simp [ownB, Value.ownBlock] at hb
  · have e : b = g := by simpa [ownB, Value.ownBlock, eq_comm] using hb
    subst e
    exact ⟨cur, hg⟩
theorem OwnL.apart {α β : Type} {R : List Nat → World → α → Array Value → Prop} {Q : List Nat → World → β → Array Value → Prop} {S S' : List Nat} {w : World} {base base' : Nat} {E F : TypeId} {k k' : Nat} {v u : Value} {xs : List α} {ys : List β}
    (h : OwnL R S w base E k v xs) (h' : OwnL Q S' w base' F k' u ys) (hEF : E ≠ F) : ∀ b ∈ ownB v, b ∉ ownB u := by
  intro b hb hb'
  obtain ⟨cs, e1⟩ := h.type b hb
  obtain ⟨ds, e2⟩ := h'.type b hb'
  rw [e1] at e2
  simp only [Option.some.injEq, Obj.cells.injEq] at e2
  exact hEF e2.2.1
theorem MkAt.notOwn {S : List Nat} {w : World} {base m mb : Nat} {names : List ByteArray} {pv v : Value} {st : MkS} {l : List SymS} (h : MkAt S w base m mb names pv v st l) : m ∉ ownB pv ∧ m ∉ ownB v := by
  have h1 := h.mlow
  refine ⟨fun hm => ?_, fun hm => ?_⟩
  · have := (h.prods.base m hm).1; omega
  · have := (h.syms.base m hm).1; omega
/-- Where nothing of it turns. -/
theorem MkAt.keep {S : List Nat} {w w' : World} {base m mb : Nat} {names : List ByteArray} {pv v : Value} {st : MkS} {l : List SymS} (h : MkAt S w base m mb names pv v st l) (K : Keep [] w w') : MkAt S w' base m mb names pv v st l :=
  ⟨h.box.move K (by simp) (fun x hx => .inl hx), h.prods.move prodRow_stab K (by simp) (fun x hx => .inl hx), h.syms.move symRow_stab K (by simp) (fun x hx => .inl hx), h.map.keep K (by simp), h.inS, h.mlow, fun x hx => Nat.lt_of_lt_of_le (h.low x hx) K.size, Nat.le_trans h.base K.size⟩
/-- Where T turns, nothing of it among T, and it lies beside S' then. -/
theorem MkAt.move {S T S' : List Nat} {w w' : World} {base m mb : Nat} {names : List ByteArray} {pv v : Value} {st : MkS} {l : List SymS} (h : MkAt S w base m mb names pv v st l) (K : Keep T w w')
    (hT : ∀ b ∈ T, (b ∈ S ∧ b ≠ m ∧ b ≠ mb ∧ b ∉ ownB pv ∧ b ∉ ownB v) ∨ w.heap.size ≤ b) (hS : ∀ b ∈ S', b ∈ S ∨ (w.heap.size ≤ b ∧ b < w'.heap.size)) (hm : m ∈ S') : MkAt S' w' base m mb names pv v st l := by
  have hml := h.map.lt
  refine ⟨h.box.move K (fun x hx => ?_) (fun x hx => ?_), h.prods.move prodRow_stab K (fun x hx => ?_) (fun x hx => ?_), h.syms.move symRow_stab K (fun x hx => ?_) (fun x hx => ?_), h.map.keep K (fun hx => ?_), hm, h.mlow, fun x hx => ?_, Nat.le_trans h.base K.size⟩
  · rcases hT x hx with ⟨h1, h2, _⟩ | h1
    · exact .inl ⟨by simp [h1], h2⟩
    · exact .inr h1
  · rcases List.mem_append.1 hx with h1 | h1
    · exact .inl (List.mem_append.2 (.inl h1))
    · rcases hS x h1 with h2 | h2
      · exact .inl (by simp [h2])
      · exact .inr h2.1
  · rcases hT x hx with ⟨h1, _, _, h2, _⟩ | h1
    · exact .inl ⟨by simp [h1], h2⟩
    · exact .inr h1
  · rcases List.mem_append.1 hx with h1 | h1
    · exact .inl (List.mem_append.2 (.inl h1))
    · rcases hS x h1 with h2 | h2
      · exact .inl (by simp [h2])
      · exact .inr h2.1
  · rcases hT x hx with ⟨h1, _, _, _, h2⟩ | h1
    · exact .inl ⟨by simp [h1], h2⟩
    · exact .inr h1
  · rcases List.mem_append.1 hx with h1 | h1
    · exact .inl (List.mem_append.2 (.inl h1))
    · rcases hS x h1 with h2 | h2
      · exact .inl (by simp [h2])
      · exact .inr h2.1
  · rcases hT mb hx with ⟨_, _, h1, _⟩ | h1
    · exact h1 rfl
    · omega
  · rcases hS x hx with h1 | h1
    · exact Nat.lt_of_lt_of_le (h.low x h1) K.size
    · exact h1.2
/-- Behind an append of a symbol. -/
theorem MkAt.push {S : List Nat} {w w5 : World} {base m mb g cap : Nat} {names : List ByteArray} {pv v : Value} {st : MkS} {l : List SymS} {x : SymS} {row : Array Value} (h : MkAt S w base m mb names pv v st l) (rows : List (Array Value)) (hlr : rows.length = l.length)
    (hel : ∀ i (hi : i < l.length) (hi' : i < rows.length), rows[i].size = 3 ∧ SymRow (ownB v ++ (ownB pv ++ S)) w l[i] rows[i]) (hx : SymRow (ownB v ++ (ownB pv ++ S)) w x row) (hr : row.size = 3)
    (O : w5.ownsRow base 43 3 (.slice (some ⟨g, 0, none⟩) (l.length + 1) cap) (l.length + 1) (rows.flatMap Array.toList ++ row.toList)) (G : w.grownBy w5 v.ownBlock) (W : v.ownBlock = some g ∨ g = w.heap.size) :
    MkAt S w5 base m mb names pv (.slice (some ⟨g, 0, none⟩) (l.length + 1) cap) st (l ++ [x]) := by
  have KG := Keep.ofGrown (v := v) G
  have hno := h.notOwn
  have hap := h.syms.apart h.prods (by decide)
  refine ⟨h.box.move KG (fun y hy => .inl ⟨by simp [hy], fun e => hno.2 (e ▸ hy)⟩) (fun y hy => ?_), h.prods.move prodRow_stab KG (fun y hy => .inl ⟨by simp [hy], hap y hy⟩) (own_new W), OwnL.append rows hlr hel symRow_stab hx hr O G W, h.map.keep KG (fun hm => ?_), h.inS, h.mlow, fun x hx => Nat.lt_of_lt_of_le (h.low x hx) KG.size, Nat.le_trans h.base KG.size⟩
  · rcases List.mem_append.1 hy with hy | hy
    · rcases List.mem_append.1 hy with hy | hy
      · exact .inl (by simp [hy])
      · rcases own_new (S := []) W y (List.mem_append.2 (.inl hy)) with h1 | h1
        · exact .inl (by rcases List.mem_append.1 h1 with h2 | h2; exact List.mem_append.2 (.inl (List.mem_append.2 (.inr h2))); simp at h2)
        · exact .inr h1
    · exact .inl (by simp [hy])
  · obtain ⟨cs, e⟩ := h.syms.type mb hm
    have e2 : w.heap[mb]? = some (.map (nameE names) names.length) := h.map
    rw [e] at e2
    cases e2
end Go.Proofs.YtbpidoiellcccaaGreatDoor
namespace Go.Proofs.YtbpidoiellcccaaGreatDoor
open Go Go.RowKit Go.MapKept

def nameL (names : List ByteArray) (i : Nat) : List (ByteArray × Value) := names.mapIdx fun j x => (x, .int .i64 (i + j : Nat))
theorem nameL_cons (x : ByteArray) (l : List ByteArray) (i : Nat) : nameL (x :: l) i = (x, .int .i64 (i : Nat)) :: nameL l (i + 1) := by
  simp [nameL, List.mapIdx_cons, Nat.add_assoc, Nat.add_comm 1]
theorem idxOf_cons (x y : ByteArray) (l : List ByteArray) : nameAt (y :: l) x = if y = x then some 0 else (nameAt l x).map (· + 1) := by
  unfold nameAt
  rw [List.idxOf?_cons]
  by_cases h : y = x
  · subst h
    have : (y == y) = true := by rw [bytes_beq]
    simp [this]
  · have : (y == x) = false := by
      cases hb : y == x
      · rfl
      · exact absurd ((bytes_beq _ _).1 hb) h
    simp [this, h]
theorem look_name (x : ByteArray) : ∀ (names : List ByteArray) (i : Nat), lookS (.int .i64 0) (nameL names i) x = (match nameAt names x with | some n => .int .i64 (i + n : Nat) | none => .int .i64 0) ∧ ((∃ v, (x, v) ∈ nameL names i) ↔ (nameAt names x).isSome = true)
  | [], i => by simp [nameL, lookS, nameAt]
  | y :: l, i => by
    obtain ⟨h1, h2⟩ := look_name x l (i + 1)
    rw [nameL_cons, idxOf_cons]
    by_cases h : y = x
    · subst h
      simp [lookS]
    · rw [if_neg h]
      constructor
      · rw [lookS]
        simp only [h, if_false]
        rw [h1]
        cases nameAt l x with
        | none => rfl
        | some n => simp [Nat.add_assoc, Nat.add_comm 1]
      · have e : (∃ v, (x, v) ∈ (y, Value.int .i64 (i : Nat)) :: nameL l (i + 1)) ↔ ∃ v, (x, v) ∈ nameL l (i + 1) := by
          constructor
          · rintro ⟨v, hv⟩
            rcases List.mem_cons.1 hv with h3 | h3
            · exact absurd (by simp at h3; exact h3.1.symm) h
            · exact ⟨v, h3⟩
          · rintro ⟨v, hv⟩; exact ⟨v, List.mem_cons_of_mem _ hv⟩
        rw [e, h2]
        cases nameAt l x <;> simp
theorem name_look (w : World) (mb : Nat) (names : List ByteArray) (clk : Nat) (x : ByteArray) (hb : MapB w mb (nameE names) clk) :
    (Instr.lookup 90 (.map (some mb)) (.string x) true).run Tryz.prog w = .ok (.tuple #[.int .i64 ((nameAt names x).getD 0 : Nat), .bool (nameAt names x).isSome]) w := by
  obtain ⟨r, hf, hr, hs⟩ := findS (.int .i64 0) x (nameE names).toList (nameL names 0) 0 (by
    refine List.ext_getElem (by simp [nameE, nameL]) (fun i h1 h2 => ?_)
    simp [nameE, nameL])
  obtain ⟨h1, h2⟩ := look_name x names 0
  rw [run_lookup_at Tryz.underlying90 Tryz.underlying9 (isKey_str x) hb hf (z := .int .i64 0) (by kernel_rfl) true]
  have e1 : (r.map (·.2)).getD (.int .i64 0) = .int .i64 ((nameAt names x).getD 0 : Nat) := by
    rw [hr, h1]
    cases nameAt names x <;> simp
  have e2 : r.isSome = (nameAt names x).isSome := by
    cases h3 : r.isSome <;> cases h4 : (nameAt names x).isSome <;> simp_all
  simp [e1, e2]
end Go.Proofs.YtbpidoiellcccaaGreatDoor
namespace Go.Proofs.YtbpidoiellcccaaGreatDoor
open Go Go.RowKit Go.MapKept

def PiecePost (S : List Nat) (base m mb : Nat) (names : List ByteArray) (pv v : Value) (w : World) (r : MkS × List SymS) (e : Ending) (w' : World) : Prop :=
  Keep (m :: (ownB pv ++ ownB v)) w w' ∧ ∃ pv' v', e = .returned v' ∧ MkAt S w' base m mb names pv' v' r.1 r.2 ∧ (∀ b ∈ ownB pv', b ∈ ownB pv ∨ w.heap.size ≤ b) ∧ ∀ b ∈ ownB v', b ∈ ownB v ∨ w.heap.size ≤ b

/-- Behind a turn of the maker's own block. -/
theorem MkAt.turn {S : List Nat} {w w' : World} {base m mb : Nat} {names : List ByteArray} {pv v : Value} {st : MkS} {l : List SymS} {bad : Option Err} (h : MkAt S w base m mb names pv v st l) (hb : MkB (ownB pv ++ ownB v ++ S) w' m mb pv bad) (K : Keep [m] w w') : MkAt S w' base m mb names pv v { st with bad := bad } l := by
  have hno := h.notOwn
  refine ⟨hb, h.prods.move prodRow_stab K (fun x hx => ?_) (fun x hx => .inl hx), h.syms.move symRow_stab K (fun x hx => ?_) (fun x hx => .inl hx), h.map.keep K (fun hm => ?_), h.inS, h.mlow, fun x hx => Nat.lt_of_lt_of_le (h.low x hx) K.size, Nat.le_trans h.base K.size⟩
  · simp at hx; subst hx; exact .inl ⟨by simp [h.inS], hno.1⟩
  · simp at hx; subst hx; exact .inl ⟨by simp [h.inS], hno.2⟩
  · simp at hm
    subst hm
    obtain ⟨bv, hB, _⟩ := h.box
    have e1 : w.heap[mb]? = some (.map (nameE names) names.length) := h.map
    have e2 : w.heap[mb]? = some (.cells _ _ (0, 0)) := hB
    rw [e1] at e2
    cases e2
theorem MkAt.all {S : List Nat} {w : World} {base m mb : Nat} {names : List ByteArray} {pv v : Value} {st : MkS} {l : List SymS} (h : MkAt S w base m mb names pv v st l) : ∀ x ∈ ownB pv ++ ownB v ++ S, x < w.heap.size := by
  intro x hx
  rcases List.mem_append.1 hx with hx | hx
  · rcases List.mem_append.1 hx with hx | hx
    · exact (h.prods.base x hx).2
    · exact (h.syms.base x hx).2
  · exact h.low x hx

set_option maxRecDepth 20000 in
set_option maxHeartbeats 4000000 in
theorem pieceCall_any (S : List Nat) (base m mb : Nat) (names : List ByteArray) (pv v : Value) (st : MkS) (l : List SymS) (t : ByteArray) (r : List Rng) (ch : List PartS) (a : Int) (row : Array Value) (d : Nat) (w : World) (hN : l.length ≤ 1000000) (H : MkAt S w base m mb names pv v st l)
    (hp : PartAt (ownB pv ++ ownB v ++ S) w (.mk 0 t r ch a) row) :
    Calls Tryz.prog 103 #[.pointer (some ⟨m, 0, none⟩), v, .agg row] w (PiecePost S base m mb names pv v w (pieceF names (d + 1) st l (.mk 0 t r ch a))) := by
  cases hp with
  | mk _ _ _ _ _ rv lv rows hr hl hn hpp =>
    obtain ⟨A, C, rfl, _⟩ := hr
    obtain ⟨B, D, rfl, _⟩ := hl
    rw [List.length_map, hn]
    have hmf : ∀ (fn : Fn) (first cap : Array Value) (w : World), (Instr.makeFunc fn first cap).run Tryz.prog w = .ok (.func fn first cap) w := fun _ _ _ _ => rfl
    have K0 := (Keep.refl [] w).alloc (.cells #[.int .i64 0, .string t, .slice A r.length C, .slice B ch.length D, .int .i64 a] 85)
    have H0 := H.keep K0
    have HB := H0.box
    obtain ⟨bv, hB, hb⟩ := HB
    have c0 := hB.cell 0
    have hlk := fun n => name_look (World.drewN _ n) mb names _ t (H0.map.drewN n)
    have B0 := Blk.new w #[.int .i64 0, .string t, .slice A r.length C, .slice B ch.length D, .int .i64 a] 85
    go_enter Tryz.func103, Tryz.ntmps103
    go_wp2
    go_quiet (fail)
    go_wp2_with fail
    have H1 := H0.keep ((Keep.refl [] _).drewN nq)
    have K1 := K0.drewN nq
    refine (ffail_any (ownB pv ++ ownB v ++ S) m mb pv st.bad _ 5 a _ H1.box (by simp [H.inS]) H1.all).mono ?_
    rintro e w2 ⟨rfl, hb2, K2⟩
    have H2 := H1.turn hb2 K2
    have KF := (K1.mono (S' := m :: (ownB pv ++ ownB v)) (by simp)).trans (K2.mono (by simp))
    obtain ⟨A2, C2, hv⟩ := H2.syms.slice
    subst hv
    cases hn : nameAt names t with
    | none =>
      rw [hn] at H2
      go_wp2
      go_ret
      refine ⟨KF, pv, _, rfl, ?_, fun b hb => .inl hb, fun b hb => .inl hb⟩
      simpa [pieceF, hn, MkS.fail] using H2
    | some n =>
      rw [hn] at H2
      have H2' : MkAt S w2 base m mb names pv (.slice A2 l.length C2) st l := by simpa [failR] using H2
      have hsy := H2'.syms
      obtain ⟨rows2, hlr, hown, hel⟩ := hsy
      obtain ⟨i0, hi0, hz0, hz1, hz2⟩ := info_parts info_sym
      have HEL := Lib.hid hel; clear hel
      have hlen : l.length ≤ 1000000 := hN
      go_wp2_with (at_builtin; go_loud (refine wpList_append_lies _ rfl _ _ 44 rfl base 43 i0 (.agg #[.int .i64 0, .slice none 0 0, .int .i64 0]) 3 40 Tryz.underlying44 hi0 hz0 hz1 hz2 rfl (by decide) _ l.length _ rfl (hown.alloc _) ⟨w2.heap.size, 0, none⟩ 1 1 [.int .i64 2, .slice none 0 0, .int .i64 n] rfl rfl (World.news_of_block (Blk.new' _ _ _ (by simp))) (by simp [Value.oneCell']) (by decide) (by unfold maxLen; omega) (by omega) (by have := H2'.base; simp; omega) _ rfl ?_); intro g cap w5 O5 G5 W5 L5)
      have K3 := (Keep.refl [] w2).alloc (.cells #[.int .i64 2, .slice none 0 0, .int .i64 n] 43)
      have H3 := H2'.keep K3
      have hx : SymRow (ownB (.slice A2 l.length C2) ++ (ownB pv ++ S)) (w2.alloc (.cells #[.int .i64 2, .slice none 0 0, .int .i64 n] 43)) ⟨2, [], n⟩ #[.int .i64 2, .slice none 0 0, .int .i64 n] := ⟨none, 0, rfl, Sl.nil _ _ _⟩
      have H5 := H3.push rows2 hlr (fun i hi hi' => ⟨(HEL.out i hi hi').1, symRow_stab _ _ _ _ _ _ _ (HEL.out i hi hi').2 K3 (by simp) (fun x hx => .inl hx)⟩) hx rfl O5 G5 W5
      have KG := Keep.ofGrown (v := .slice A2 l.length C2) G5
      have W5' : (Value.slice A2 l.length C2).ownBlock = some g ∨ g = (w2.alloc (.cells #[.int .i64 2, .slice none 0 0, .int .i64 n] 43)).heap.size := W5
      clear O5 G5 L5
      go_wp2
      go_ret
      refine ⟨(KF.trans (K3.mono (by simp))).trans (KG.mono (fun x hx => .inl (by simp [hx]))), pv, _, rfl, ?_, fun b hb => .inl hb, fun b hb => ?_⟩
      · simpa [pieceF, hn] using H5
      · rcases own_new (S := []) W5' b (List.mem_append.2 (.inl hb)) with h | h
        · exact .inl (by simpa using h)
        · exact .inr (by have := KF.size; simp at h; omega)
end Go.Proofs.YtbpidoiellcccaaGreatDoor
