/- The reader: the map of ways, a group. -/
import Derived.Test.YtbpidoiellcccaaGreatDoorK8
import Derived.IntWalk
import Derived.Deep.RegionHeld3
set_option linter.unusedVariables false
set_option linter.unusedSimpArgs false
namespace Go.Proofs.YtbpidoiellcccaaGreatDoor
open Go Go.RowKit Go.MapKept

def partV (n : Nat) : Value := .func (.func n) #[] #[]
def partE : Array MapEntry := #[⟨.int .i64 0, partV 152, 0⟩, ⟨.int .i64 1, partV 152, 1⟩, ⟨.int .i64 2, partV 152, 2⟩, ⟨.int .i64 3, partV 152, 3⟩, ⟨.int .i64 4, partV 153, 4⟩]
theorem isKey_i64 (n : Int) : IsKey (.int .i64) (.int .i64 n) := by simp [IsKey]
theorem upd2 (w : World) (m clk : Nat) (es : Array MapEntry) (n : Int) (v : Value) (hb : MapB w m es clk) (hf : Instr.findNow (.int .i64) (.int .i64 n) es.toList 0 = some none) :
    ∃ w1, (Instr.mapUpdate 208 (.map (some m)) (.int .i64 n) v).run Tryz.prog w = .ok () w1 ∧ MapB w1 m (es.push ⟨.int .i64 n, v, clk⟩) (clk + 1) ∧ ∀ a, Keep [] a w → a.heap.size ≤ m → Keep [] a w1 :=
  ⟨_, run_mapUpdate_new Tryz.underlying208 Tryz.underlying3 (isKey_i64 n) hb hf v, setMap_at hb _ _, fun _ K h => setMap_keep K (.inr h) _ _⟩
set_option maxRecDepth 20000 in
set_option maxHeartbeats 1000000 in
theorem ways2_any (w : World) : Calls Tryz.prog 139 #[] w fun e w' =>
    e = .returned (.map (some w.heap.size)) ∧ MapB w' w.heap.size partE 5 ∧ Keep [] w w' := by
  have hmm := @run_makeMap Tryz.prog
  obtain ⟨w1, u1, m1, k1⟩ := upd2 _ _ _ _ 0 (partV 152) (MapB.new w #[] 0) rfl
  obtain ⟨w2, u2, m2, k2⟩ := upd2 _ _ _ _ 1 (partV 152) m1 rfl
  obtain ⟨w3, u3, m3, k3⟩ := upd2 _ _ _ _ 2 (partV 152) m2 rfl
  obtain ⟨w4, u4, m4, k4⟩ := upd2 _ _ _ _ 3 (partV 152) m3 rfl
  obtain ⟨w5, u5, m5, k5⟩ := upd2 _ _ _ _ 4 (partV 153) m4 rfl
  have K5 := k5 _ (k4 _ (k3 _ (k2 _ (k1 _ ((Keep.refl _ w).alloc _) (Nat.le_refl _)) (Nat.le_refl _)) (Nat.le_refl _)) (Nat.le_refl _)) (Nat.le_refl _)
  clear k1 k2 k3 k4 k5 m1 m2 m3 m4
  unfold partV at u1 u2 u3 u4 u5
  go_enter Tryz.func139, Tryz.ntmps139
  go_wp2
  go_ret
  exact ⟨rfl, m5, K5⟩

/-- Which way a kind of token begins: a function's number. -/
def partF (k : Int) : Option Nat := if 0 ≤ k ∧ k ≤ 3 then some 152 else if k = 4 then some 153 else none
theorem findNow_hit2 (c n : Int) (v : Value) (l : List MapEntry) (i b : Nat) (h : c = n) : Instr.findNow (.int .i64) (.int .i64 c) (⟨.int .i64 n, v, b⟩ :: l) i = some (some (i, v)) := by
  subst h
  simp [Instr.findNow, Instr.sameNow]
theorem findNow_pass2 (c n : Int) (v : Value) (l : List MapEntry) (i b : Nat) (h : c ≠ n) : Instr.findNow (.int .i64) (.int .i64 c) (⟨.int .i64 n, v, b⟩ :: l) i = Instr.findNow (.int .i64) (.int .i64 c) l (i + 1) := by
  have : (c == n) = false := by simp; omega
  simp [Instr.findNow, Instr.sameNow, this]
theorem partF_find (c : Int) : ∃ r, Instr.findNow (.int .i64) (.int .i64 c) partE.toList 0 = some r ∧ (r.map (·.2)).getD .nilFunc = (match partF c with | some n => partV n | none => .nilFunc) ∧ r.isSome = (partF c).isSome := by
  have e : partE.toList = [⟨.int .i64 0, partV 152, 0⟩, ⟨.int .i64 1, partV 152, 1⟩, ⟨.int .i64 2, partV 152, 2⟩, ⟨.int .i64 3, partV 152, 3⟩, ⟨.int .i64 4, partV 153, 4⟩] := rfl
  rw [e]
  unfold partF
  by_cases h0 : c = 0
  · exact ⟨_, findNow_hit2 _ _ _ _ _ _ h0, by simp [h0], by simp [h0]⟩
  by_cases h1 : c = 1
  · exact ⟨_, by rw [findNow_pass2 _ _ _ _ _ _ h0, findNow_hit2 _ _ _ _ _ _ h1], by simp [h1], by simp [h1]⟩
  by_cases h2 : c = 2
  · exact ⟨_, by rw [findNow_pass2 _ _ _ _ _ _ h0, findNow_pass2 _ _ _ _ _ _ h1, findNow_hit2 _ _ _ _ _ _ h2], by simp [h2], by simp [h2]⟩
  by_cases h3 : c = 3
  · exact ⟨_, by rw [findNow_pass2 _ _ _ _ _ _ h0, findNow_pass2 _ _ _ _ _ _ h1, findNow_pass2 _ _ _ _ _ _ h2, findNow_hit2 _ _ _ _ _ _ h3], by simp [h3], by simp [h3]⟩
  by_cases h4 : c = 4
  · exact ⟨_, by rw [findNow_pass2 _ _ _ _ _ _ h0, findNow_pass2 _ _ _ _ _ _ h1, findNow_pass2 _ _ _ _ _ _ h2, findNow_pass2 _ _ _ _ _ _ h3, findNow_hit2 _ _ _ _ _ _ h4], by simp [h4], by simp [h4]⟩
  have h5 : ¬(0 ≤ c ∧ c ≤ 3) := by omega
  refine ⟨none, ?_, by simp [h4, h5], by simp [h4, h5]⟩
  rw [findNow_pass2 _ _ _ _ _ _ h0, findNow_pass2 _ _ _ _ _ _ h1, findNow_pass2 _ _ _ _ _ _ h2, findNow_pass2 _ _ _ _ _ _ h3, findNow_pass2 _ _ _ _ _ _ h4]
  rfl
theorem way2_look (w : World) (m : Nat) (c : Int) (clk : Nat) (hb : MapB w m partE clk) :
    (Instr.lookup 208 (.map (some m)) (.int .i64 c) true).run Tryz.prog w = .ok (.tuple #[match partF c with | some n => partV n | none => .nilFunc, .bool (partF c).isSome]) w := by
  obtain ⟨r, hf, hr, hs⟩ := partF_find c
  rw [run_lookup_at Tryz.underlying208 Tryz.underlying3 (isKey_i64 c) hb hf (z := .nilFunc) (by kernel_rfl) true, ← hr, ← hs]
  rfl

theorem Rdr.turn {S : List Nat} {w : World} {b : Nat} {ts : List TokS} {n deep : Int} (h : Rdr S w b ts n deep) (hS : b ∈ S) (x : Int) : Rdr S (w.setCell ⟨b, 2, none⟩ (.int .i64 x)) b ts n x := by
  obtain ⟨v, hB, hT⟩ := h
  exact ⟨v, by simpa using hB.set 2 (.int .i64 x), SlOf.move hT tokRow_stab (by omega) (T := [b]) ((Keep.refl _ _).setCell (by simp) _) (by simp [hS]) (fun x hx => .inl hx)⟩

/-- The reader of one of several, d groups within one another at most. -/
def AltAny (d : Nat) : Prop := ∀ (S : List Nat) (b : Nat) (ts : List TokS) (n deep : Int) (w : World), deep + d = 12 → 0 ≤ deep → ts.length ≤ 600 → Rdr S w b ts n deep → b ∈ S → (∀ x ∈ S, x < w.heap.size) →
  Calls Tryz.prog 71 #[.pointer (some ⟨b, 0, none⟩)] w (PartPost S b n deep w (altR n d ts))

set_option maxRecDepth 20000 in
set_option maxHeartbeats 4000000 in
theorem group_any (S : List Nat) (b : Nat) (t : TokS) (ts : List TokS) (n deep : Int) (w : World) (d : Nat) (hd : deep + d = 12) (h0 : 0 ≤ deep) (hA : ∀ d', d = d' + 1 → AltAny d') (hts : ts.length ≤ 600) (H : Rdr S w b (t :: ts) n deep) (hS : b ∈ S) (hSl : ∀ x ∈ S, x < w.heap.size) :
    Calls Tryz.prog 153 #[.pointer (some ⟨b, 0, none⟩)] w (AtomPost S b n deep w (t :: ts) (groupR n (deeper n d) t ts)) := by
  have hblt := H.lt
  have K0 := (Keep.refl [] w).alloc (.cells partZ 85)
  have R0 := H.move (S' := w.heap.size :: S) K0 (by simp) (fun x hx => by rcases List.mem_cons.1 hx with rfl | h; exact .inr (by omega); exact .inl h)
  have H0 := H.move (S' := S) K0 (by simp) (fun x hx => .inl hx)
  have ZB := Blk.new w partZ 85
  have RC := R0
  obtain ⟨v0, hB0, _⟩ := RC
  have c2 := hB0.cell 2
  unfold partZ at R0 H0 c2
  generalize hres : groupR n (deeper n d) t ts = res
  unfold groupR at hres
  cases hi : isR 4 (sg 40) (t :: ts)
  · rw [hi] at hres
    simp only [Bool.false_eq_true, if_false] at hres
    subst hres
    go_enter Tryz.func153, Tryz.ntmps153
    go_wp2_with fail
    refine (ris_any S b (t :: ts) n deep 4 (sg 40) _ H0).mono ?_
    rintro e w1 ⟨rfl, rfl⟩
    rw [hi]
    go_wp2
    refine bodyPost_ret (v := .tuple #[.agg partZ, .bool false]) (by simp [results, Tryz.results153, go_sem, partZ]) rfl ⟨?_, rfl, ?_⟩
    · exact (Keep.refl _ _).alloc _
    · exact H0
  · rw [hi] at hres
    simp only [if_true] at hres
    cases d with
    | zero =>
      simp only [deeper] at hres
      subst hres
      have hq : (deep == 12) = true := by simp; omega
      obtain rfl : deep = 12 := by omega
      go_enter Tryz.func153, Tryz.ntmps153
      go_wp2_with fail
      refine (ris_any S b (t :: ts) n 12 4 (sg 40) _ H0).mono ?_
      rintro e w1 ⟨rfl, rfl⟩
      rw [hi]
      go_wp2_with fail
      refine (fail_any S b (t :: ts) n 12 4 _ H0).mono ?_
      rintro e w1 ⟨rfl, K1⟩
      unfold PanE
      go_wp2
      exact ⟨rfl, (K0.trans K1).mono (by simp), rfl⟩
    | succ d =>
      simp only [deeper] at hres
      have HRES := Lib.hid hres; clear hres
      have hq : (deep == 12) = false := by simp; omega
      have hw1 : IntKind.i64.wrap (deep + 1) = deep + 1 := IntWalk.i64_in _ (by omega)
      have hAlt := hA d rfl
      go_enter Tryz.func153, Tryz.ntmps153
      go_wp2_with fail
      refine (ris_any S b (t :: ts) n deep 4 (sg 40) _ H0).mono ?_
      rintro e w1 ⟨rfl, rfl⟩
      rw [hi]
      go_wp2_with fail
      refine (sign2_any (w.heap.size :: S) b (t :: ts) n deep (sg 40) _ R0 (by simp [hS])).mono ?_
      rintro e w1 ⟨rfl, R1, K1⟩
      rw [hi] at R1
      simp only [if_true, List.tail_cons] at R1
      have Z1 := ZB.keep K1 (by simp; omega)
      have RC := R1
      obtain ⟨v1, hB1, _⟩ := RC
      have d2 := hB1.cell 2
      have f2 := hB1.frozen 2
      clear hB1
      have R2 := R1.turn (by simp [hS]) (deep + 1)
      have K2 : Keep [b] w1 (w1.setCell ⟨b, 2, none⟩ (.int .i64 (deep + 1))) := (Keep.refl _ _).setCell (by simp) _
      have hs1 := Z1.lt
      have hs0 := K0.size
      go_wp2_with fail
      refine (hAlt (w.heap.size :: S) b ts n (deep + 1) _ (by omega) (by omega) hts R2 (by simp [hS]) (fun x hx => by rcases List.mem_cons.1 hx with rfl | h; simpa using hs1; have := hSl x h; simp; omega)).mono ?_
      rintro e w3 ⟨K3, hP⟩
      have K13 := (K0.mono (S' := [b]) (by simp)).trans (K1.trans (K2.trans K3))
      cases hr : altR n d ts with
      | error x =>
        rw [hr] at hP
        simp only at hP
        subst hP
        unfold PanE
        go_wp2
        have hres := HRES.out
        simp only [hr] at hres
        subst hres
        exact ⟨rfl, K13, rfl⟩
      | ok q =>
        obtain ⟨p, ts1⟩ := q
        rw [hr] at hP
        obtain ⟨row, rfl, hp, R3⟩ := hP
        obtain ⟨k, tt, A, m, C, B, m', D, a, hrow, rfl, rfl⟩ := PartAt.form hp
        subst hrow
        have Z3 := (Z1.keep K2 (by simp; omega)).keep K3 (by simp; omega)
        have RC := R3
        obtain ⟨v3, hB3, _⟩ := RC
        have e2 := hB3.cell 2
        have f3 := hB3.frozen 2
        have hb3 := hB3.lt
        clear hB3
        have hw2 : IntKind.i64.wrap (deep + 1 - 1) = deep := by rw [Int.add_sub_cancel]; exact IntWalk.i64_in _ (by omega)
        have K4 : Keep [b] w3 ((w3.setCell ⟨b, 2, none⟩ (.int .i64 deep)).alloc (.cells #[.int .i64 p.k, .string tt, .slice A m C, .slice B m' D, .int .i64 p.a] 85)) := ((Keep.refl _ _).setCell (by simp) _).alloc _
        have R4 := (R3.turn (by simp [hS]) deep).move (S' := w.heap.size :: S) ((Keep.refl [] _).alloc (.cells #[.int .i64 p.k, .string tt, .slice A m C, .slice B m' D, .int .i64 p.a] 85)) (by simp) (fun x hx => .inl hx)
        have hp4 := partAt_stab _ _ (w.heap.size :: S) _ _ _ _ hp K4 (by simp [hS]) (fun x hx => .inl hx)
        have Z4 := Z3.keep K4 (by simp; omega)
        have P4 := Blk.new (w3.setCell ⟨b, 2, none⟩ (.int .i64 deep)) #[.int .i64 p.k, .string tt, .slice A m C, .slice B m' D, .int .i64 p.a] 85
        have hs3 : (w3.setCell ⟨b, 2, none⟩ (.int .i64 deep)).heap.size = w3.heap.size := by simp [World.setCell]
        rw [hs3] at P4
        go_wp2_with fail
        refine (take_any (w.heap.size :: S) b ts1 n deep 4 (sg 41) _ R4 (by simp [hS])).mono ?_
        rintro e w5 ⟨K5, hT⟩
        have K15 := K13.trans (K4.trans K5)
        cases ht : takeR n 4 (sg 41) ts1 with
        | error x =>
          rw [ht] at hT
          simp only at hT
          subst hT
          unfold PanE
          go_wp2
          have hres := HRES.out
          simp only [hr, ht] at hres
          subst hres
          exact ⟨rfl, K15, rfl⟩
        | ok q =>
          obtain ⟨t2, ts2⟩ := q
          rw [ht] at hT
          obtain ⟨A5, m5, C5, rfl, _, R5⟩ := hT
          have Z5 := Z4.keep K5 (by simp; omega)
          have P5 := P4.keep K5 (by simp; omega)
          have hp5 := partAt_stab _ _ (w.heap.size :: S) _ _ _ _ hp4 K5 (by simp [hS]) (fun x hx => .inl hx)
          have z1 := Z5.lt
          have z2 := P5.lt
          have cZ := Z5.cell
          have fZ := Z5.frozen
          have cP := P5.cell
          unfold partZ at cZ
          have BF := Z5.set5 (.int .i64 p.k) (.string tt) (.slice A m C) (.slice B m' D) (.int .i64 p.a)
          have KF : Keep [w.heap.size] w5 (set5 w5 w.heap.size (.int .i64 p.k) (.string tt) (.slice A m C) (.slice B m' D) (.int .i64 p.a)) := (Keep.refl _ _).set5 (by simp) _ _ _ _ _
          have hS5 : ∀ x ∈ S, x ∈ w.heap.size :: S ∨ w5.heap.size ≤ x := fun x hx => .inl (by simp [hx])
          have hpF := partAt_stab _ _ S _ _ _ _ hp5 KF (by simp) hS5
          have RF := R5.move KF (fun x hx => .inl (by simp at hx; subst hx; exact ⟨by simp, by omega⟩)) hS5
          have K1F := K15.set5 (b := w.heap.size) (.inr (Nat.le_refl _)) (.int .i64 p.k) (.string tt) (.slice A m C) (.slice B m' D) (.int .i64 p.a)
          have cF := BF.cell
          unfold set5 at cF
          have CF := Lib.hid cF; clear cF BF
          go_wp2
          have cF := CF.out
          have hres := HRES.out
          simp only [hr, ht] at hres
          subst hres
          exact bodyPost_ret (v := .tuple #[.agg #[.int .i64 p.k, .string tt, .slice A m C, .slice B m' D, .int .i64 p.a], .bool true]) (by simp [results, Tryz.results153, go_sem, cF]) rfl ⟨K1F, _, rfl, hpF, RF⟩

set_option maxRecDepth 20000 in
set_option maxHeartbeats 4000000 in
theorem atom_any (S : List Nat) (b : Nat) (ts : List TokS) (n deep : Int) (w : World) (d : Nat) (hd : deep + d = 12) (h0 : 0 ≤ deep) (hA : ∀ d', d = d' + 1 → AltAny d') (hts : ts.length ≤ 600) (H : Rdr S w b ts n deep) (hS : b ∈ S) (hSl : ∀ x ∈ S, x < w.heap.size) :
    Calls Tryz.prog 126 #[.pointer (some ⟨b, 0, none⟩)] w (AtomPost S b n deep w ts (atomR n (deeper n d) ts)) := by
  have hblt := H.lt
  have K0 := (Keep.refl [] w).alloc (.cells partZ 85)
  have R0 := H.move (S' := w.heap.size :: S) K0 (by simp) (fun x hx => by rcases List.mem_cons.1 hx with rfl | h; exact .inr (by omega); exact .inl h)
  have H0 := H.move (S' := S) K0 (by simp) (fun x hx => .inl hx)
  have ZB := Blk.new w partZ 85
  cases ts with
  | nil =>
    have HC := H
    obtain ⟨v0, hB0, hT⟩ := HC
    obtain ⟨A, C, rfl, _⟩ := SlOf.at hT
    have c0 := hB0.cell 0
    unfold partZ at H0
    go_enter Tryz.func126, Tryz.ntmps126
    go_wp2
    exact bodyPost_ret (v := .tuple #[.agg partZ, .bool false]) (by simp [results, Tryz.results126, go_sem, partZ]) rfl ⟨(Keep.refl _ _).alloc _, rfl, H0⟩
  | cons t ts =>
    generalize hres : atomR n (deeper n d) (t :: ts) = res
    have HRES := Lib.hid hres; clear hres
    have HC := R0
    obtain ⟨v0, hB0, hT⟩ := HC
    obtain ⟨B, o, c, A, m, C, rfl, hb, c0, c1, c2, c3, _⟩ := hT.head
    have b0 := hB0.cell 0
    have hx0 : (0 : Int) < (ts.length : Int) + 1 := by omega
    unfold partZ at c0 b0
    go_enter Tryz.func126, Tryz.ntmps126
    go_wp2
    go_region_held3 (fun w' => w'.cell? ⟨b, 0, none⟩ = some (.slice (some ⟨B, o, none⟩) (ts.length + 1) c) ∧ w'.cell? ⟨B, o, none⟩ = some (.int .i64 t.k)) ((first | go_keep | exact ⟨Keep.cell ‹Keep [] _ _› b0 (by simp), Keep.cell ‹Keep [] _ _› c0 (by simp)⟩)) ((go_at_call 139; refine (ways2_any _).mono ?_; rintro e w' ⟨rfl, M, K⟩; have K := (Keep.refl [] (w.alloc (.cells #[.int .i64 0, .string { data := #[] }, .slice none 0 0, .slice none 0 0, .int .i64 0] 85))).drew.trans K; have hl := way2_look w' _ t.k 5 M; have hl2 := way2_look w' (w.heap.size + 1) t.k 5 (by simpa using M)))
    rename World => w1
    clear hl hl2
    have K1 : Keep [] (w.alloc (.cells partZ 85)) w1 := K
    have KW := (K0.trans K1).mono (S' := [b]) (by simp)
    have R1 := R0.move K1 (by simp) (fun x hx => .inl hx)
    have Z1 := ZB.keep K1 (by simp)
    have hs1 := Z1.lt
    by_cases hin : (0 ≤ t.k ∧ t.k ≤ 3) ∨ t.k = 4
    · have hcall : (partF t.k = some 152 ∧ Calls Tryz.prog 152 #[.pointer (some ⟨b, 0, none⟩)] w1 (AtomPost (w.heap.size :: S) b n deep w1 (t :: ts) res)) ∨
          (partF t.k = some 153 ∧ Calls Tryz.prog 153 #[.pointer (some ⟨b, 0, none⟩)] w1 (AtomPost (w.heap.size :: S) b n deep w1 (t :: ts) res)) := by
        have hres := HRES.out
        have hSl1 : ∀ x ∈ w.heap.size :: S, x < w1.heap.size := fun x hx => by rcases List.mem_cons.1 hx with rfl | h; exact hs1; have := hSl x h; omega
        simp only [atomR] at hres
        rcases hin with h | h
        · rw [if_pos h] at hres
          exact .inl ⟨by simp [partF, h], hres ▸ plain_any (w.heap.size :: S) b t ts n deep w1 R1 (by simp [hS]) hSl1 h.1 h.2⟩
        · rw [if_neg (by omega), if_pos h] at hres
          exact .inr ⟨by simp [partF, h], hres ▸ group_any (w.heap.size :: S) b t ts n deep w1 d hd h0 hA (by simp at hts; omega) R1 (by simp [hS]) hSl1⟩
      clear HRES hA H R0 H0 hT hB0 c0 c1 c2 c3 b0 M K
      rcases hcall with ⟨hpf, hcall⟩ | ⟨hpf, hcall⟩
      all_goals
        simp only [hpf, Option.isSome, partV]
        clear hpf
        go_wp2_with fail
        refine hcall.mono ?_
        rintro e w2 ⟨K2, hP⟩
        have Z2 := Z1.keep K2 (by simp; omega)
        have KF := KW.trans K2
        clear hcall
        cases res with
        | error x =>
          simp only at hP
          subst hP
          unfold PanE
          go_wp2
          exact ⟨rfl, KF, rfl⟩
        | ok q =>
          cases q with
          | none =>
            obtain ⟨rfl, R2⟩ := hP
            have cZ := Z2.cell
            have fZ := Z2.frozen
            have z2 := Z2.lt
            unfold partZ at cZ
            have BF := Z2.set5 (.int .i64 0) (.string { data := #[] }) (.slice none 0 0) (.slice none 0 0) (.int .i64 0)
            have RF := R2.move (S' := S) ((Keep.refl [w.heap.size] w2).set5 (b := w.heap.size) (by simp) (.int .i64 0) (.string { data := #[] }) (.slice none 0 0) (.slice none 0 0) (.int .i64 0)) (fun x hx => .inl (by simp at hx; subst hx; exact ⟨by simp, by omega⟩)) (fun x hx => .inl (by simp [hx]))
            have KF := KF.set5 (b := w.heap.size) (.inr (Nat.le_refl _)) (.int .i64 0) (.string { data := #[] }) (.slice none 0 0) (.slice none 0 0) (.int .i64 0)
            have cF := BF.cell
            unfold set5 at cF
            have CF := Lib.hid cF; clear cF BF
            go_wp2
            have cF := CF.out
            exact bodyPost_ret (v := .tuple #[.agg partZ, .bool false]) (by simp [results, Tryz.results126, go_sem, cF, partZ]) rfl ⟨KF, rfl, RF⟩
          | some q =>
            obtain ⟨p, ts1⟩ := q
            obtain ⟨row, rfl, hp, R2⟩ := hP
            obtain ⟨k, tt, A, m, C, B, m', D, a, hrow, rfl, rfl⟩ := PartAt.form hp
            subst hrow
            have cZ := Z2.cell
            have fZ := Z2.frozen
            have z2 := Z2.lt
            unfold partZ at cZ
            have hS5 : ∀ x ∈ S, x ∈ w.heap.size :: S ∨ w2.heap.size ≤ x := fun x hx => .inl (by simp [hx])
            have K5 := (Keep.refl [w.heap.size] w2).set5 (b := w.heap.size) (by simp) (.int .i64 p.k) (.string tt) (.slice A m C) (.slice B m' D) (.int .i64 p.a)
            have BF := Z2.set5 (.int .i64 p.k) (.string tt) (.slice A m C) (.slice B m' D) (.int .i64 p.a)
            have RF := R2.move (S' := S) K5 (fun x hx => .inl (by simp at hx; subst hx; exact ⟨by simp, by omega⟩)) hS5
            have hpF := partAt_stab _ _ S _ _ _ _ hp K5 (by simp) hS5
            have KF := KF.set5 (b := w.heap.size) (.inr (Nat.le_refl _)) (.int .i64 p.k) (.string tt) (.slice A m C) (.slice B m' D) (.int .i64 p.a)
            have cF := BF.cell
            unfold set5 at cF
            have CF := Lib.hid cF; clear cF BF
            go_wp2
            have cF := CF.out
            exact bodyPost_ret (v := .tuple #[.agg #[.int .i64 p.k, .string tt, .slice A m C, .slice B m' D, .int .i64 p.a], .bool true]) (by simp [results, Tryz.results126, go_sem, cF]) rfl ⟨KF, _, rfl, hpF, RF⟩
    · have hpf : partF t.k = none := by simp only [partF]; rw [if_neg (by omega), if_neg (by omega)]
      have hres := HRES.out
      have h1 : ¬(0 ≤ t.k ∧ t.k ≤ 3) := by omega
      have h2 : ¬t.k = 4 := by omega
      simp only [atomR, if_neg h1, if_neg h2] at hres
      subst hres
      clear HRES h1 h2 hin
      have cZ := Z1.cell
      have fZ := Z1.frozen
      unfold partZ at cZ
      have R2 := R1
      have BF := Z1.set5 (.int .i64 0) (.string { data := #[] }) (.slice none 0 0) (.slice none 0 0) (.int .i64 0)
      have RF := R2.move (S' := S) ((Keep.refl [w.heap.size] w1).set5 (b := w.heap.size) (by simp) (.int .i64 0) (.string { data := #[] }) (.slice none 0 0) (.slice none 0 0) (.int .i64 0)) (fun x hx => .inl (by simp at hx; subst hx; exact ⟨by simp, by omega⟩)) (fun x hx => .inl (by simp [hx]))
      have KF := KW.set5 (b := w.heap.size) (.inr (Nat.le_refl _)) (.int .i64 0) (.string { data := #[] }) (.slice none 0 0) (.slice none 0 0) (.int .i64 0)
      have cF := BF.cell
      unfold set5 at cF
      have CF := Lib.hid cF; clear cF BF
      simp only [hpf, Option.isSome]
      go_wp2
      have cF := CF.out
      exact bodyPost_ret (v := .tuple #[.agg partZ, .bool false]) (by simp [results, Tryz.results126, go_sem, cF, partZ]) rfl ⟨KF, rfl, RF⟩
end Go.Proofs.YtbpidoiellcccaaGreatDoor
namespace Go.Proofs.YtbpidoiellcccaaGreatDoor
open Go Go.RowKit Go.MapKept

def lenOf : Value → Nat
  | .slice _ n _ => n
  | _ => 0
theorem Rdr.len {S : List Nat} {w : World} {b : Nat} {ts : List TokS} {n deep : Int} (h : Rdr S w b ts n deep) : lenOf ((w.cell? ⟨b, 0, none⟩).getD undef) = ts.length := by
  obtain ⟨v, hB, hT⟩ := h
  obtain ⟨A, C, rfl, _⟩ := SlOf.at hT
  rw [hB.cell 0]
  rfl
theorem Keep.ofGrown {w w' : World} {v : Value} (hg : w.grownBy w' v.ownBlock) : Keep (ownB v) w w' := ⟨hg.os, hg.tape, hg.output, hg.size, fun b hb hs => hg.block b hb (fun e => hs (by simp [ownB, ← e]))⟩
theorem mem_own {v : Value} {x : Nat} (h : v.ownBlock = some x) : x ∈ ownB v := by simp [ownB, h]
theorem own_new {S : List Nat} {w : World} {v : Value} {g n cap : Nat} (hw : v.ownBlock = some g ∨ g = w.heap.size) : ∀ b ∈ ownB (.slice (some ⟨g, 0, none⟩) n cap) ++ S, b ∈ ownB v ++ S ∨ w.heap.size ≤ b := by
  intro b hb
  rcases List.mem_append.1 hb with hb | hb
  · have : b = g := by simpa [ownB, Value.ownBlock, eq_comm] using hb
    subst this
    rcases hw with hw | hw
    · exact .inl (by simp [ownB, hw])
    · exact .inr (by omega)
  · exact .inl (by simp [hb])
theorem Rdr.grown {S : List Nat} {w w' : World} {b : Nat} {ts : List TokS} {n deep : Int} {v : Value} {g k cap : Nat} (h : Rdr (ownB v ++ S) w b ts n deep) (hg : w.grownBy w' v.ownBlock) (hw : v.ownBlock = some g ∨ g = w.heap.size) (hb : b ∉ ownB v) :
    Rdr (ownB (.slice (some ⟨g, 0, none⟩) k cap) ++ S) w' b ts n deep :=
  h.move (Keep.ofGrown hg) (fun x hx => .inl ⟨by simp [hx], fun e => hb (e ▸ hx)⟩) (own_new hw)
theorem OwnL.single {α : Type} {R : List Nat → World → α → Array Value → Prop} {S : List Nat} {w : World} {base : Nat} {E : TypeId} {k g : Nat} {x : α} {row : Array Value} (hB : Blk w g row E) (hk : row.size = k) (hg : base ≤ g) (hx : R (g :: S) w x row) :
    OwnL R S w base E k (.slice (some ⟨g, 0, none⟩) 1 1) [x] := by
  refine ⟨[row], rfl, ⟨by simp [hk], .inr ⟨g, 1, row, rfl, hg, hB, by simp, by decide, by simp [hk], by simp [← hk, List.take_of_length_le]⟩⟩, fun i hi hi' => ?_⟩
  obtain rfl : i = 0 := by simpa using hi
  exact ⟨hk, hx⟩
theorem info_part : (Tryz.prog.info? 85).map (fun i => (i.zero, i.size, i.bytes)) = some (some (.agg #[.int .i64 0, .string { data := #[] }, .slice none 0 0, .slice none 0 0, .int .i64 0]), 5, 80) := by kernel_rfl

theorem seqL_go {atom : List TokS → Except Err (Option (PartS × List TokS))} {f : Nat} {l : List PartS} {ts : List TokS} (hf : 0 < f) {p : PartS} {ts1 : List TokS} (h : atom ts = .ok (some (p, ts1))) : seqL atom f l ts = seqL atom (f - 1) (l ++ [(oftenR p ts1).1]) (oftenR p ts1).2 := by
  obtain ⟨m, rfl⟩ : ∃ m, f = m + 1 := ⟨f - 1, by omega⟩
  rw [seqL, h]; rfl
theorem seqL_end {atom : List TokS → Except Err (Option (PartS × List TokS))} {f : Nat} {l : List PartS} {ts : List TokS} (hf : 0 < f) (h : atom ts = .ok none) : seqL atom f l ts = .ok (l, ts) := by
  obtain ⟨m, rfl⟩ : ∃ m, f = m + 1 := ⟨f - 1, by omega⟩
  rw [seqL, h]
theorem seqL_bad {atom : List TokS → Except Err (Option (PartS × List TokS))} {f : Nat} {l : List PartS} {ts : List TokS} (hf : 0 < f) {e : Err} (h : atom ts = .error e) : seqL atom f l ts = .error e := by
  obtain ⟨m, rfl⟩ : ∃ m, f = m + 1 := ⟨f - 1, by omega⟩
  rw [seqL, h]
/-- What the walk of seq knows at the head of a round. -/
def SeqAt (S : List Nat) (b : Nat) (n deep : Int) (N : Nat) (atom : List TokS → Except Err (Option (PartS × List TokS))) (w : World) (goal : Except Err (List PartS × List TokS)) (v : Value) (wr : World) : Prop :=
  ∃ (f : Nat) (l : List PartS) (tr : List TokS), tr.length < f ∧ l.length + tr.length ≤ N ∧ Rdr (ownB v ++ w.heap.size :: S) wr b tr n deep ∧ OwnL PartAt (w.heap.size :: S) wr (w.heap.size + 1) 85 5 v l ∧ Blk wr w.heap.size partZ 85 ∧ Keep [b] w wr ∧ seqL atom f l tr = goal

set_option maxRecDepth 20000 in
set_option maxHeartbeats 4000000 in
theorem seq_any (S : List Nat) (b : Nat) (ts : List TokS) (n deep : Int) (w : World) (d : Nat) (hd : deep + d = 12) (h0 : 0 ≤ deep) (hA : ∀ d', d = d' + 1 → AltAny d') (hts : ts.length ≤ 600) (H : Rdr S w b ts n deep) (hS : b ∈ S) (hSl : ∀ x ∈ S, x < w.heap.size) :
    Calls Tryz.prog 100 #[.pointer (some ⟨b, 0, none⟩)] w (PartPost S b n deep w (seqR n (deeper n d) ts)) := by
  have hblt := H.lt
  have K0 := (Keep.refl [] w).alloc (.cells partZ 85)
  have R0 := H.move (S' := w.heap.size :: S) K0 (by simp) (fun x hx => by rcases List.mem_cons.1 hx with rfl | h; exact .inr (by omega); exact .inl h)
  have ZB := Blk.new w partZ 85
  generalize hres : seqR n (deeper n d) ts = res
  have HRES := Lib.hid hres; clear hres
  have hst : SeqAt S b n deep ts.length (atomR n (deeper n d)) w (seqL (atomR n (deeper n d)) (ts.length + 1) [] ts) (.slice none 0 0) (w.alloc (.cells partZ 85)) :=
    ⟨_, [], ts, by omega, by simp, R0, OwnL.nil _ _ _ _ _, ZB, K0.mono (by simp), rfl⟩
  have HST := Lib.hid hst; clear hst
  unfold partZ at R0
  go_enter Tryz.func100, Tryz.ntmps100
  go_wp2_with fail
  refine (place_any _ b ts n deep _ R0).mono ?_
  rintro e w1 ⟨rfl, rfl⟩
  go_wp2
  go_loopw [4] (fun v wr => SeqAt S b n deep ts.length (atomR n (deeper n d)) w (seqL (atomR n (deeper n d)) (ts.length + 1) [] ts) v wr) (fun _ wr => lenOf ((wr.cell? ⟨b, 0, none⟩).getD undef))
  case atStart => exact HST.out
  case round =>
    clear HST R0 ZB H
    obtain ⟨f, l, tr, hf, hl, Hr, Hown, Zr, Kr, hg⟩ := hrel
    have HG := Lib.hid hg; clear hg
    have HM := Lib.hid Hr.len
    obtain ⟨A, C, rfl⟩ := Hown.slice
    have hzr := Zr.lt
    have hbo : b ∉ ownB (.slice A l.length C) := fun h => by have := (Hown.base b h).1; omega
    have hSr : ∀ x ∈ ownB (.slice A l.length C) ++ w.heap.size :: S, x < wr.heap.size := fun x hx => by
      rcases List.mem_append.1 hx with h | h
      · exact (Hown.base x h).2
      · rcases List.mem_cons.1 h with rfl | h
        · exact hzr
        · have := hSl x h; omega
    go_wp2_with fail
    refine (atom_any _ b tr n deep wr d hd h0 hA (by omega) Hr (by simp [hS]) hSr).mono ?_
    rintro e w2 ⟨K2, hP⟩
    have Z2 := Zr.keep K2 (by simp; omega)
    have KF := Kr.trans K2
    have z2 := Z2.lt
    have HO := Hown.move partAt_stab (S' := w.heap.size :: S) K2 (fun x hx => by simp at hx; subst hx; exact .inl ⟨by simp [hS], hbo⟩) (fun x hx => .inl hx)
    clear Hr Hown Zr Kr
    cases ha : atomR n (deeper n d) tr with
    | error x =>
      rw [ha] at hP
      simp only at hP
      subst hP
      have hres := HRES.out
      simp only [seqR, ← HG.out, seqL_bad (f := f) (l := l) (by omega) ha] at hres
      have HRES := Lib.hid hres; clear hres
      unfold PanE
      go_wp2
      have hres := HRES.out
      subst hres
      exact ⟨rfl, KF, rfl⟩
    | ok q =>
      cases q with
      | none =>
        rw [ha] at hP
        obtain ⟨rfl, R2⟩ := hP
        have hres := HRES.out
        simp only [seqR, ← HG.out, seqL_end (f := f) (l := l) (by omega) ha] at hres
        have HRES := Lib.hid hres; clear hres
        have K3 := (Keep.refl [] w2).alloc (.cells partZ 85)
        have HL := (HO.move partAt_stab (S' := w.heap.size :: S) K3 (by simp) (fun x hx => .inl hx)).read (S' := w.heap.size :: S) partAt_stab (fun x hx => .inl hx) (fun x hx hx' => by
          have h1 := HO.base x hx
          rcases List.mem_cons.1 hx' with rfl | h
          · omega
          · have := hSl x h; omega)
        have R3 := R2.move (S' := w.heap.size :: S) K3 (by simp) (fun x hx => .inl (by simp [List.mem_cons.1 hx]))
        have Z3 := Z2.alloc (.cells partZ 85)
        unfold partZ at HL
        go_wp2_with fail
        refine (one_any (w.heap.size :: S) 4 (placeR n ts) _ l _ HL).mono ?_
        rintro e w4 ⟨⟨row, rfl, hp⟩, K4⟩
        obtain ⟨k, tt, A', m, C', B, m', D, a, hrow, hka, haa⟩ := PartAt.form hp
        subst hrow
        clear hka haa
        have K34 := K3.trans K4
        have Z4 := Z3.keep K4 (by simp)
        have z4 := Z4.lt
        have cZ := Z4.cell
        have fZ := Z4.frozen
        unfold partZ at cZ
        have R4 := R2.move (S' := w.heap.size :: S) K34 (by simp) (fun x hx => .inl (by simp [List.mem_cons.1 hx]))
        have hS5 : ∀ x ∈ S, x ∈ w.heap.size :: S ∨ w4.heap.size ≤ x := fun x hx => .inl (by simp [hx])
        have K5 := (Keep.refl [w.heap.size] w4).set5 (b := w.heap.size) (by simp) (.int .i64 k) (.string tt) (.slice A' m C') (.slice B m' D) (.int .i64 a)
        have BF := Z4.set5 (.int .i64 k) (.string tt) (.slice A' m C') (.slice B m' D) (.int .i64 a)
        have RF := R4.move (S' := S) K5 (fun x hx => .inl (by simp at hx; subst hx; exact ⟨by simp, by omega⟩)) hS5
        have hpF := partAt_stab _ _ S _ _ _ _ hp K5 (by simp) hS5
        have KF := (KF.trans (K34.mono (by simp))).set5 (b := w.heap.size) (.inr (Nat.le_refl _)) (.int .i64 k) (.string tt) (.slice A' m C') (.slice B m' D) (.int .i64 a)
        have cF := BF.cell
        unfold set5 at cF
        have CF := Lib.hid cF; clear cF BF
        go_wp2
        have cF := CF.out
        have hres := HRES.out
        subst hres
        exact bodyPost_ret (v := .agg #[.int .i64 k, .string tt, .slice A' m C', .slice B m' D, .int .i64 a]) (by simp [results, Tryz.results100, go_sem, cF]) rfl ⟨KF, _, rfl, hpF, RF⟩
      | some q =>
        obtain ⟨p, ts1⟩ := q
        rw [ha] at hP
        obtain ⟨row, rfl, hp, R2⟩ := hP
        obtain ⟨k, tt, A', m, C', B, m', D, a, hrow, rfl, rfl⟩ := PartAt.form hp
        subst hrow
        have hg := HG.out
        rw [seqL_go (by omega) ha] at hg
        have HG := Lib.hid hg; clear hg
        have K3 := (Keep.refl [] w2).alloc (.cells #[.int .i64 p.k, .string tt, .slice A' m C', .slice B m' D, .int .i64 p.a] 85)
        have R3 := R2.move K3 (by simp) (fun x hx => .inl hx)
        have hp3 := partAt_stab _ _ (ownB (.slice A l.length C) ++ w.heap.size :: S) _ _ _ _ hp K3 (by simp) (fun x hx => .inl hx)
        go_wp2_with fail
        refine (often_any (ownB (.slice A l.length C) ++ w.heap.size :: S) b ts1 n deep p _ _ R3 (by simp [hS]) (fun x hx => by have := hSr x hx; have := K2.size; simp; omega) hp3).mono ?_
        rintro e w4 ⟨⟨row, rfl, hp4⟩, R4, K4⟩
        obtain ⟨k, tt, A', m, C', B, m', D, a, hrow, hka, haa⟩ := PartAt.form hp4
        subst hrow
        clear hka haa
        have K34 := (K3.mono (S' := [b]) (by simp)).trans K4
        have HO4 := HO.move partAt_stab (S' := w.heap.size :: S) K34 (fun x hx => by simp at hx; subst hx; exact .inl ⟨by simp [hS], hbo⟩) (fun x hx => .inl hx)
        have Z4 := (Z2.keep K3 (by simp)).keep K4 (by simp; omega)
        have KF4 := KF.trans K34
        have z4 := Z4.lt
        have HB := Lib.hid HO4.base
        have hal := atomR_len (fun f h => deeper_short n d f h) ha
        have hol := oftenR_len p ts1
        obtain ⟨i0, hi0, hz0, hz1, hz2⟩ := info_parts info_part
        obtain ⟨rows, hlr, hown, hel⟩ := HO4
        have HEL := Lib.hid hel; clear hel HO
        go_wp2_with (at_builtin; go_loud (refine wpList_append_lies _ rfl _ _ 83 rfl (w.heap.size + 1) 85 i0 (.agg #[.int .i64 0, .string { data := #[] }, .slice none 0 0, .slice none 0 0, .int .i64 0]) 5 80 Tryz.underlying83 hi0 hz0 hz1 hz2 rfl (by decide) _ l.length _ rfl (hown.alloc _) ⟨w4.heap.size, 0, none⟩ 1 1 [.int .i64 k, .string tt, .slice A' m C', .slice B m' D, .int .i64 a] rfl rfl (World.news_of_block (Blk.new' _ _ _ (by simp))) (by simp [Value.oneCell']) (by decide) (by unfold maxLen; omega) (by omega) (by simp; omega) _ rfl ?_); intro g cap w5 O5 G5 W5 L5)
        have K6 : Keep [] w4 (w4.alloc (.cells #[.int .i64 k, .string tt, .slice A' m C', .slice B m' D, .int .i64 a] 85)) := (Keep.refl _ _).alloc _
        have hap := OwnL.append rows hlr (fun i hi hi' => ⟨(HEL.out i hi hi').1, partAt_stab _ _ _ _ _ _ _ (HEL.out i hi hi').2 K6 (by simp) (fun x hx => .inl hx)⟩) partAt_stab (partAt_stab _ _ _ _ _ _ _ hp4 K6 (by simp) (fun x hx => .inl hx)) rfl O5 G5 W5
        have R6 := (R4.move (S' := ownB (.slice A l.length C) ++ w.heap.size :: S) K6 (by simp) (fun x hx => .inl hx)).grown (k := l.length + 1) (cap := cap) G5 W5 hbo
        have hz : w.heap.size ∉ ownB (.slice A l.length C) := fun h => by have := (HB.out _ h).1; omega
        have Z6 := Blk.grown (Z4.alloc _) G5 (fun e => hz (mem_own e))
        have K7 := (KF4.trans (K6.mono (by simp))).grown G5 (fun x hx => .inr (by have := (HB.out x (mem_own hx)).1; omega))
        refine ⟨⟨f - 1, l ++ [(oftenR p ts1).1], (oftenR p ts1).2, by omega, by simp; omega, R6, hap, Z6, K7, HG.out⟩, ?_⟩
        rw [HM.out, R6.len]
        omega

theorem altL_go {seq : List TokS → PRes} {f : Nat} {l : List PartS} {ts : List TokS} (hf : 0 < f) (hi : isR 4 (sg 124) ts = true) {p : PartS} {ts1 : List TokS} (h : seq ts.tail = .ok (p, ts1)) : altL seq f l ts = altL seq (f - 1) (l ++ [p]) ts1 := by
  obtain ⟨m, rfl⟩ : ∃ m, f = m + 1 := ⟨f - 1, by omega⟩
  rw [altL, if_pos hi, h]; rfl
theorem altL_bad {seq : List TokS → PRes} {f : Nat} {l : List PartS} {ts : List TokS} (hf : 0 < f) (hi : isR 4 (sg 124) ts = true) {e : Err} (h : seq ts.tail = .error e) : altL seq f l ts = .error e := by
  obtain ⟨m, rfl⟩ : ∃ m, f = m + 1 := ⟨f - 1, by omega⟩
  rw [altL, if_pos hi, h]
theorem altL_end {seq : List TokS → PRes} {f : Nat} {l : List PartS} {ts : List TokS} (hf : 0 < f) (hi : isR 4 (sg 124) ts = false) : altL seq f l ts = .ok (l, ts) := by
  obtain ⟨m, rfl⟩ : ∃ m, f = m + 1 := ⟨f - 1, by omega⟩
  rw [altL, if_neg (by simp [hi])]
/-- What the walk of alt knows at the head of a round. -/
def AltAt (S : List Nat) (b : Nat) (n deep : Int) (N : Nat) (seq : List TokS → PRes) (p0 : PartS) (w : World) (goal : Except Err (List PartS × List TokS)) (v : Value) (wr : World) : Prop :=
  ∃ (f : Nat) (l : List PartS) (tr : List TokS), tr.length < f ∧ l.length + tr.length ≤ N + 1 ∧ Rdr (ownB v ++ w.heap.size :: S) wr b tr n deep ∧ OwnL PartAt (w.heap.size :: S) wr (w.heap.size + 1) 85 5 v (p0 :: l) ∧ Blk wr w.heap.size partZ 85 ∧ Keep [b] w wr ∧ altL seq f (p0 :: l) tr = goal

set_option maxRecDepth 20000 in
set_option maxHeartbeats 4000000 in
theorem alt_any (d : Nat) (hA : ∀ d', d = d' + 1 → AltAny d') : AltAny d := by
  intro S b ts n deep w hd h0 hts H hS hSl
  have hblt := H.lt
  have K0 := (Keep.refl [] w).alloc (.cells partZ 85)
  have R0 := H.move (S' := w.heap.size :: S) K0 (by simp) (fun x hx => by rcases List.mem_cons.1 hx with rfl | h; exact .inr (by omega); exact .inl h)
  have ZB := Blk.new w partZ 85
  generalize hres : altR n d ts = res
  rw [altR_eq] at hres
  have HRES := Lib.hid hres; clear hres
  have hS0 : ∀ x ∈ w.heap.size :: S, x < (w.alloc (.cells partZ 85)).heap.size := fun x hx => by rcases List.mem_cons.1 hx with rfl | h; simp; have := hSl x h; simp; omega
  unfold partZ at R0 hS0
  go_enter Tryz.func71, Tryz.ntmps71
  go_wp2_with fail
  refine (seq_any _ b ts n deep _ d hd h0 hA hts R0 (by simp [hS]) hS0).mono ?_
  rintro e w1 ⟨K1, hP⟩
  have Z1 := ZB.keep K1 (by simp; omega)
  have KF := (K0.mono (S' := [b]) (by simp)).trans K1
  have z1 := Z1.lt
  clear H R0 ZB hS0
  cases ha : seqR n (deeper n d) ts with
  | error x =>
    rw [ha] at hP
    simp only at hP
    subst hP
    have hres := HRES.out
    simp only [altOf, ha] at hres
    have HRES := Lib.hid hres; clear hres
    unfold PanE
    go_wp2
    have hres := HRES.out
    subst hres
    exact ⟨rfl, KF, rfl⟩
  | ok q =>
    obtain ⟨p0, ts1⟩ := q
    rw [ha] at hP
    obtain ⟨row, rfl, hp, R1⟩ := hP
    obtain ⟨k, tt, A', m, C', B, m', D, a, hrow, hka, haa⟩ := PartAt.form hp
    subst hrow
    clear hka haa
    have hle := seqR_short (deeper_short n d) _ _ _ ha
    have hst : AltAt S b n deep ts1.length (seqR n (deeper n d)) p0 w (altL (seqR n (deeper n d)) (ts1.length + 1) [p0] ts1) (.slice (some ⟨w1.heap.size, 0, none⟩) 1 1) (w1.alloc (.cells #[.int .i64 k, .string tt, .slice A' m C', .slice B m' D, .int .i64 a] 85)) := by
      have K2 := (Keep.refl [] w1).alloc (.cells #[.int .i64 k, .string tt, .slice A' m C', .slice B m' D, .int .i64 a] 85)
      have hS2 : ∀ x ∈ w1.heap.size :: w.heap.size :: S, x ∈ w.heap.size :: S ∨ w1.heap.size ≤ x := fun x hx => by
        rcases List.mem_cons.1 hx with rfl | h
        · exact .inr (Nat.le_refl _)
        · exact .inl h
      exact ⟨_, [], ts1, by omega, by simp, R1.move K2 (by simp) hS2, OwnL.single (Blk.new _ _ _) rfl (by omega) (partAt_stab _ _ _ _ _ _ _ hp K2 (by simp) hS2), Z1.alloc _, KF.alloc _, rfl⟩
    have HST := Lib.hid hst; clear hst
    have hres := HRES.out
    simp only [altOf, ha] at hres
    have HRES := Lib.hid hres; clear hres hp R1 ha
    go_wp2
    go_loopw [3] (fun v wr => AltAt S b n deep ts1.length (seqR n (deeper n d)) p0 w (altL (seqR n (deeper n d)) (ts1.length + 1) [p0] ts1) v wr) (fun _ wr => lenOf ((wr.cell? ⟨b, 0, none⟩).getD undef))
    case atStart => exact HST.out
    case round =>
      clear HST K0 K1 Z1 KF z1
      obtain ⟨f, l, tr, hf, hl, Hr, Hown, Zr, Kr, hg⟩ := hrel
      have HG := Lib.hid hg; clear hg
      have HM := Lib.hid Hr.len
      obtain ⟨A, C, hv⟩ := Hown.slice
      rw [List.length_cons] at hv
      subst hv
      have hzr := Zr.lt
      have hbo : b ∉ ownB (.slice A (l.length + 1) C) := fun h => by have := (Hown.base b h).1; omega
      have hSr : ∀ x ∈ ownB (.slice A (l.length + 1) C) ++ w.heap.size :: S, x < wr.heap.size := fun x hx => by
        rcases List.mem_append.1 hx with h | h
        · exact (Hown.base x h).2
        · rcases List.mem_cons.1 h with rfl | h
          · exact hzr
          · have := hSl x h; omega
      go_wp2_with fail
      refine (sign2_any _ b tr n deep (sg 124) wr Hr (by simp [hS])).mono ?_
      rintro e w2 ⟨rfl, R2, K2⟩
      have Z2 := Zr.keep K2 (by simp; omega)
      have KF := Kr.trans K2
      have z2 := Z2.lt
      have hs2 := K2.size
      have HO := Hown.move partAt_stab (S' := w.heap.size :: S) K2 (fun x hx => by simp at hx; subst hx; exact .inl ⟨by simp [hS], hbo⟩) (fun x hx => .inl hx)
      clear Hr Hown Zr Kr
      cases hi : isR 4 (sg 124) tr
      · rw [hi] at R2
        simp only [Bool.false_eq_true, if_false] at R2
        have hres := HRES.out
        rw [← HG.out, altL_end (f := f) (l := p0 :: l) (by omega) hi] at hres
        simp only at hres
        have HRES := Lib.hid hres; clear hres
        have HL := HO.read (S' := w.heap.size :: S) partAt_stab (fun x hx => .inl hx) (fun x hx hx' => by
          have h1 := HO.base x hx
          rcases List.mem_cons.1 hx' with rfl | h
          · omega
          · have := hSl x h; omega)
        obtain ⟨B', o, c, k', t', A'', n'', C'', B'', m'', D'', a', hv, ⟨hka, rfl⟩, c0, c1, c2, c3, c4, hp⟩ := Parts.head HL
        simp only [Value.slice.injEq] at hv
        obtain ⟨rfl, _, rfl⟩ := hv
        have hq : (0 : Int) < (l.length : Int) + 1 := by omega
        have R3 := R2.move (S' := w.heap.size :: S) (Keep.refl [] _) (by simp) (fun x hx => .inl (by simp [List.mem_cons.1 hx]))
        clear hka hp
        go_wp2_with fail
        refine (one_any (w.heap.size :: S) 5 p0.a _ (p0 :: l) _ HL).mono ?_
        rintro e w4 ⟨⟨row, rfl, hp⟩, K4⟩
        obtain ⟨k, tt, A', m, C', B, m', D, a, hrow, hka, haa⟩ := PartAt.form hp
        subst hrow
        clear hka haa
        have Z4 := Z2.keep K4 (by simp)
        have z4 := Z4.lt
        have cZ := Z4.cell
        have fZ := Z4.frozen
        unfold partZ at cZ
        have R4 := R3.move (S' := w.heap.size :: S) K4 (by simp) (fun x hx => .inl hx)
        have hS5 : ∀ x ∈ S, x ∈ w.heap.size :: S ∨ w4.heap.size ≤ x := fun x hx => .inl (by simp [hx])
        have K5 := (Keep.refl [w.heap.size] w4).set5 (b := w.heap.size) (by simp) (.int .i64 k) (.string tt) (.slice A' m C') (.slice B m' D) (.int .i64 a)
        have BF := Z4.set5 (.int .i64 k) (.string tt) (.slice A' m C') (.slice B m' D) (.int .i64 a)
        have RF := R4.move (S' := S) K5 (fun x hx => .inl (by simp at hx; subst hx; exact ⟨by simp, by omega⟩)) hS5
        have hpF := partAt_stab _ _ S _ _ _ _ hp K5 (by simp) hS5
        have KF := (KF.trans (K4.mono (by simp))).set5 (b := w.heap.size) (.inr (Nat.le_refl _)) (.int .i64 k) (.string tt) (.slice A' m C') (.slice B m' D) (.int .i64 a)
        have cF := BF.cell
        unfold set5 at cF
        have CF := Lib.hid cF; clear cF BF
        clear c0 c1 c2 c3 c4 hq
        go_wp2
        have cF := CF.out
        have hres := HRES.out
        subst hres
        exact bodyPost_ret (v := .agg #[.int .i64 k, .string tt, .slice A' m C', .slice B m' D, .int .i64 a]) (by simp [results, Tryz.results71, go_sem, cF]) rfl ⟨KF, _, rfl, hpF, RF⟩
      · rw [hi] at R2
        simp only [if_true] at R2
        have htl : tr.tail.length + 1 = tr.length := by
          cases tr with
          | nil => simp [isR] at hi
          | cons t tr => simp
        go_wp2_with fail
        refine (seq_any _ b tr.tail n deep w2 d hd h0 hA (by omega) R2 (by simp [hS]) (fun x hx => by have := hSr x hx; omega)).mono ?_
        rintro e w4 ⟨K4, hP⟩
        have Z4 := Z2.keep K4 (by simp; omega)
        have KF4 := KF.trans K4
        have z4 := Z4.lt
        have HO4 := HO.move partAt_stab (S' := w.heap.size :: S) K4 (fun x hx => by simp at hx; subst hx; exact .inl ⟨by simp [hS], hbo⟩) (fun x hx => .inl hx)
        cases ha : seqR n (deeper n d) tr.tail with
        | error x =>
          rw [ha] at hP
          simp only at hP
          subst hP
          have hres := HRES.out
          rw [← HG.out, altL_bad (f := f) (l := p0 :: l) (by omega) hi ha] at hres
          simp only at hres
          have HRES := Lib.hid hres; clear hres
          unfold PanE
          go_wp2
          have hres := HRES.out
          subst hres
          exact ⟨rfl, KF4, rfl⟩
        | ok q =>
          obtain ⟨p, ts2⟩ := q
          rw [ha] at hP
          obtain ⟨row, rfl, hp4, R4⟩ := hP
          obtain ⟨k, tt, A', m, C', B, m', D, a, hrow, hka, haa⟩ := PartAt.form hp4
          subst hrow
          clear hka haa
          have hg := HG.out
          rw [altL_go (by omega) hi ha] at hg
          have HG := Lib.hid hg; clear hg
          have hal := seqR_short (deeper_short n d) _ _ _ ha
          have HB := Lib.hid HO4.base
          obtain ⟨i0, hi0, hz0, hz1, hz2⟩ := info_parts info_part
          obtain ⟨rows, hlr, hown, hel⟩ := HO4
          have HEL := Lib.hid hel; clear hel HO
          rw [List.length_cons] at hown
          go_wp2_with (at_builtin; go_loud (refine wpList_append_lies _ rfl _ _ 83 rfl (w.heap.size + 1) 85 i0 (.agg #[.int .i64 0, .string { data := #[] }, .slice none 0 0, .slice none 0 0, .int .i64 0]) 5 80 Tryz.underlying83 hi0 hz0 hz1 hz2 rfl (by decide) _ (l.length + 1) _ rfl (hown.alloc _) ⟨w4.heap.size, 0, none⟩ 1 1 [.int .i64 k, .string tt, .slice A' m C', .slice B m' D, .int .i64 a] rfl rfl (World.news_of_block (Blk.new' _ _ _ (by simp))) (by simp [Value.oneCell']) (by decide) (by unfold maxLen; omega) (by omega) (by simp; omega) _ rfl ?_); intro g cap w5 O5 G5 W5 L5)
          have K6 : Keep [] w4 (w4.alloc (.cells #[.int .i64 k, .string tt, .slice A' m C', .slice B m' D, .int .i64 a] 85)) := (Keep.refl _ _).alloc _
          have hap := OwnL.append (xs := p0 :: l) rows hlr (fun i hi hi' => ⟨(HEL.out i hi hi').1, partAt_stab _ _ _ _ _ _ _ (HEL.out i hi hi').2 K6 (by simp) (fun x hx => .inl hx)⟩) partAt_stab (partAt_stab _ _ _ _ _ _ _ hp4 K6 (by simp) (fun x hx => .inl hx)) rfl O5 G5 W5
          have R6 := (R4.move (S' := ownB (.slice A (l.length + 1) C) ++ w.heap.size :: S) K6 (by simp) (fun x hx => .inl hx)).grown (k := l.length + 1 + 1) (cap := cap) G5 W5 hbo
          have hz : w.heap.size ∉ ownB (.slice A (l.length + 1) C) := fun h => by have := (HB.out _ h).1; omega
          have Z6 := Blk.grown (Z4.alloc _) G5 (fun e => hz (mem_own e))
          have K7 := (KF4.trans (K6.mono (by simp))).grown G5 (fun x hx => .inr (by have := (HB.out x (mem_own hx)).1; omega))
          refine ⟨⟨f - 1, l ++ [p], ts2, by omega, by simp; omega, R6, hap, Z6, K7, HG.out⟩, ?_⟩
          rw [HM.out, R6.len]
          omega
theorem alt_all (d : Nat) : AltAny d := by
  induction d with
  | zero => exact alt_any 0 (fun d' h => by omega)
  | succ d ih =>
    refine alt_any (d + 1) (fun d' h => ?_)
    have e : d' = d := by omega
    rw [e]
    exact ih
end Go.Proofs.YtbpidoiellcccaaGreatDoor
namespace Go.Proofs.YtbpidoiellcccaaGreatDoor
open Go Go.RowKit Go.MapKept

/-- A map with texts for keys: a text's entry. -/
def strE (l : List (ByteArray × Value)) : List MapEntry := l.mapIdx fun i p => ⟨.string p.1, p.2, i⟩
def lookS (z : Value) : List (ByteArray × Value) → ByteArray → Value
  | [], _ => z
  | p :: l, x => if p.1 = x then p.2 else lookS z l x
theorem findS (z : Value) (x : ByteArray) : ∀ (es : List MapEntry) (l : List (ByteArray × Value)) (i : Nat), es.map (fun e => (e.key, e.val)) = l.map (fun p => (Value.string p.1, p.2)) →
    ∃ r, Instr.findNow .string (.string x) es i = some r ∧ (r.map (·.2)).getD z = lookS z l x ∧ (r.isSome = true ↔ ∃ v, (x, v) ∈ l)
  | [], l, i, h => by
    have : l = [] := by simpa using h.symm
    subst this
    exact ⟨none, rfl, rfl, by simp⟩
  | e :: es, [], i, h => by simp at h
  | e :: es, p :: l, i, h => by
    simp only [List.map_cons, List.cons.injEq, Prod.mk.injEq] at h
    obtain ⟨⟨h1, h2⟩, h3⟩ := h
    by_cases hx : p.1 = x
    · refine ⟨some (i, e.val), ?_, ?_, ?_⟩
      · have : (x == p.1) = true := by rw [bytes_beq]; exact hx.symm
        simp [Instr.findNow, Instr.sameNow, h1, this]
      · simp [lookS, hx, h2]
      · simp only [Option.isSome_some, true_iff]
        exact ⟨p.2, by rw [← hx]; simp⟩
    · obtain ⟨r, r1, r2, r3⟩ := findS z x es l (i + 1) h3
      refine ⟨r, ?_, ?_, ?_⟩
      · have : (x == p.1) = false := by
          cases hb : x == p.1
          · rfl
          · exact absurd ((bytes_beq _ _).1 hb).symm hx
        simp [Instr.findNow, Instr.sameNow, h1, this, r1]
      · simp [lookS, hx, r2]
      · rw [r3]
        constructor
        · rintro ⟨v, hv⟩; exact ⟨v, by simp [hv]⟩
        · rintro ⟨v, hv⟩
          rcases List.mem_cons.1 hv with h | h
          · exact absurd (by rw [← h]) hx
          · exact ⟨v, h⟩

def bitL : List (ByteArray × Value) := [(⟨#[108, 111, 110, 103]⟩, .int .i64 1), (⟨#[114, 101, 115]⟩, .int .i64 2), (⟨#[111, 102, 102]⟩, .int .i64 4), (⟨#[98, 108, 111, 99, 107]⟩, .int .i64 8), (⟨#[97, 108, 105, 103, 110]⟩, .int .i64 16), (⟨#[115, 121, 110, 99]⟩, .int .i64 32)]
def bitE : Array MapEntry := #[⟨.string ⟨#[108, 111, 110, 103]⟩, .int .i64 1, 0⟩, ⟨.string ⟨#[114, 101, 115]⟩, .int .i64 2, 1⟩, ⟨.string ⟨#[111, 102, 102]⟩, .int .i64 4, 2⟩, ⟨.string ⟨#[98, 108, 111, 99, 107]⟩, .int .i64 8, 3⟩, ⟨.string ⟨#[97, 108, 105, 103, 110]⟩, .int .i64 16, 4⟩, ⟨.string ⟨#[115, 121, 110, 99]⟩, .int .i64 32, 5⟩]
/-- The bit of a mark. -/
def bitR (x : ByteArray) : Int := if (⟨#[108, 111, 110, 103]⟩ : ByteArray) = x then 1 else if (⟨#[114, 101, 115]⟩ : ByteArray) = x then 2 else if (⟨#[111, 102, 102]⟩ : ByteArray) = x then 4 else if (⟨#[98, 108, 111, 99, 107]⟩ : ByteArray) = x then 8 else if (⟨#[97, 108, 105, 103, 110]⟩ : ByteArray) = x then 16 else if (⟨#[115, 121, 110, 99]⟩ : ByteArray) = x then 32 else 0
theorem lookS_bit (x : ByteArray) : lookS (.int .i64 0) bitL x = .int .i64 (bitR x) := by
  simp only [lookS, bitL, bitR]
  repeat' split
  all_goals rfl
theorem isKey_str (x : ByteArray) : IsKey .string (.string x) := by simp [IsKey]
theorem upd3 (w : World) (m clk : Nat) (es : Array MapEntry) (x : ByteArray) (v : Value) (hb : MapB w m es clk) (hf : Instr.findNow .string (.string x) es.toList 0 = some none) :
    ∃ w1, (Instr.mapUpdate 90 (.map (some m)) (.string x) v).run Tryz.prog w = .ok () w1 ∧ MapB w1 m (es.push ⟨.string x, v, clk⟩) (clk + 1) ∧ ∀ a, Keep [] a w → a.heap.size ≤ m → Keep [] a w1 :=
  ⟨_, run_mapUpdate_new Tryz.underlying90 Tryz.underlying9 (isKey_str x) hb hf v, setMap_at hb _ _, fun _ K h => setMap_keep K (.inr h) _ _⟩
set_option maxRecDepth 20000 in
set_option maxHeartbeats 1000000 in
theorem bits_any (w : World) : Calls Tryz.prog 70 #[] w fun e w' =>
    e = .returned (.map (some w.heap.size)) ∧ MapB w' w.heap.size bitE 6 ∧ Keep [] w w' := by
  have hmm := @run_makeMap Tryz.prog
  obtain ⟨w1, u1, m1, k1⟩ := upd3 _ _ _ _ ⟨#[108, 111, 110, 103]⟩ (.int .i64 1) (MapB.new w #[] 0) rfl
  obtain ⟨w2, u2, m2, k2⟩ := upd3 _ _ _ _ ⟨#[114, 101, 115]⟩ (.int .i64 2) m1 rfl
  obtain ⟨w3, u3, m3, k3⟩ := upd3 _ _ _ _ ⟨#[111, 102, 102]⟩ (.int .i64 4) m2 rfl
  obtain ⟨w4, u4, m4, k4⟩ := upd3 _ _ _ _ ⟨#[98, 108, 111, 99, 107]⟩ (.int .i64 8) m3 rfl
  obtain ⟨w5, u5, m5, k5⟩ := upd3 _ _ _ _ ⟨#[97, 108, 105, 103, 110]⟩ (.int .i64 16) m4 rfl
  obtain ⟨w6, u6, m6, k6⟩ := upd3 _ _ _ _ ⟨#[115, 121, 110, 99]⟩ (.int .i64 32) m5 rfl
  have K6 := k6 _ (k5 _ (k4 _ (k3 _ (k2 _ (k1 _ ((Keep.refl _ w).alloc _) (Nat.le_refl _)) (Nat.le_refl _)) (Nat.le_refl _)) (Nat.le_refl _)) (Nat.le_refl _)) (Nat.le_refl _)
  clear k1 k2 k3 k4 k5 k6 m1 m2 m3 m4 m5
  go_enter Tryz.func70, Tryz.ntmps70
  go_wp2
  go_ret
  exact ⟨rfl, m6, K6⟩
theorem bit_look (w : World) (m : Nat) (x : ByteArray) (clk : Nat) (hb : MapB w m bitE clk) :
    (Instr.lookup 90 (.map (some m)) (.string x) false).run Tryz.prog w = .ok (.int .i64 (bitR x)) w := by
  obtain ⟨r, hf, hr, _⟩ := findS (.int .i64 0) x bitE.toList bitL 0 rfl
  rw [run_lookup_at Tryz.underlying90 Tryz.underlying9 (isKey_str x) hb hf (z := .int .i64 0) (by kernel_rfl) false, ← lookS_bit, ← hr]
  rfl
/-- Bits of two numbers. -/
def orR (a b : Int) : Int := bits .or .i64 a b

/-- A rule: its name, marks, what it is, what may not follow it, and its place. -/
structure RuleS where
  name : ByteArray
  marks : Int
  e : PartS
  nt : List Rng
  a : Int
def RuleAt (S : List Nat) (w : World) (r : RuleS) (row : Array Value) : Prop :=
  ∃ k t A m C B m' D a N n' F, row = #[.string r.name, .int .i64 r.marks, .int .i64 k, .string t, .slice A m C, .slice B m' D, .int .i64 a, .slice N n' F, .int .i64 r.a] ∧ PartAt S w r.e #[.int .i64 k, .string t, .slice A m C, .slice B m' D, .int .i64 a] ∧ Rngs S w (.slice N n' F) r.nt
theorem ruleAt_stab : Stab RuleAt := by
  rintro S T S' w w' x row ⟨k, t, A, m, C, B, m', D, a, N, n', F, h1, h2, h3⟩ K hT hS
  exact ⟨k, t, A, m, C, B, m', D, a, N, n', F, h1, partAt_stab _ _ _ _ _ _ _ h2 K hT hS, Sl.move h3 (by omega) K hT hS⟩

/-- The marks ahead of a rule. -/
def marksL : Int → List TokS → Int × List TokS
  | m, [] => (m, [])
  | m, t :: ts => if isR 5 ⟨#[]⟩ (t :: ts) then marksL (orR m (bitR t.t)) ts else (m, t :: ts)
theorem marksL_len (m : Int) (ts : List TokS) : (marksL m ts).2.length ≤ ts.length := by
  induction ts generalizing m with
  | nil => simp [marksL]
  | cons t ts ih =>
    unfold marksL
    split
    · have := ih (orR m (bitR t.t)); simp; omega
    · simp
/-- What may not follow, if that is told. -/
def notR (n : Int) (ts : List TokS) : Except Err (List Rng × List TokS) :=
  if isR 4 (sg 47) ts then (match takeR n 2 ⟨#[]⟩ ts.tail with
    | .error x => .error x
    | .ok (t, ts1) => .ok (t.r, ts1)) else .ok ([], ts)
def ruleR (n : Int) (many : Nat) (ts : List TokS) : Except Err (RuleS × List TokS) :=
  if isR 0 ⟨#[]⟩ (marksL 0 ts).2 = true ∧ many = 16 then .error (7, placeR n (marksL 0 ts).2) else
  match takeR n 0 ⟨#[]⟩ (marksL 0 ts).2 with
  | .error x => .error x
  | .ok (t, ts1) => match takeR n 4 (sg 61) ts1 with
    | .error x => .error x
    | .ok (_, ts2) => match altR n 12 ts2 with
      | .error x => .error x
      | .ok (p, ts3) => match notR n ts3 with
        | .error x => .error x
        | .ok (nt, ts4) => match takeR n 4 (sg 59) ts4 with
          | .error x => .error x
          | .ok (_, ts5) => .ok (⟨t.t, (marksL 0 ts).1, p, nt, t.a⟩, ts5)
theorem ruleR_len {n : Int} {many : Nat} {ts : List TokS} {r : RuleS} {ts1 : List TokS} (h : ruleR n many ts = .ok (r, ts1)) : ts1.length < ts.length := by
  unfold ruleR at h
  have h0 := marksL_len 0 ts
  split at h
  · cases h
  split at h
  · cases h
  rename_i t1 ts1' e1
  split at h
  · cases h
  rename_i t2 ts2 e2
  split at h
  · cases h
  rename_i p ts3 e3
  split at h
  · cases h
  rename_i nt ts4 e4
  split at h
  · cases h
  rename_i t5 ts5 e5
  simp only [Except.ok.injEq, Prod.mk.injEq] at h
  obtain ⟨_, rfl⟩ := h
  have h1 := takeR_len e1
  have h2 := takeR_len e2
  have h3 := altR_short n 12 _ _ _ e3
  have h5 := takeR_len e5
  have h4 : ts4.length ≤ ts3.length := by
    unfold notR at e4
    split at e4
    · split at e4
      · cases e4
      · rename_i t6 ts6 e6
        have h6 := takeR_len e6
        simp only [Except.ok.injEq, Prod.mk.injEq] at e4
        obtain ⟨_, rfl⟩ := e4
        simp at h6; omega
    · simp only [Except.ok.injEq, Prod.mk.injEq] at e4
      obtain ⟨_, rfl⟩ := e4
      omega
  omega
end Go.Proofs.YtbpidoiellcccaaGreatDoor
