/- RankLess: the plain laws. -/
import Derived.Test.YtbpidoiellcccaaGreatDoorK25
import Derived.Test.YtbpidoiellcccaaGreatDoorK27
import Derived.Test.YtbpidoiellcccaaGreatDoorK33
import Derived.Test.YtbpidoiellcccaaGreatDoorK34
set_option linter.unusedVariables false
set_option linter.unusedSimpArgs false
namespace Go.Proofs.YtbpidoiellcccaaGreatDoor
open Go Go.RowKit Go.MapKept

theorem leftsTo_mem {L : List Int} {a : List SymS} {z : Int} : ∀ {k : Nat}, k ≤ a.length → (z ∈ leftsTo L a k ↔ ∃ i, ∃ h : i < a.length, i < k ∧ a[i].k = 2 ∧ onlyF L (a.take i) = true ∧ z = a[i].n) := by
  intro k hk
  unfold leftsTo
  rw [List.mem_flatMap]
  constructor
  · rintro ⟨i, hi, hz⟩
    have hi' : i < k := List.mem_range.1 hi
    have hia : i < a.length := by omega
    rw [List.getElem?_eq_getElem hia] at hz
    simp only at hz
    split at hz
    · rename_i hc
      exact ⟨i, hia, hi', hc.1, hc.2, by simpa using hz⟩
    · simp at hz
  · rintro ⟨i, hia, hi', h1, h2, h3⟩
    refine ⟨i, List.mem_range.2 hi', ?_⟩
    rw [List.getElem?_eq_getElem hia]
    simp only
    rw [if_pos ⟨h1, h2⟩, h3]
    simp
theorem leftsR_mem {ps : List ProdS} {n : Nat} (hg : gmay ps = true) (hn : n < ps.length) (z : Int) : z ∈ leftsR ps n ↔ ∃ a ∈ ps[n].a, ∃ i, ∃ h : i < a.length, a[i].k = 2 ∧ onlyF (emptyF ps) (a.take i) = true ∧ z = a[i].n := by
  have h0 : z ∈ leftsR ps n ↔ z ∈ leftsAll (emptyF ps) ps[n].a := by
    unfold leftsR
    rw [if_pos ⟨hg, by omega, by omega⟩]
    simp only [Int.toNat_natCast, List.getElem?_eq_getElem hn, Option.map_some, Option.getD_some]
    constructor
    · intro h
      have h1 := (compI_sub _).2 _ h
      unfold sortI at h1
      rwa [List.mem_mergeSort] at h1
    · intro h
      refine compI_mem _ _ ?_
      unfold sortI
      rwa [List.mem_mergeSort]
  rw [h0]
  unfold leftsAll
  rw [List.mem_flatMap]
  constructor
  · rintro ⟨a, ha, h⟩
    obtain ⟨i, h1, _, h3⟩ := (leftsTo_mem (Nat.le_refl _)).1 h
    exact ⟨a, ha, i, h1, h3⟩
  · rintro ⟨a, ha, i, h1, h3⟩
    exact ⟨a, ha, (leftsTo_mem (Nat.le_refl _)).2 ⟨i, h1, h1, h3⟩⟩
/-- A byte ahead of each alternative. -/
def bytA (a : List SymS) : List SymS := ⟨0, [], 0⟩ :: a
def bytP (p : ProdS) : ProdS := ⟨p.a.map bytA, p.marks, p.nt⟩
theorem byt_none {ps : List ProdS} (n k : Nat) : lfP (ps.map bytP) n k = false := by
  cases h : lfP (ps.map bytP) n k with
  | false => rfl
  | true =>
    exfalso
    have hl := lfP_lt h
    have hm := (lfP_mem hl.1).1 h
    have hg : gmay (ps.map bytP) = true := by
      unfold leftsR at hm
      split at hm
      · rename_i hc; exact hc.1
      · simp at hm
    obtain ⟨a, ha, i, hi, h1, h2, _⟩ := (leftsR_mem hg hl.1 _).1 hm
    have hn : n < ps.length := by simpa using hl.1
    simp only [List.getElem_map, bytP, List.mem_map] at ha
    obtain ⟨b, _, rfl⟩ := ha
    cases i with
    | zero => simp [bytA] at h1
    | succ i => simp [bytA, onlyF, hard] at h2
theorem byt_plain {ps : List ProdS} {r : List Int} {b : Bool} (h : OrdIs (ps.map bytP) r b) : b = gmay (ps.map bytP) ∧ ∀ i, i < r.length → nth r i = i := by
  rcases h with ⟨h0, rfl, rfl⟩ | ⟨h0, r', h1, h2⟩
  · exact ⟨h0.symm, fun i hi => by simp at hi⟩
  · have e : r' = (List.range (ps.map bytP).length).map (fun (n : Nat) => (n : Int)) := RnkRel.plain byt_none h1
    rcases h2 with ⟨h2, _⟩ | ⟨_, rfl, rfl⟩
    · rw [e] at h2; simp at h2
    · refine ⟨h0.symm, fun i hi => ?_⟩
      rw [e] at hi ⊢
      have hi' : i < (ps.map bytP).length := by simpa using hi
      exact nth_map _ _ i hi'
/-- Without the k-th alternative of the n-th. -/
def lessP (ps : List ProdS) (n k : Nat) : List ProdS := match ps[n]? with
  | some p => ps.set n ⟨p.a.take k ++ p.a.drop (k + 1), p.marks, p.nt⟩
  | none => ps
theorem lessP_eq (ps : List ProdS) (n k : Nat) (h : n < ps.length) : lessP ps n k = ps.set n ⟨ps[n].a.take k ++ ps[n].a.drop (k + 1), ps[n].marks, ps[n].nt⟩ := by
  simp [lessP, h]
theorem lessP_len (ps : List ProdS) (n k : Nat) (h : n < ps.length) : (lessP ps n k).length = ps.length := by rw [lessP_eq ps n k h]; simp
theorem lessP_sub (ps : List ProdS) (n k : Nat) (hn : n < ps.length) (i : Nat) (hi : i < ps.length) (hi' : i < (lessP ps n k).length) : (∀ a ∈ (lessP ps n k)[i].a, a ∈ ps[i].a) ∧ (lessP ps n k)[i].marks = ps[i].marks ∧ (lessP ps n k)[i].nt = ps[i].nt := by
  have e : (lessP ps n k)[i] = (ps.set n ⟨ps[n].a.take k ++ ps[n].a.drop (k + 1), ps[n].marks, ps[n].nt⟩)[i]'(by simpa using hi) := by
    simp only [lessP_eq ps n k hn]
  rw [e, List.getElem_set]
  by_cases h : n = i
  · subst h
    rw [if_pos rfl]
    refine ⟨fun a ha => ?_, rfl, rfl⟩
    rcases List.mem_append.1 ha with h1 | h1
    · exact List.mem_of_mem_take h1
    · exact List.mem_of_mem_drop h1
  · rw [if_neg h]
    exact ⟨fun a ha => ha, rfl, rfl⟩
theorem lessP_gmay (ps : List ProdS) (n k : Nat) (hn : n < ps.length) (hk : k < ps[n].a.length) (h1 : ps[n].a.length ≠ 1) (h : gmay ps = true) : gmay (lessP ps n k) = true := by
  have hll := lessP_len ps n k hn
  unfold gmay at h ⊢
  rw [hll]
  simp only [Bool.and_eq_true, Bool.not_eq_true', List.any_eq_false, decide_eq_true_eq] at h ⊢
  refine ⟨⟨fun q hq => ?_, h.1.2⟩, h.2⟩
  obtain ⟨i, hi, rfl⟩ := List.getElem_of_mem hq
  have hi2 : i < ps.length := by omega
  obtain ⟨s1, s2, s3⟩ := lessP_sub ps n k hn i hi2 hi
  have h2 := h.1.1 ps[i] (List.getElem_mem hi2)
  have hlen : (lessP ps n k)[i].a.length = ps[i].a.length ∨ ((lessP ps n k)[i].a.length + 1 = ps[i].a.length ∧ 0 < (lessP ps n k)[i].a.length) := by
    have e : (lessP ps n k)[i] = (ps.set n ⟨ps[n].a.take k ++ ps[n].a.drop (k + 1), ps[n].marks, ps[n].nt⟩)[i]'(by simpa using hi2) := by simp only [lessP_eq ps n k hn]
    rw [e, List.getElem_set]
    by_cases h3 : n = i
    · subst h3
      rw [if_pos rfl]
      right
      simp
      omega
    · rw [if_neg h3]; exact .inl rfl
  unfold prodBad at h2 ⊢
  simp only [Bool.not_eq_true, Bool.or_eq_false_iff, List.any_eq_false, decide_eq_false_iff_not] at h2 ⊢
  rw [s2, s3]
  obtain ⟨⟨⟨⟨⟨a1, a2⟩, a3⟩, a4⟩, a5⟩, a6⟩ := h2
  exact ⟨⟨⟨⟨⟨by omega, by omega⟩, a3⟩, a4⟩, a5⟩, fun a ha => a6 a (s1 a ha)⟩
theorem less_lf {ps : List ProdS} {n k : Nat} (hn : n < ps.length) (hg : gmay ps = true) {i j : Nat} (h : lfP (lessP ps n k) i j = true) : lfP ps i j = true := by
  have hll := lessP_len ps n k hn
  have hl := lfP_lt h
  have hi : i < ps.length := by omega
  have hm := (lfP_mem hl.1).1 h
  have hg2 : gmay (lessP ps n k) = true := by
    unfold leftsR at hm
    split at hm
    · rename_i hc; exact hc.1
    · simp at hm
  obtain ⟨a, ha, c, hc, h1, h2, h3⟩ := (leftsR_mem hg2 hl.1 _).1 hm
  have he : ∀ x ∈ emptyF (lessP ps n k), x ∈ emptyF ps := fun x hx => (mem_emptyF _ _).2 (emp_mono (fun q p hp => by
    have hq : q < (lessP ps n k).length := (List.getElem?_eq_some_iff.1 hp).1
    have e := (List.getElem?_eq_some_iff.1 hp).2
    refine ⟨ps[q]'(by omega), List.getElem?_eq_getElem (by omega), fun b hb => ?_⟩
    exact (lessP_sub ps n k hn q (by omega) hq).1 b (by rw [e]; exact hb)) x ((mem_emptyF _ _).1 hx))
  exact (lfP_mem hi).2 ((leftsR_mem hg hi _).2 ⟨a, (lessP_sub ps n k hn i hi hl.1).1 a ha, c, hc, h1, onlyF_mono he _ h2, h3⟩)
/-- Who has an order has one without an alternative. -/
theorem less_order {ps : List ProdS} {n k : Nat} (hn : n < ps.length) (hk : k < ps[n].a.length) (h1 : ps[n].a.length ≠ 1) (hg : gmay ps = true) {r t : List Int} {b c : Bool} (h : OrdIs ps r b) (h2 : OrdIs (lessP ps n k) t c) : b = false ∨ c = true := by
  have hg2 := lessP_gmay ps n k hn hk h1 hg
  cases c with
  | true => exact .inr rfl
  | false =>
    left
    obtain ⟨i, hi, hc⟩ := (h2.circle hg2).1 rfl
    have key : ∀ {a b : Nat}, Comes (lfP (lessP ps n k)) a b → Comes (lfP ps) a b := fun h => by
      induction h with
      | one h => exact .one (less_lf hn hg h)
      | more h _ ih => exact .more (less_lf hn hg h) ih
    exact (h.circle hg).2 ⟨i, by rw [lessP_len ps n k hn] at hi; exact hi, key hc⟩
end Go.Proofs.YtbpidoiellcccaaGreatDoor
namespace Go.Proofs.YtbpidoiellcccaaGreatDoor
open Go Go.RowKit Go.MapKept

set_option maxRecDepth 20000 in
set_option maxHeartbeats 4000000 in
theorem less_region {Q : Exit → Act → World → Prop} {s0 s1 s2 s4 s5 s6 s7 s8 s12 s13 s14 s15 s16 s17 s18 s19 s20 s21 s22 s23 s24 s25 s26 s27 s28 s29 s30 s31 s32 s33 s34 s35 s36 s37 s38 s39 s40 s41 s42 s43 s44 s45 s46 s47 s48 s49 s50 s51 s52 s53 s54 s55 s56 s57 s58 s59 s60 s61 s62 s63 s64 s65 s66 s67 s68 s69 s70 s71 s72 s73 s74 s75 s76 s77 s78 s79 s80 s81 s82 s83 s84 s85 s86 s87 s88 s89 s90 s91 s92 s93 s94 s95 s96 s97 s98 s99 s100 s101 s102 s103 s104 s105 s106 s107 s108 s109 s110 s111 s112 s113 : Value} {Wi wr : World} {Y Gb g bp op b2 o2 i k N al8 C CX C4 C5 : Nat} {cur : Array Value} {kv v9 : Value} {A4 : Option Addr} {as0 : List (List SymS)} {al : List SymS}
    (g0 : wr.cell? ⟨Gb, 0, none⟩ = some (.slice (some ⟨bp, op, none⟩) N C)) (e0 : wr.cell? ⟨bp, op + i * 3, none⟩ = some (.slice (some ⟨b2, o2, none⟩) al8 C4)) (f0 : wr.cell? ⟨b2, o2 + k, none⟩ = some (.slice A4 al.length C5))
    (HY : Blk wr Y #[.slice (some ⟨g, 0, none⟩) N CX, kv] 25) (Bs : Blk wr g (cur.setIfInBounds (i * 3) v9) 41) (hisz : i * 3 < cur.size) (Ks : Keep [g] Wi wr) (Os : OwnL AltRow [g, Y] wr Wi.heap.size 44 1 v9 as0)
    (hS : Syms (ownB v9 ++ [g, Y]) wr (.slice A4 al.length C5) al) (hal : al.length ≤ 40) (hlen9 : as0.length ≤ 8) (hg9 : g < Wi.heap.size) (hY9 : Y < Wi.heap.size) (hGb : Gb < Wi.heap.size) (hbp : bp ∉ ownB v9) (hb2 : b2 ∉ ownB v9) (hil : i < N) (hkl : k < al8) (hP : ∀ (c : _) (a : Act) (d : Tmp) (v : Value) (w : World), Q (.panic c) (a.put (some d) v) w → Q (.panic c) a w)
    (hQ : ∀ w' : World, StA Wi g Y i cur (as0 ++ [bytA al]) w' → ∀ t89 t90 t91 t92 t93 t94 t95 t96 t97 t98 t99 t100 t101 t102 t103 t104 t105 t106 t107 t108 t109 t110 t111 t112 t113 : Value, Q .normal { tmps := List.toArray (s0 :: s1 :: s2 :: .pointer (some ⟨Gb, 0, none⟩) :: s4 :: s5 :: s6 :: s7 :: s8 :: .pointer (some ⟨Y, 0, none⟩) :: .int .i64 i :: .int .i64 k :: s12 :: s13 :: s14 :: s15 :: s16 :: s17 :: s18 :: s19 :: s20 :: s21 :: s22 :: s23 :: s24 :: s25 :: s26 :: s27 :: s28 :: s29 :: s30 :: s31 :: s32 :: s33 :: s34 :: s35 :: s36 :: s37 :: s38 :: s39 :: s40 :: s41 :: s42 :: s43 :: s44 :: s45 :: s46 :: s47 :: s48 :: s49 :: s50 :: s51 :: s52 :: s53 :: s54 :: s55 :: s56 :: s57 :: s58 :: s59 :: s60 :: s61 :: s62 :: s63 :: s64 :: s65 :: s66 :: s67 :: s68 :: s69 :: s70 :: s71 :: s72 :: s73 :: s74 :: s75 :: s76 :: s77 :: s78 :: s79 :: s80 :: s81 :: s82 :: s83 :: s84 :: s85 :: s86 :: s87 :: s88 :: t89 :: t90 :: t91 :: t92 :: t93 :: t94 :: t95 :: t96 :: t97 :: t98 :: t99 :: t100 :: t101 :: t102 :: t103 :: t104 :: t105 :: t106 :: t107 :: t108 :: t109 :: t110 :: t111 :: t112 :: t113 :: undef :: undef :: undef :: undef :: undef :: undef :: undef :: undef :: undef :: undef :: undef :: undef :: undef :: undef :: undef :: undef :: undef :: undef :: undef :: undef :: undef :: undef :: undef :: undef :: undef :: undef :: undef :: undef :: undef :: undef :: undef :: undef :: undef :: undef :: undef :: undef :: undef :: undef :: undef :: undef :: undef :: undef :: undef :: undef :: undef :: undef :: undef :: undef :: undef :: undef :: undef :: undef :: undef :: undef :: undef :: undef :: undef :: undef :: undef :: undef :: undef :: undef :: undef :: undef :: undef :: undef :: undef :: undef :: undef :: undef :: undef :: undef :: undef :: []), defers := [] } w') :
    (Code.region 14 #[{ dst := some 89, op := Op.fieldAddr 25 (Operand.tmp 9) 0, type := 0, pos := "more.go:22", after := #[], guard := none },
    { dst := some 90, op := Op.load 22 (Operand.tmp 89), type := 22, pos := "more.go:22", after := #[{ on := 0, ground := Ground.data }], guard := none },
    { dst := some 91, op := Op.move (Operand.tmp 10), type := 3, pos := "more.go:22", after := #[], guard := none },
    { dst := some 92, op := Op.fieldAddr 25 (Operand.tmp 9) 0, type := 0, pos := "more.go:22", after := #[], guard := none },
    { dst := some 93, op := Op.load 22 (Operand.tmp 92), type := 22, pos := "more.go:22", after := #[{ on := 3, ground := Ground.data }], guard := none },
    { dst := some 94, op := Op.move (Operand.tmp 10), type := 3, pos := "more.go:22", after := #[], guard := none },
    { dst := some 95, op := Op.indexAddr 22 (Operand.tmp 93) (Operand.tmp 94), type := 0, pos := "more.go:22", after := #[{ on := 4, ground := Ground.data }, { on := 5, ground := Ground.data }], guard := none },
    { dst := some 96, op := Op.fieldAddr 41 (Operand.tmp 95) 0, type := 0, pos := "more.go:22", after := #[{ on := 6, ground := Ground.data }], guard := none },
    { dst := some 97, op := Op.load 38 (Operand.tmp 96), type := 38, pos := "more.go:22", after := #[{ on := 7, ground := Ground.data }], guard := none },
    { dst := some 98, op := Op.build 43 #[((0 : Nat), Operand.const (Value.int IntKind.i64 0))], type := 43, pos := "more.go:22", after := #[], guard := none },
    { dst := some 99, op := Op.buildSlice 44 1 #[((0 : Nat), Operand.tmp 98)], type := 44, pos := "more.go:22", after := #[{ on := 9, ground := Ground.data }], guard := none },
    { dst := some 100, op := Op.fieldAddr 25 (Operand.tmp 3) 0, type := 0, pos := "more.go:22", after := #[], guard := none },
    { dst := some 101, op := Op.load 22 (Operand.tmp 100), type := 22, pos := "more.go:22", after := #[{ on := 11, ground := Ground.data }], guard := none },
    { dst := some 102, op := Op.move (Operand.tmp 10), type := 3, pos := "more.go:22", after := #[], guard := none },
    { dst := some 103, op := Op.indexAddr 22 (Operand.tmp 101) (Operand.tmp 102), type := 0, pos := "more.go:22", after := #[{ on := 12, ground := Ground.data }, { on := 13, ground := Ground.data }], guard := none },
    { dst := some 104, op := Op.fieldAddr 41 (Operand.tmp 103) 0, type := 0, pos := "more.go:22", after := #[{ on := 14, ground := Ground.data }], guard := none },
    { dst := some 105, op := Op.load 38 (Operand.tmp 104), type := 38, pos := "more.go:22", after := #[{ on := 15, ground := Ground.data }], guard := none },
    { dst := some 106, op := Op.move (Operand.tmp 11), type := 3, pos := "more.go:22", after := #[], guard := none },
    { dst := some 107, op := Op.indexAddr 38 (Operand.tmp 105) (Operand.tmp 106), type := 0, pos := "more.go:22", after := #[{ on := 16, ground := Ground.data }, { on := 17, ground := Ground.data }], guard := none },
    { dst := some 108, op := Op.load 44 (Operand.tmp 107), type := 44, pos := "more.go:22", after := #[{ on := 18, ground := Ground.data }], guard := none },
    { dst := some 109, op := Op.call { callee := Callee.builtin Builtin.append, args := #[Operand.tmp 99, Operand.tmp 108], argTypes := #[44, 44] }, type := 44, pos := "more.go:22", after := #[{ on := 10, ground := Ground.data }, { on := 19, ground := Ground.data }], guard := none },
    { dst := some 110, op := Op.buildSlice 38 1 #[((0 : Nat), Operand.tmp 109)], type := 38, pos := "more.go:22", after := #[{ on := 20, ground := Ground.data }], guard := none },
    { dst := some 111, op := Op.call { callee := Callee.builtin Builtin.append, args := #[Operand.tmp 97, Operand.tmp 110], argTypes := #[38, 38] }, type := 38, pos := "more.go:22", after := #[{ on := 8, ground := Ground.data }, { on := 21, ground := Ground.data }, { on := 20, ground := Ground.chain }], guard := none },
    { dst := some 112, op := Op.indexAddr 22 (Operand.tmp 90) (Operand.tmp 91), type := 0, pos := "more.go:22", after := #[{ on := 1, ground := Ground.data }, { on := 2, ground := Ground.data }, { on := 0, ground := Ground.phase }, { on := 1, ground := Ground.phase }, { on := 2, ground := Ground.phase }, { on := 3, ground := Ground.phase }, { on := 4, ground := Ground.phase }, { on := 5, ground := Ground.phase }, { on := 6, ground := Ground.phase }, { on := 7, ground := Ground.phase }, { on := 8, ground := Ground.phase }, { on := 9, ground := Ground.phase }, { on := 10, ground := Ground.phase }, { on := 11, ground := Ground.phase }, { on := 12, ground := Ground.phase }, { on := 13, ground := Ground.phase }, { on := 14, ground := Ground.phase }, { on := 15, ground := Ground.phase }, { on := 16, ground := Ground.phase }, { on := 17, ground := Ground.phase }, { on := 18, ground := Ground.phase }, { on := 19, ground := Ground.phase }, { on := 20, ground := Ground.phase }, { on := 21, ground := Ground.phase }, { on := 22, ground := Ground.phase }], guard := none },
    { dst := some 113, op := Op.fieldAddr 41 (Operand.tmp 112) 0, type := 0, pos := "more.go:22", after := #[{ on := 23, ground := Ground.data }, { on := 0, ground := Ground.phase }, { on := 1, ground := Ground.phase }, { on := 2, ground := Ground.phase }, { on := 3, ground := Ground.phase }, { on := 4, ground := Ground.phase }, { on := 5, ground := Ground.phase }, { on := 6, ground := Ground.phase }, { on := 7, ground := Ground.phase }, { on := 8, ground := Ground.phase }, { on := 9, ground := Ground.phase }, { on := 10, ground := Ground.phase }, { on := 11, ground := Ground.phase }, { on := 12, ground := Ground.phase }, { on := 13, ground := Ground.phase }, { on := 14, ground := Ground.phase }, { on := 15, ground := Ground.phase }, { on := 16, ground := Ground.phase }, { on := 17, ground := Ground.phase }, { on := 18, ground := Ground.phase }, { on := 19, ground := Ground.phase }, { on := 20, ground := Ground.phase }, { on := 21, ground := Ground.phase }, { on := 22, ground := Ground.phase }], guard := none },
    { dst := none, op := Op.store 38 (Operand.tmp 113) (Operand.tmp 111), type := 0, pos := "more.go:22", after := #[{ on := 24, ground := Ground.data }, { on := 22, ground := Ground.data }, { on := 22, ground := Ground.chain }, { on := 0, ground := Ground.phase }, { on := 1, ground := Ground.phase }, { on := 2, ground := Ground.phase }, { on := 3, ground := Ground.phase }, { on := 4, ground := Ground.phase }, { on := 5, ground := Ground.phase }, { on := 6, ground := Ground.phase }, { on := 7, ground := Ground.phase }, { on := 8, ground := Ground.phase }, { on := 9, ground := Ground.phase }, { on := 10, ground := Ground.phase }, { on := 11, ground := Ground.phase }, { on := 12, ground := Ground.phase }, { on := 13, ground := Ground.phase }, { on := 14, ground := Ground.phase }, { on := 15, ground := Ground.phase }, { on := 16, ground := Ground.phase }, { on := 17, ground := Ground.phase }, { on := 18, ground := Ground.phase }, { on := 19, ground := Ground.phase }, { on := 20, ground := Ground.phase }, { on := 21, ground := Ground.phase }, { on := 22, ground := Ground.phase }], guard := none }] true).wp Tryz.prog Q { tmps := List.toArray (s0 :: s1 :: s2 :: .pointer (some ⟨Gb, 0, none⟩) :: s4 :: s5 :: s6 :: s7 :: s8 :: .pointer (some ⟨Y, 0, none⟩) :: .int .i64 i :: .int .i64 k :: s12 :: s13 :: s14 :: s15 :: s16 :: s17 :: s18 :: s19 :: s20 :: s21 :: s22 :: s23 :: s24 :: s25 :: s26 :: s27 :: s28 :: s29 :: s30 :: s31 :: s32 :: s33 :: s34 :: s35 :: s36 :: s37 :: s38 :: s39 :: s40 :: s41 :: s42 :: s43 :: s44 :: s45 :: s46 :: s47 :: s48 :: s49 :: s50 :: s51 :: s52 :: s53 :: s54 :: s55 :: s56 :: s57 :: s58 :: s59 :: s60 :: s61 :: s62 :: s63 :: s64 :: s65 :: s66 :: s67 :: s68 :: s69 :: s70 :: s71 :: s72 :: s73 :: s74 :: s75 :: s76 :: s77 :: s78 :: s79 :: s80 :: s81 :: s82 :: s83 :: s84 :: s85 :: s86 :: s87 :: s88 :: s89 :: s90 :: s91 :: s92 :: s93 :: s94 :: s95 :: s96 :: s97 :: s98 :: s99 :: s100 :: s101 :: s102 :: s103 :: s104 :: s105 :: s106 :: s107 :: s108 :: s109 :: s110 :: s111 :: s112 :: s113 :: undef :: undef :: undef :: undef :: undef :: undef :: undef :: undef :: undef :: undef :: undef :: undef :: undef :: undef :: undef :: undef :: undef :: undef :: undef :: undef :: undef :: undef :: undef :: undef :: undef :: undef :: undef :: undef :: undef :: undef :: undef :: undef :: undef :: undef :: undef :: undef :: undef :: undef :: undef :: undef :: undef :: undef :: undef :: undef :: undef :: undef :: undef :: undef :: undef :: undef :: undef :: undef :: undef :: undef :: undef :: undef :: undef :: undef :: undef :: undef :: undef :: undef :: undef :: undef :: undef :: undef :: undef :: undef :: undef :: undef :: undef :: undef :: undef :: []), defers := [] } wr := by
  have hil' : (i : Int) < (N : Int) := by omega
  have hkl' : (k : Int) < (al8 : Int) := by omega
  have hgo : g ∉ ownB v9 := fun h => by have := (Os.base g h).1; omega
  have hYo : Y ∉ ownB v9 := fun h => by have := (Os.base Y h).1; omega
  have hbr : ∀ b ∈ ownB v9 ++ [g, Y], b < wr.heap.size := fun b hb => by
    have := Ks.size
    rcases List.mem_append.1 hb with hb | hb
    · exact (Os.base b hb).2
    · simp at hb; omega
  have hc0 : wr.cell? ⟨g, i * 3, none⟩ = some v9 := by
    rw [Bs.cell, Array.getElem?_setIfInBounds_self]
    simp [hisz]
  obtain ⟨is, his, his0, his1, his2⟩ := info_parts info_sym
  obtain ⟨ia, hia, hia0, hia1, hia2⟩ := info_parts info_alt2
  have HH := Lib.hid (⟨HY, Bs, Ks, Os, hS, hbr⟩ : _ ∧ _ ∧ _ ∧ _ ∧ _ ∧ _)
  have HS : Hid (∀ w', Keep (ownB v9) wr w' → w'.cell? ⟨Y, 0, none⟩ = some (.slice (some ⟨g, 0, none⟩) N CX) ∧ w'.cell? ⟨Gb, 0, none⟩ = some (.slice (some ⟨bp, op, none⟩) N C) ∧ w'.cell? ⟨bp, op + i * 3, none⟩ = some (.slice (some ⟨b2, o2, none⟩) al8 C4) ∧ w'.cell? ⟨b2, o2 + k, none⟩ = some (.slice A4 al.length C5) ∧ w'.cell? ⟨g, i * 3, none⟩ = some v9) := Lib.hid (fun w' K =>
    ⟨K.cell (HY.cell 0) hYo, K.cell g0 (fun h => by have := (Os.base Gb h).1; omega), K.cell e0 hbp, K.cell f0 hb2, K.cell hc0 hgo⟩)
  clear HY Bs Ks Os hS hbr g0 e0 f0 hc0
  refine InPhase.region (n := 23) (S := fun w' => w'.cell? ⟨Y, 0, none⟩ = some (.slice (some ⟨g, 0, none⟩) N CX) ∧ w'.cell? ⟨Gb, 0, none⟩ = some (.slice (some ⟨bp, op, none⟩) N C) ∧ w'.cell? ⟨bp, op + i * 3, none⟩ = some (.slice (some ⟨b2, o2, none⟩) al8 C4) ∧ w'.cell? ⟨b2, o2 + k, none⟩ = some (.slice A4 al.length C5) ∧ w'.cell? ⟨g, i * 3, none⟩ = some v9) (f := 26) (l := #[false, false, false, false, false, false, false, false, false, false, false, false, false, false, false, false, false, false, false, false, false, false, false, false, false, false]) (by kernel_rfl) rfl rfl ?_
  have KD : Keep [] wr wr.drew := (Keep.refl [] wr).drew
  generalize wr.drew = wd at KD ⊢
  have hHeld := HS.out wd (KD.mono (by simp))
  refine InPhase.take (i := 0) (oi := { dst := some 89, op := Op.fieldAddr 25 (Operand.tmp 9) 0, type := 0, pos := "more.go:22", after := #[], guard := none }) (v := ?v0) rfl (by kernel_rfl) (by kernel_rfl) (by kernel_rfl) (by kernel_rfl) (fun c a w h => hP c a _ _ w h) (by rfl) ?hy0 hHeld ?rest0
  case hy0 =>
    intro w' hSw
    try dsimp only at hSw
    go_simp <;> with_reducible rfl
  try simp only [Act.put, List.setIfInBounds_toArray, List.set_cons_zero, List.set_cons_succ]
  refine InPhase.take (i := 1) (oi := { dst := some 90, op := Op.load 22 (Operand.tmp 89), type := 22, pos := "more.go:22", after := #[{ on := 0, ground := Ground.data }], guard := none }) (v := ?v1) rfl (by kernel_rfl) (by kernel_rfl) (by kernel_rfl) (by kernel_rfl) (fun c a w h => hP c a _ _ w h) (by rfl) ?hy1 hHeld ?rest1
  case hy1 =>
    intro w' hSw
    try dsimp only at hSw
    go_simp <;> with_reducible rfl
  try simp only [Act.put, List.setIfInBounds_toArray, List.set_cons_zero, List.set_cons_succ]
  refine InPhase.take (i := 2) (oi := { dst := some 91, op := Op.move (Operand.tmp 10), type := 3, pos := "more.go:22", after := #[], guard := none }) (v := ?v2) rfl (by kernel_rfl) (by kernel_rfl) (by kernel_rfl) (by kernel_rfl) (fun c a w h => hP c a _ _ w h) (by rfl) ?hy2 hHeld ?rest2
  case hy2 =>
    intro w' hSw
    try dsimp only at hSw
    go_simp <;> with_reducible rfl
  try simp only [Act.put, List.setIfInBounds_toArray, List.set_cons_zero, List.set_cons_succ]
  refine InPhase.take (i := 3) (oi := { dst := some 92, op := Op.fieldAddr 25 (Operand.tmp 9) 0, type := 0, pos := "more.go:22", after := #[], guard := none }) (v := ?v3) rfl (by kernel_rfl) (by kernel_rfl) (by kernel_rfl) (by kernel_rfl) (fun c a w h => hP c a _ _ w h) (by rfl) ?hy3 hHeld ?rest3
  case hy3 =>
    intro w' hSw
    try dsimp only at hSw
    go_simp <;> with_reducible rfl
  try simp only [Act.put, List.setIfInBounds_toArray, List.set_cons_zero, List.set_cons_succ]
  refine InPhase.take (i := 4) (oi := { dst := some 93, op := Op.load 22 (Operand.tmp 92), type := 22, pos := "more.go:22", after := #[{ on := 3, ground := Ground.data }], guard := none }) (v := ?v4) rfl (by kernel_rfl) (by kernel_rfl) (by kernel_rfl) (by kernel_rfl) (fun c a w h => hP c a _ _ w h) (by rfl) ?hy4 hHeld ?rest4
  case hy4 =>
    intro w' hSw
    try dsimp only at hSw
    go_simp <;> with_reducible rfl
  try simp only [Act.put, List.setIfInBounds_toArray, List.set_cons_zero, List.set_cons_succ]
  refine InPhase.take (i := 5) (oi := { dst := some 94, op := Op.move (Operand.tmp 10), type := 3, pos := "more.go:22", after := #[], guard := none }) (v := ?v5) rfl (by kernel_rfl) (by kernel_rfl) (by kernel_rfl) (by kernel_rfl) (fun c a w h => hP c a _ _ w h) (by rfl) ?hy5 hHeld ?rest5
  case hy5 =>
    intro w' hSw
    try dsimp only at hSw
    go_simp <;> with_reducible rfl
  try simp only [Act.put, List.setIfInBounds_toArray, List.set_cons_zero, List.set_cons_succ]
  refine InPhase.take (i := 6) (oi := { dst := some 95, op := Op.indexAddr 22 (Operand.tmp 93) (Operand.tmp 94), type := 0, pos := "more.go:22", after := #[{ on := 4, ground := Ground.data }, { on := 5, ground := Ground.data }], guard := none }) (v := ?v6) rfl (by kernel_rfl) (by kernel_rfl) (by kernel_rfl) (by kernel_rfl) (fun c a w h => hP c a _ _ w h) (by rfl) ?hy6 hHeld ?rest6
  case hy6 =>
    intro w' hSw
    try dsimp only at hSw
    go_simp <;> with_reducible rfl
  try simp only [Act.put, List.setIfInBounds_toArray, List.set_cons_zero, List.set_cons_succ]
  refine InPhase.take (i := 7) (oi := { dst := some 96, op := Op.fieldAddr 41 (Operand.tmp 95) 0, type := 0, pos := "more.go:22", after := #[{ on := 6, ground := Ground.data }], guard := none }) (v := ?v7) rfl (by kernel_rfl) (by kernel_rfl) (by kernel_rfl) (by kernel_rfl) (fun c a w h => hP c a _ _ w h) (by rfl) ?hy7 hHeld ?rest7
  case hy7 =>
    intro w' hSw
    try dsimp only at hSw
    go_simp <;> with_reducible rfl
  try simp only [Act.put, List.setIfInBounds_toArray, List.set_cons_zero, List.set_cons_succ]
  refine InPhase.take (i := 8) (oi := { dst := some 97, op := Op.load 38 (Operand.tmp 96), type := 38, pos := "more.go:22", after := #[{ on := 7, ground := Ground.data }], guard := none }) (v := ?v8) rfl (by kernel_rfl) (by kernel_rfl) (by kernel_rfl) (by kernel_rfl) (fun c a w h => hP c a _ _ w h) (by rfl) ?hy8 hHeld ?rest8
  case hy8 =>
    intro w' hSw
    try dsimp only at hSw
    go_simp <;> with_reducible rfl
  try simp only [Act.put, List.setIfInBounds_toArray, List.set_cons_zero, List.set_cons_succ]
  refine InPhase.take (i := 9) (oi := { dst := some 98, op := Op.build 43 #[((0 : Nat), Operand.const (Value.int IntKind.i64 0))], type := 43, pos := "more.go:22", after := #[], guard := none }) (v := ?v9) rfl (by kernel_rfl) (by kernel_rfl) (by kernel_rfl) (by kernel_rfl) (fun c a w h => hP c a _ _ w h) (by rfl) ?hy9 hHeld ?rest9
  case hy9 =>
    intro w' hSw
    try dsimp only at hSw
    go_simp <;> with_reducible rfl
  try simp only [Act.put, List.setIfInBounds_toArray, List.set_cons_zero, List.set_cons_succ]
  refine InPhase.take (i := 11) (oi := { dst := some 100, op := Op.fieldAddr 25 (Operand.tmp 3) 0, type := 0, pos := "more.go:22", after := #[], guard := none }) (v := ?v11) rfl (by kernel_rfl) (by kernel_rfl) (by kernel_rfl) (by kernel_rfl) (fun c a w h => hP c a _ _ w h) (by rfl) ?hy11 hHeld ?rest11
  case hy11 =>
    intro w' hSw
    try dsimp only at hSw
    go_simp <;> with_reducible rfl
  try simp only [Act.put, List.setIfInBounds_toArray, List.set_cons_zero, List.set_cons_succ]
  refine InPhase.take (i := 12) (oi := { dst := some 101, op := Op.load 22 (Operand.tmp 100), type := 22, pos := "more.go:22", after := #[{ on := 11, ground := Ground.data }], guard := none }) (v := ?v12) rfl (by kernel_rfl) (by kernel_rfl) (by kernel_rfl) (by kernel_rfl) (fun c a w h => hP c a _ _ w h) (by rfl) ?hy12 hHeld ?rest12
  case hy12 =>
    intro w' hSw
    try dsimp only at hSw
    go_simp <;> with_reducible rfl
  try simp only [Act.put, List.setIfInBounds_toArray, List.set_cons_zero, List.set_cons_succ]
  refine InPhase.take (i := 13) (oi := { dst := some 102, op := Op.move (Operand.tmp 10), type := 3, pos := "more.go:22", after := #[], guard := none }) (v := ?v13) rfl (by kernel_rfl) (by kernel_rfl) (by kernel_rfl) (by kernel_rfl) (fun c a w h => hP c a _ _ w h) (by rfl) ?hy13 hHeld ?rest13
  case hy13 =>
    intro w' hSw
    try dsimp only at hSw
    go_simp <;> with_reducible rfl
  try simp only [Act.put, List.setIfInBounds_toArray, List.set_cons_zero, List.set_cons_succ]
  refine InPhase.take (i := 14) (oi := { dst := some 103, op := Op.indexAddr 22 (Operand.tmp 101) (Operand.tmp 102), type := 0, pos := "more.go:22", after := #[{ on := 12, ground := Ground.data }, { on := 13, ground := Ground.data }], guard := none }) (v := ?v14) rfl (by kernel_rfl) (by kernel_rfl) (by kernel_rfl) (by kernel_rfl) (fun c a w h => hP c a _ _ w h) (by rfl) ?hy14 hHeld ?rest14
  case hy14 =>
    intro w' hSw
    try dsimp only at hSw
    go_simp <;> with_reducible rfl
  try simp only [Act.put, List.setIfInBounds_toArray, List.set_cons_zero, List.set_cons_succ]
  refine InPhase.take (i := 15) (oi := { dst := some 104, op := Op.fieldAddr 41 (Operand.tmp 103) 0, type := 0, pos := "more.go:22", after := #[{ on := 14, ground := Ground.data }], guard := none }) (v := ?v15) rfl (by kernel_rfl) (by kernel_rfl) (by kernel_rfl) (by kernel_rfl) (fun c a w h => hP c a _ _ w h) (by rfl) ?hy15 hHeld ?rest15
  case hy15 =>
    intro w' hSw
    try dsimp only at hSw
    go_simp <;> with_reducible rfl
  try simp only [Act.put, List.setIfInBounds_toArray, List.set_cons_zero, List.set_cons_succ]
  refine InPhase.take (i := 16) (oi := { dst := some 105, op := Op.load 38 (Operand.tmp 104), type := 38, pos := "more.go:22", after := #[{ on := 15, ground := Ground.data }], guard := none }) (v := ?v16) rfl (by kernel_rfl) (by kernel_rfl) (by kernel_rfl) (by kernel_rfl) (fun c a w h => hP c a _ _ w h) (by rfl) ?hy16 hHeld ?rest16
  case hy16 =>
    intro w' hSw
    try dsimp only at hSw
    go_simp <;> with_reducible rfl
  try simp only [Act.put, List.setIfInBounds_toArray, List.set_cons_zero, List.set_cons_succ]
  refine InPhase.take (i := 17) (oi := { dst := some 106, op := Op.move (Operand.tmp 11), type := 3, pos := "more.go:22", after := #[], guard := none }) (v := ?v17) rfl (by kernel_rfl) (by kernel_rfl) (by kernel_rfl) (by kernel_rfl) (fun c a w h => hP c a _ _ w h) (by rfl) ?hy17 hHeld ?rest17
  case hy17 =>
    intro w' hSw
    try dsimp only at hSw
    go_simp <;> with_reducible rfl
  try simp only [Act.put, List.setIfInBounds_toArray, List.set_cons_zero, List.set_cons_succ]
  refine InPhase.take (i := 18) (oi := { dst := some 107, op := Op.indexAddr 38 (Operand.tmp 105) (Operand.tmp 106), type := 0, pos := "more.go:22", after := #[{ on := 16, ground := Ground.data }, { on := 17, ground := Ground.data }], guard := none }) (v := ?v18) rfl (by kernel_rfl) (by kernel_rfl) (by kernel_rfl) (by kernel_rfl) (fun c a w h => hP c a _ _ w h) (by rfl) ?hy18 hHeld ?rest18
  case hy18 =>
    intro w' hSw
    try dsimp only at hSw
    go_simp <;> with_reducible rfl
  try simp only [Act.put, List.setIfInBounds_toArray, List.set_cons_zero, List.set_cons_succ]
  refine InPhase.take (i := 19) (oi := { dst := some 108, op := Op.load 44 (Operand.tmp 107), type := 44, pos := "more.go:22", after := #[{ on := 18, ground := Ground.data }], guard := none }) (v := ?v19) rfl (by kernel_rfl) (by kernel_rfl) (by kernel_rfl) (by kernel_rfl) (fun c a w h => hP c a _ _ w h) (by rfl) ?hy19 hHeld ?rest19
  case hy19 =>
    intro w' hSw
    try dsimp only at hSw
    go_simp <;> with_reducible rfl
  try simp only [Act.put, List.setIfInBounds_toArray, List.set_cons_zero, List.set_cons_succ]
  clear hHeld
  refine InPhase.one (i := 10) (o := { dst := some 99, op := Op.buildSlice 44 1 #[((0 : Nat), Operand.tmp 98)], type := 44, pos := "more.go:22", after := #[{ on := 9, ground := Ground.data }], guard := none }) (by kernel_rfl) rfl (fun K hK => ?_)
  go_simp
  have Bb := Blk.new wd #[.int .i64 0, .slice none 0 0, .int .i64 0] 43
  have KB : Keep [] wr (wd.alloc (.cells #[.int .i64 0, .slice none 0 0, .int .i64 0] 43)) := KD.alloc _
  refine hK.out _ _ (HS.out _ (KB.mono (by simp))) (fun hHeld => ?_)
  clear hK K
  try simp only [Act.put, List.setIfInBounds_toArray, List.set_cons_zero, List.set_cons_succ]
  have hdb : wd.heap.size ≤ (wd.alloc (.cells #[.int .i64 0, .slice none 0 0, .int .i64 0] 43)).heap.size := ((Keep.refl [] wd).alloc _).size
  have hrd := KD.size
  generalize wd.alloc (.cells #[.int .i64 0, .slice none 0 0, .int .i64 0] 43) = wb at KB Bb hHeld hdb ⊢
  clear hHeld
  refine InPhase.one (i := 20) (o := { dst := some 109, op := Op.call { callee := Callee.builtin Builtin.append, args := #[Operand.tmp 99, Operand.tmp 108], argTypes := #[44, 44] }, type := 44, pos := "more.go:22", after := #[{ on := 10, ground := Ground.data }, { on := 19, ground := Ground.data }], guard := none }) (by kernel_rfl) rfl (fun K hK => ?_)
  refine step_append_data symRow_stab symRow_one rfl _ _ 44 rfl Tryz.underlying44 his his0 his1 his2 rfl (by omega) (S := ownB v9 ++ [g, Y]) (base := wd.heap.size) (v := .slice (some ⟨wd.heap.size, 0, none⟩) 1 1) (A := A4) (m := al.length) (C := C5) (xs := [⟨0, [], 0⟩]) (ys := al) rfl rfl (OwnL.single Bb rfl (Nat.le_refl _) ⟨none, 0, rfl, Sl.nil _ _ _⟩) (SlOf.move (T := []) HH.out.2.2.2.2.1 symRow_stab (by omega) KB (by simp) (fun x hx => by
    rcases List.mem_append.1 hx with hx | hx
    · exact .inr (by have := mem_ownB.1 hx; omega)
    · exact .inl hx)) (by simp; omega) (by simp; omega) hdb ?_
  intro Aa Ca wa Oa Ka na
  have KA : Keep [] wr wa := KB.then Ka (fun b hb => .inr (by have := mem_ownB.1 hb; omega))
  refine hK.out _ _ (HS.out _ (KA.mono (by simp))) (fun hHeld => ?_)
  clear hK K na Ka Bb KB
  obtain ⟨nl, hnl⟩ : ∃ n, n = [(⟨0, [], 0⟩ : SymS)].length + al.length := ⟨_, rfl⟩
  rw [← hnl] at Oa ⊢
  have HOa := Lib.hid (⟨Oa, hnl⟩ : _ ∧ _)
  clear Oa hnl
  try simp only [Act.put, List.setIfInBounds_toArray, List.set_cons_zero, List.set_cons_succ]
  clear hHeld
  refine InPhase.one (i := 21) (o := { dst := some 110, op := Op.buildSlice 38 1 #[((0 : Nat), Operand.tmp 109)], type := 38, pos := "more.go:22", after := #[{ on := 20, ground := Ground.data }], guard := none }) (by kernel_rfl) rfl (fun K hK => ?_)
  go_simp
  have Bc := Blk.new wa #[.slice Aa nl Ca] 44
  have KC : Keep [] wr (wa.alloc (.cells #[.slice Aa nl Ca] 44)) := KA.alloc _
  have Kac : Keep [] wa (wa.alloc (.cells #[.slice Aa nl Ca] 44)) := (Keep.refl [] wa).alloc _
  have hra := KA.size
  refine hK.out _ _ (HS.out _ (KC.mono (by simp))) (fun hHeld => ?_)
  clear hK K
  try simp only [Act.put, List.setIfInBounds_toArray, List.set_cons_zero, List.set_cons_succ]
  generalize wa.alloc (.cells #[.slice Aa nl Ca] 44) = wc at KC Kac Bc hHeld ⊢
  clear hHeld
  refine InPhase.one (i := 22) (o := { dst := some 111, op := Op.call { callee := Callee.builtin Builtin.append, args := #[Operand.tmp 97, Operand.tmp 110], argTypes := #[38, 38] }, type := 38, pos := "more.go:22", after := #[{ on := 8, ground := Ground.data }, { on := 21, ground := Ground.data }, { on := 20, ground := Ground.chain }], guard := none }) (by kernel_rfl) rfl (fun K hK => ?_)
  refine step_append_data altRow_stab altRow_one rfl _ _ 38 rfl Tryz.underlying38 hia hia0 hia1 hia2 rfl (by omega) (S := [g, Y]) (base := Wi.heap.size) (v := v9) (A := some ⟨wa.heap.size, 0, none⟩) (m := 1) (C := 1) (xs := as0) (ys := [bytA al]) rfl rfl (HH.out.2.2.2.1.move altRow_stab (S' := [g, Y]) (T := []) KC (by simp) (fun x hx => .inl hx)) (alt_src (l := bytA al) HOa.out.1 (by have := HOa.out.2; simp at this; simp [bytA]; omega) Kac (fun x hx => by have := HH.out.2.2.2.2.2 _ hx; omega) Bc (fun hx => by have := HH.out.2.2.2.2.2 _ hx; omega)) (by simp; omega) (by simp; omega) (by have := HH.out.2.2.1.size; have := KC.size; omega) ?_
  intro A9 C9 w9 O9 K9 n9
  have K19 : Keep (ownB v9) wr w9 := (KC.mono (by simp)).then K9 (fun b hb => .inl hb)
  refine hK.out _ _ (HS.out _ K19) (fun hHeld => ?_)
  have B9g := HH.out.2.1.keep K19 hgo
  have f9 := B9g.frozen (i * 3)
  have c9 := hHeld.2.2.2.2
  have HFN : Hid (StA Wi g Y i cur (as0 ++ [bytA al]) (w9.setCell ⟨g, i * 3, none⟩ (.slice A9 (as0.length + [bytA al].length) C9))) := Lib.hid (StA.store (HH.out.2.2.1.then K19 (fun x hx => .inr (HH.out.2.2.2.1.base x hx).1)) B9g hg9 O9)
  generalize as0.length + [bytA al].length = len9 at HFN ⊢
  clear hK K hHeld n9 K9 K19 B9g O9
  try simp only [Act.put, List.setIfInBounds_toArray, List.set_cons_zero, List.set_cons_succ]
  refine InPhase.end (i := 23) (o := { dst := some 112, op := Op.indexAddr 22 (Operand.tmp 90) (Operand.tmp 91), type := 0, pos := "more.go:22", after := #[{ on := 1, ground := Ground.data }, { on := 2, ground := Ground.data }, { on := 0, ground := Ground.phase }, { on := 1, ground := Ground.phase }, { on := 2, ground := Ground.phase }, { on := 3, ground := Ground.phase }, { on := 4, ground := Ground.phase }, { on := 5, ground := Ground.phase }, { on := 6, ground := Ground.phase }, { on := 7, ground := Ground.phase }, { on := 8, ground := Ground.phase }, { on := 9, ground := Ground.phase }, { on := 10, ground := Ground.phase }, { on := 11, ground := Ground.phase }, { on := 12, ground := Ground.phase }, { on := 13, ground := Ground.phase }, { on := 14, ground := Ground.phase }, { on := 15, ground := Ground.phase }, { on := 16, ground := Ground.phase }, { on := 17, ground := Ground.phase }, { on := 18, ground := Ground.phase }, { on := 19, ground := Ground.phase }, { on := 20, ground := Ground.phase }, { on := 21, ground := Ground.phase }, { on := 22, ground := Ground.phase }], guard := none }) (by omega) (by kernel_rfl) rfl (fun K hK => ?_)
  go_simp
  refine hK.out _ _ ?_
  clear hK K
  try simp only [Act.put, List.setIfInBounds_toArray, List.set_cons_zero, List.set_cons_succ]
  refine InPhase.end (i := 24) (o := { dst := some 113, op := Op.fieldAddr 41 (Operand.tmp 112) 0, type := 0, pos := "more.go:22", after := #[{ on := 23, ground := Ground.data }, { on := 0, ground := Ground.phase }, { on := 1, ground := Ground.phase }, { on := 2, ground := Ground.phase }, { on := 3, ground := Ground.phase }, { on := 4, ground := Ground.phase }, { on := 5, ground := Ground.phase }, { on := 6, ground := Ground.phase }, { on := 7, ground := Ground.phase }, { on := 8, ground := Ground.phase }, { on := 9, ground := Ground.phase }, { on := 10, ground := Ground.phase }, { on := 11, ground := Ground.phase }, { on := 12, ground := Ground.phase }, { on := 13, ground := Ground.phase }, { on := 14, ground := Ground.phase }, { on := 15, ground := Ground.phase }, { on := 16, ground := Ground.phase }, { on := 17, ground := Ground.phase }, { on := 18, ground := Ground.phase }, { on := 19, ground := Ground.phase }, { on := 20, ground := Ground.phase }, { on := 21, ground := Ground.phase }, { on := 22, ground := Ground.phase }], guard := none }) (by omega) (by kernel_rfl) rfl (fun K hK => ?_)
  go_simp
  refine hK.out _ _ ?_
  clear hK K
  try simp only [Act.put, List.setIfInBounds_toArray, List.set_cons_zero, List.set_cons_succ]
  refine InPhase.end (i := 25) (o := { dst := none, op := Op.store 38 (Operand.tmp 113) (Operand.tmp 111), type := 0, pos := "more.go:22", after := #[{ on := 24, ground := Ground.data }, { on := 22, ground := Ground.data }, { on := 22, ground := Ground.chain }, { on := 0, ground := Ground.phase }, { on := 1, ground := Ground.phase }, { on := 2, ground := Ground.phase }, { on := 3, ground := Ground.phase }, { on := 4, ground := Ground.phase }, { on := 5, ground := Ground.phase }, { on := 6, ground := Ground.phase }, { on := 7, ground := Ground.phase }, { on := 8, ground := Ground.phase }, { on := 9, ground := Ground.phase }, { on := 10, ground := Ground.phase }, { on := 11, ground := Ground.phase }, { on := 12, ground := Ground.phase }, { on := 13, ground := Ground.phase }, { on := 14, ground := Ground.phase }, { on := 15, ground := Ground.phase }, { on := 16, ground := Ground.phase }, { on := 17, ground := Ground.phase }, { on := 18, ground := Ground.phase }, { on := 19, ground := Ground.phase }, { on := 20, ground := Ground.phase }, { on := 21, ground := Ground.phase }, { on := 22, ground := Ground.phase }], guard := none }) (by omega) (by kernel_rfl) rfl (fun K hK => ?_)
  go_simp
  refine hK.out _ _ ?_
  clear hK K
  try simp only [Act.put, List.setIfInBounds_toArray, List.set_cons_zero, List.set_cons_succ]
  exact InPhase.done (by kernel_rfl) (hQ _ HFN.out _ _ _ _ _ _ _ _ _ _ _ _ _ _ _ _ _ _ _ _ _ _ _ _ _) _
end Go.Proofs.YtbpidoiellcccaaGreatDoor
