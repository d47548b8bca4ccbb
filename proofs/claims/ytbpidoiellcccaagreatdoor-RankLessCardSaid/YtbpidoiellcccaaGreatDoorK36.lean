/- RankLess: the region that leaves one alternative out. -/
import Derived.Test.YtbpidoiellcccaaGreatDoorK33
import Derived.Test.YtbpidoiellcccaaGreatDoorK15
import Derived.Test.YtbpidoiellcccaaGreatDoorK25
import Derived.Test.YtbpidoiellcccaaGreatDoorK34
import Derived.Test.YtbpidoiellcccaaGreatDoorK35
set_option linter.unusedVariables false
set_option linter.unusedSimpArgs false
namespace Go.Proofs.YtbpidoiellcccaaGreatDoor
open Go Go.RowKit Go.MapKept

theorem SlOf.drop1 {α : Type} {R : List Nat → World → α → Array Value → Prop} {S : List Nat} {w : World} {k b o C : Nat} {xs : List α} (h : SlOf R S w k (.slice (some ⟨b, o, none⟩) xs.length C) xs) (i o' C' : Nat) (hi : i ≤ xs.length) (ho : i < xs.length → o' = o + i * k) (hC : C' = C - i) : SlOf R S w k (.slice (some ⟨b, o', none⟩) (xs.drop i).length C') (xs.drop i) := by
  obtain ⟨rows, ⟨a, c, hv, hm, hr⟩, h2, h3⟩ := h
  simp only [Value.slice.injEq] at hv
  obtain ⟨rfl, _, rfl⟩ := hv
  refine ⟨rows.drop i, ⟨_, C', by rw [List.length_drop, List.length_drop, h2], ?_, fun hp => ?_⟩, by simp [h2], fun j hj hj' => ?_⟩
  · simp only [List.length_drop]; omega
  · simp only [List.length_drop] at hp
    obtain ⟨b', o2, ha, hb, hc⟩ := hr (by omega)
    simp only [Option.some.injEq, Addr.mk.injEq, and_true] at ha
    obtain ⟨rfl, rfl⟩ := ha
    have ho := ho (by omega)
    subst ho
    refine ⟨b, _, rfl, hb, fun j hj => ?_⟩
    simp only [List.length_drop] at hj
    simp only [List.getElem_drop]
    have h4 := hc (i + j) (by omega)
    refine ⟨h4.1, fun q hq => ?_⟩
    rw [← h4.2 q hq, show o + i * k + j * k = o + (i + j) * k by rw [Nat.add_mul, Nat.add_assoc]]
  · simp only [List.getElem_drop]
    exact h3 _ (by simp only [List.length_drop] at hj; omega) (by simp only [List.length_drop] at hj'; omega)

set_option maxRecDepth 20000 in
set_option maxHeartbeats 4000000 in
theorem less_cut {Q : Exit → Act → World → Prop} {s0 s4 s5 s6 s7 s8 s9 s10 s11 s12 s13 s14 s16 s17 s18 s19 s20 s21 s22 s23 s24 s25 s26 s27 s28 s29 s30 s31 s32 s33 s34 s35 s36 s37 s38 s39 s40 s41 s42 s43 s44 s45 s46 s47 s48 s49 s50 s51 s52 s53 s54 s55 s56 s57 s58 s59 s60 s61 s62 s63 s64 s65 s66 s67 s68 s69 s70 s71 s72 s73 s74 s75 s76 s77 s78 s79 s80 s81 s82 s83 s84 s85 s86 s87 s88 s89 s90 s91 s92 s93 s94 s95 s96 s97 s98 s99 s100 s101 s102 s103 s104 s105 s106 s107 s108 s109 s110 s111 s112 s113 s114 s115 s116 s117 s118 s119 s120 s121 s122 s123 s124 s125 s126 s127 s128 s129 s130 s131 s132 s133 s134 s135 s136 s137 s138 s139 s140 s141 s142 s143 s144 s145 s146 s147 s148 s149 s150 s151 s152 s153 s154 s155 s156 s157 s158 s159 s160 s161 s162 s163 s164 s165 s166 s167 s168 s169 s170 s171 s172 s173 s174 s175 s176 s177 s178 s179 s180 s181 s182 s183 s184 s185 s186 : Value} {wr : World} {X Gb g bp op b2 o2 n k al8 base C CX C4 : Nat} {gv : Value} {ps : List ProdS} {ls : List (List SymS)}
    (x0 : wr.cell? ⟨X, 0, none⟩ = some (.slice (some ⟨g, 0, none⟩) ps.length CX)) (g0 : wr.cell? ⟨Gb, 0, none⟩ = some (.slice (some ⟨bp, op, none⟩) ps.length C)) (e0 : wr.cell? ⟨bp, op + n * 3, none⟩ = some (.slice (some ⟨b2, o2, none⟩) al8 C4))
    (c0 : wr.cell? ⟨g, n * 3, none⟩ = some gv) (hal : al8 = ls.length) (hA : Alts [g, X] wr (.slice (some ⟨b2, o2, none⟩) ls.length C4) ls) (OX : OwnL ProdRow [X] wr base 41 3 (.slice (some ⟨g, 0, none⟩) ps.length CX) ps)
    (hn : n < ps.length) (hk : k < al8) (h8 : al8 ≤ 8) (hl60 : ps.length ≤ 60) (hgX : g < wr.heap.size ∧ X < wr.heap.size) (hC4 : al8 ≤ C4) (hP : ∀ (c : _) (a : Act) (d : Tmp) (v : Value) (w : World), Q (.panic c) (a.put (some d) v) w → Q (.panic c) a w)
    (hQ : ∀ w' : World, AltsIn [X] wr base g CX ps n (ls.take k ++ ls.drop (k + 1)) w' → ∀ t148 t149 t150 t151 t152 t153 t154 t155 t156 t157 t158 t159 t160 t161 t162 t163 t164 t165 t166 t167 t168 t169 t170 t171 : Value, Q .normal { tmps := List.toArray (s0 :: .int .i64 n :: .int .i64 k :: .pointer (some ⟨Gb, 0, none⟩) :: s4 :: s5 :: s6 :: s7 :: s8 :: s9 :: s10 :: s11 :: s12 :: s13 :: s14 :: .pointer (some ⟨X, 0, none⟩) :: s16 :: s17 :: s18 :: s19 :: s20 :: s21 :: s22 :: s23 :: s24 :: s25 :: s26 :: s27 :: s28 :: s29 :: s30 :: s31 :: s32 :: s33 :: s34 :: s35 :: s36 :: s37 :: s38 :: s39 :: s40 :: s41 :: s42 :: s43 :: s44 :: s45 :: s46 :: s47 :: s48 :: s49 :: s50 :: s51 :: s52 :: s53 :: s54 :: s55 :: s56 :: s57 :: s58 :: s59 :: s60 :: s61 :: s62 :: s63 :: s64 :: s65 :: s66 :: s67 :: s68 :: s69 :: s70 :: s71 :: s72 :: s73 :: s74 :: s75 :: s76 :: s77 :: s78 :: s79 :: s80 :: s81 :: s82 :: s83 :: s84 :: s85 :: s86 :: s87 :: s88 :: s89 :: s90 :: s91 :: s92 :: s93 :: s94 :: s95 :: s96 :: s97 :: s98 :: s99 :: s100 :: s101 :: s102 :: s103 :: s104 :: s105 :: s106 :: s107 :: s108 :: s109 :: s110 :: s111 :: s112 :: s113 :: s114 :: s115 :: s116 :: s117 :: s118 :: s119 :: s120 :: s121 :: s122 :: s123 :: s124 :: s125 :: s126 :: s127 :: s128 :: s129 :: s130 :: s131 :: s132 :: s133 :: s134 :: s135 :: s136 :: s137 :: s138 :: s139 :: s140 :: s141 :: s142 :: s143 :: s144 :: s145 :: s146 :: s147 :: t148 :: t149 :: t150 :: t151 :: t152 :: t153 :: t154 :: t155 :: t156 :: t157 :: t158 :: t159 :: t160 :: t161 :: t162 :: t163 :: t164 :: t165 :: t166 :: t167 :: t168 :: t169 :: t170 :: t171 :: s172 :: s173 :: s174 :: s175 :: s176 :: s177 :: s178 :: s179 :: s180 :: s181 :: s182 :: s183 :: s184 :: s185 :: s186 :: []), defers := [] } w') :
    (Code.region 27 #[{ dst := some 148, op := Op.fieldAddr 25 (Operand.tmp 15) 0, type := 0, pos := "more.go:39", after := #[], guard := none },
    { dst := some 149, op := Op.load 22 (Operand.tmp 148), type := 22, pos := "more.go:39", after := #[{ on := 0, ground := Ground.data }], guard := none },
    { dst := some 150, op := Op.move (Operand.tmp 1), type := 3, pos := "more.go:39", after := #[], guard := none },
    { dst := some 151, op := Op.fieldAddr 25 (Operand.tmp 3) 0, type := 0, pos := "more.go:39", after := #[], guard := none },
    { dst := some 152, op := Op.load 22 (Operand.tmp 151), type := 22, pos := "more.go:39", after := #[{ on := 3, ground := Ground.data }], guard := none },
    { dst := some 153, op := Op.move (Operand.tmp 1), type := 3, pos := "more.go:39", after := #[], guard := none },
    { dst := some 154, op := Op.indexAddr 22 (Operand.tmp 152) (Operand.tmp 153), type := 0, pos := "more.go:39", after := #[{ on := 4, ground := Ground.data }, { on := 5, ground := Ground.data }], guard := none },
    { dst := some 155, op := Op.fieldAddr 41 (Operand.tmp 154) 0, type := 0, pos := "more.go:39", after := #[{ on := 6, ground := Ground.data }], guard := none },
    { dst := some 156, op := Op.load 38 (Operand.tmp 155), type := 38, pos := "more.go:39", after := #[{ on := 7, ground := Ground.data }], guard := none },
    { dst := some 157, op := Op.move (Operand.tmp 2), type := 3, pos := "more.go:39", after := #[], guard := none },
    { dst := some 158, op := Op.slice 38 (Operand.tmp 156) none (some (Operand.tmp 157)) none, type := 38, pos := "more.go:39", after := #[{ on := 8, ground := Ground.data }, { on := 9, ground := Ground.data }], guard := none },
    { dst := some 159, op := Op.call { callee := Callee.builtin Builtin.append, args := #[Operand.const (Value.slice none 0 0), Operand.tmp 158], argTypes := #[38, 38] }, type := 38, pos := "more.go:39", after := #[{ on := 10, ground := Ground.data }], guard := none },
    { dst := some 160, op := Op.fieldAddr 25 (Operand.tmp 3) 0, type := 0, pos := "more.go:39", after := #[], guard := none },
    { dst := some 161, op := Op.load 22 (Operand.tmp 160), type := 22, pos := "more.go:39", after := #[{ on := 12, ground := Ground.data }], guard := none },
    { dst := some 162, op := Op.move (Operand.tmp 1), type := 3, pos := "more.go:39", after := #[], guard := none },
    { dst := some 163, op := Op.indexAddr 22 (Operand.tmp 161) (Operand.tmp 162), type := 0, pos := "more.go:39", after := #[{ on := 13, ground := Ground.data }, { on := 14, ground := Ground.data }], guard := none },
    { dst := some 164, op := Op.fieldAddr 41 (Operand.tmp 163) 0, type := 0, pos := "more.go:39", after := #[{ on := 15, ground := Ground.data }], guard := none },
    { dst := some 165, op := Op.load 38 (Operand.tmp 164), type := 38, pos := "more.go:39", after := #[{ on := 16, ground := Ground.data }], guard := none },
    { dst := some 166, op := Op.move (Operand.tmp 2), type := 3, pos := "more.go:39", after := #[], guard := none },
    { dst := some 167, op := Op.binOp BinOp.add 3 (Operand.tmp 166) (Operand.const (Value.int IntKind.i64 1)) 3, type := 3, pos := "more.go:39", after := #[{ on := 18, ground := Ground.data }], guard := none },
    { dst := some 168, op := Op.slice 38 (Operand.tmp 165) (some (Operand.tmp 167)) none none, type := 38, pos := "more.go:39", after := #[{ on := 17, ground := Ground.data }, { on := 19, ground := Ground.data }], guard := none },
    { dst := some 169, op := Op.call { callee := Callee.builtin Builtin.append, args := #[Operand.tmp 159, Operand.tmp 168], argTypes := #[38, 38] }, type := 38, pos := "more.go:39", after := #[{ on := 11, ground := Ground.data }, { on := 20, ground := Ground.data }, { on := 11, ground := Ground.chain }], guard := none },
    { dst := some 170, op := Op.indexAddr 22 (Operand.tmp 149) (Operand.tmp 150), type := 0, pos := "more.go:39", after := #[{ on := 1, ground := Ground.data }, { on := 2, ground := Ground.data }, { on := 0, ground := Ground.phase }, { on := 1, ground := Ground.phase }, { on := 2, ground := Ground.phase }, { on := 3, ground := Ground.phase }, { on := 4, ground := Ground.phase }, { on := 5, ground := Ground.phase }, { on := 6, ground := Ground.phase }, { on := 7, ground := Ground.phase }, { on := 8, ground := Ground.phase }, { on := 9, ground := Ground.phase }, { on := 10, ground := Ground.phase }, { on := 11, ground := Ground.phase }, { on := 12, ground := Ground.phase }, { on := 13, ground := Ground.phase }, { on := 14, ground := Ground.phase }, { on := 15, ground := Ground.phase }, { on := 16, ground := Ground.phase }, { on := 17, ground := Ground.phase }, { on := 18, ground := Ground.phase }, { on := 19, ground := Ground.phase }, { on := 20, ground := Ground.phase }, { on := 21, ground := Ground.phase }], guard := none },
    { dst := some 171, op := Op.fieldAddr 41 (Operand.tmp 170) 0, type := 0, pos := "more.go:39", after := #[{ on := 22, ground := Ground.data }, { on := 0, ground := Ground.phase }, { on := 1, ground := Ground.phase }, { on := 2, ground := Ground.phase }, { on := 3, ground := Ground.phase }, { on := 4, ground := Ground.phase }, { on := 5, ground := Ground.phase }, { on := 6, ground := Ground.phase }, { on := 7, ground := Ground.phase }, { on := 8, ground := Ground.phase }, { on := 9, ground := Ground.phase }, { on := 10, ground := Ground.phase }, { on := 11, ground := Ground.phase }, { on := 12, ground := Ground.phase }, { on := 13, ground := Ground.phase }, { on := 14, ground := Ground.phase }, { on := 15, ground := Ground.phase }, { on := 16, ground := Ground.phase }, { on := 17, ground := Ground.phase }, { on := 18, ground := Ground.phase }, { on := 19, ground := Ground.phase }, { on := 20, ground := Ground.phase }, { on := 21, ground := Ground.phase }], guard := none },
    { dst := none, op := Op.store 38 (Operand.tmp 171) (Operand.tmp 169), type := 0, pos := "more.go:39", after := #[{ on := 23, ground := Ground.data }, { on := 21, ground := Ground.data }, { on := 21, ground := Ground.chain }, { on := 0, ground := Ground.phase }, { on := 1, ground := Ground.phase }, { on := 2, ground := Ground.phase }, { on := 3, ground := Ground.phase }, { on := 4, ground := Ground.phase }, { on := 5, ground := Ground.phase }, { on := 6, ground := Ground.phase }, { on := 7, ground := Ground.phase }, { on := 8, ground := Ground.phase }, { on := 9, ground := Ground.phase }, { on := 10, ground := Ground.phase }, { on := 11, ground := Ground.phase }, { on := 12, ground := Ground.phase }, { on := 13, ground := Ground.phase }, { on := 14, ground := Ground.phase }, { on := 15, ground := Ground.phase }, { on := 16, ground := Ground.phase }, { on := 17, ground := Ground.phase }, { on := 18, ground := Ground.phase }, { on := 19, ground := Ground.phase }, { on := 20, ground := Ground.phase }, { on := 21, ground := Ground.phase }], guard := none }] true).wp Tryz.prog Q { tmps := List.toArray (s0 :: .int .i64 n :: .int .i64 k :: .pointer (some ⟨Gb, 0, none⟩) :: s4 :: s5 :: s6 :: s7 :: s8 :: s9 :: s10 :: s11 :: s12 :: s13 :: s14 :: .pointer (some ⟨X, 0, none⟩) :: s16 :: s17 :: s18 :: s19 :: s20 :: s21 :: s22 :: s23 :: s24 :: s25 :: s26 :: s27 :: s28 :: s29 :: s30 :: s31 :: s32 :: s33 :: s34 :: s35 :: s36 :: s37 :: s38 :: s39 :: s40 :: s41 :: s42 :: s43 :: s44 :: s45 :: s46 :: s47 :: s48 :: s49 :: s50 :: s51 :: s52 :: s53 :: s54 :: s55 :: s56 :: s57 :: s58 :: s59 :: s60 :: s61 :: s62 :: s63 :: s64 :: s65 :: s66 :: s67 :: s68 :: s69 :: s70 :: s71 :: s72 :: s73 :: s74 :: s75 :: s76 :: s77 :: s78 :: s79 :: s80 :: s81 :: s82 :: s83 :: s84 :: s85 :: s86 :: s87 :: s88 :: s89 :: s90 :: s91 :: s92 :: s93 :: s94 :: s95 :: s96 :: s97 :: s98 :: s99 :: s100 :: s101 :: s102 :: s103 :: s104 :: s105 :: s106 :: s107 :: s108 :: s109 :: s110 :: s111 :: s112 :: s113 :: s114 :: s115 :: s116 :: s117 :: s118 :: s119 :: s120 :: s121 :: s122 :: s123 :: s124 :: s125 :: s126 :: s127 :: s128 :: s129 :: s130 :: s131 :: s132 :: s133 :: s134 :: s135 :: s136 :: s137 :: s138 :: s139 :: s140 :: s141 :: s142 :: s143 :: s144 :: s145 :: s146 :: s147 :: s148 :: s149 :: s150 :: s151 :: s152 :: s153 :: s154 :: s155 :: s156 :: s157 :: s158 :: s159 :: s160 :: s161 :: s162 :: s163 :: s164 :: s165 :: s166 :: s167 :: s168 :: s169 :: s170 :: s171 :: s172 :: s173 :: s174 :: s175 :: s176 :: s177 :: s178 :: s179 :: s180 :: s181 :: s182 :: s183 :: s184 :: s185 :: s186 :: []), defers := [] } wr := by
  have hil' : (n : Int) < (ps.length : Int) := by omega
  have hkl' : (k : Int) < (al8 : Int) := by omega
  have hkC : (k : Int) ≤ (C4 : Int) := by omega
  have HAL := Lib.hid hal
  have hwk : IntKind.i64.wrap ((k : Int) + 1) = ((k + 1 : Nat) : Int) := IntWalk.i64_in _ (by omega)
  obtain ⟨o3, ho3⟩ : ∃ o3, (C4 = k + 1 ∧ o3 = o2) ∨ (¬ C4 = k + 1 ∧ o3 = o2 + (k + 1)) := by
    by_cases h : C4 = k + 1
    · exact ⟨_, .inl ⟨h, rfl⟩⟩
    · exact ⟨_, .inr ⟨h, rfl⟩⟩
  have HO3 := Lib.hid ho3
  clear hal ho3
  have hk1 : (k : Int) + 1 ≤ (al8 : Int) := by omega
  have halC : (al8 : Int) ≤ (C4 : Int) := by omega
  obtain ⟨ia, hia, hia0, hia1, hia2⟩ := info_parts info_alt2
  have HF : Hid (∀ w', Keep [] wr w' → w'.frozen? ⟨g, n * 3, none⟩ = false) := Lib.hid (fun w' K => by
    have h0 : 0 < ps.length := by omega
    obtain ⟨cur, hcur⟩ := OX.blk h0
    exact (hcur.keep K (by simp)).frozen _)
  have HH := Lib.hid (⟨hA, OX, c0⟩ : _ ∧ _ ∧ _)
  have HS : Hid (∀ w', Keep [] wr w' → w'.cell? ⟨X, 0, none⟩ = some (.slice (some ⟨g, 0, none⟩) ps.length CX) ∧ w'.cell? ⟨Gb, 0, none⟩ = some (.slice (some ⟨bp, op, none⟩) ps.length C) ∧ w'.cell? ⟨bp, op + n * 3, none⟩ = some (.slice (some ⟨b2, o2, none⟩) al8 C4)) := Lib.hid (fun w' K =>
    ⟨K.cell x0 (by simp), K.cell g0 (by simp), K.cell e0 (by simp)⟩)
  clear hA OX c0 x0 g0 e0
  refine InPhase.region (n := 22) (S := fun w' => w'.cell? ⟨X, 0, none⟩ = some (.slice (some ⟨g, 0, none⟩) ps.length CX) ∧ w'.cell? ⟨Gb, 0, none⟩ = some (.slice (some ⟨bp, op, none⟩) ps.length C) ∧ w'.cell? ⟨bp, op + n * 3, none⟩ = some (.slice (some ⟨b2, o2, none⟩) al8 C4)) (f := 25) (l := #[false, false, false, false, false, false, false, false, false, false, false, false, false, false, false, false, false, false, false, false, false, false, false, false, false]) (by kernel_rfl) rfl rfl ?_
  have KD : Keep [] wr wr.drew := (Keep.refl [] wr).drew
  generalize wr.drew = wd at KD ⊢
  have hHeld := HS.out wd KD
  refine InPhase.take (i := 0) (oi := { dst := some 148, op := Op.fieldAddr 25 (Operand.tmp 15) 0, type := 0, pos := "more.go:39", after := #[], guard := none }) (v := ?v0) rfl (by kernel_rfl) (by kernel_rfl) (by kernel_rfl) (by kernel_rfl) (fun c a w h => hP c a _ _ w h) (by rfl) ?hy0 hHeld ?rest0
  case hy0 =>
    intro w' hSw
    try dsimp only at hSw
    go_simp <;> with_reducible rfl
  try simp only [Act.put, List.setIfInBounds_toArray, List.set_cons_zero, List.set_cons_succ]
  refine InPhase.take (i := 1) (oi := { dst := some 149, op := Op.load 22 (Operand.tmp 148), type := 22, pos := "more.go:39", after := #[{ on := 0, ground := Ground.data }], guard := none }) (v := ?v1) rfl (by kernel_rfl) (by kernel_rfl) (by kernel_rfl) (by kernel_rfl) (fun c a w h => hP c a _ _ w h) (by rfl) ?hy1 hHeld ?rest1
  case hy1 =>
    intro w' hSw
    try dsimp only at hSw
    go_simp <;> with_reducible rfl
  try simp only [Act.put, List.setIfInBounds_toArray, List.set_cons_zero, List.set_cons_succ]
  refine InPhase.take (i := 2) (oi := { dst := some 150, op := Op.move (Operand.tmp 1), type := 3, pos := "more.go:39", after := #[], guard := none }) (v := ?v2) rfl (by kernel_rfl) (by kernel_rfl) (by kernel_rfl) (by kernel_rfl) (fun c a w h => hP c a _ _ w h) (by rfl) ?hy2 hHeld ?rest2
  case hy2 =>
    intro w' hSw
    try dsimp only at hSw
    go_simp <;> with_reducible rfl
  try simp only [Act.put, List.setIfInBounds_toArray, List.set_cons_zero, List.set_cons_succ]
  refine InPhase.take (i := 3) (oi := { dst := some 151, op := Op.fieldAddr 25 (Operand.tmp 3) 0, type := 0, pos := "more.go:39", after := #[], guard := none }) (v := ?v3) rfl (by kernel_rfl) (by kernel_rfl) (by kernel_rfl) (by kernel_rfl) (fun c a w h => hP c a _ _ w h) (by rfl) ?hy3 hHeld ?rest3
  case hy3 =>
    intro w' hSw
    try dsimp only at hSw
    go_simp <;> with_reducible rfl
  try simp only [Act.put, List.setIfInBounds_toArray, List.set_cons_zero, List.set_cons_succ]
  refine InPhase.take (i := 4) (oi := { dst := some 152, op := Op.load 22 (Operand.tmp 151), type := 22, pos := "more.go:39", after := #[{ on := 3, ground := Ground.data }], guard := none }) (v := ?v4) rfl (by kernel_rfl) (by kernel_rfl) (by kernel_rfl) (by kernel_rfl) (fun c a w h => hP c a _ _ w h) (by rfl) ?hy4 hHeld ?rest4
  case hy4 =>
    intro w' hSw
    try dsimp only at hSw
    go_simp <;> with_reducible rfl
  try simp only [Act.put, List.setIfInBounds_toArray, List.set_cons_zero, List.set_cons_succ]
  refine InPhase.take (i := 5) (oi := { dst := some 153, op := Op.move (Operand.tmp 1), type := 3, pos := "more.go:39", after := #[], guard := none }) (v := ?v5) rfl (by kernel_rfl) (by kernel_rfl) (by kernel_rfl) (by kernel_rfl) (fun c a w h => hP c a _ _ w h) (by rfl) ?hy5 hHeld ?rest5
  case hy5 =>
    intro w' hSw
    try dsimp only at hSw
    go_simp <;> with_reducible rfl
  try simp only [Act.put, List.setIfInBounds_toArray, List.set_cons_zero, List.set_cons_succ]
  refine InPhase.take (i := 6) (oi := { dst := some 154, op := Op.indexAddr 22 (Operand.tmp 152) (Operand.tmp 153), type := 0, pos := "more.go:39", after := #[{ on := 4, ground := Ground.data }, { on := 5, ground := Ground.data }], guard := none }) (v := ?v6) rfl (by kernel_rfl) (by kernel_rfl) (by kernel_rfl) (by kernel_rfl) (fun c a w h => hP c a _ _ w h) (by rfl) ?hy6 hHeld ?rest6
  case hy6 =>
    intro w' hSw
    try dsimp only at hSw
    go_simp <;> with_reducible rfl
  try simp only [Act.put, List.setIfInBounds_toArray, List.set_cons_zero, List.set_cons_succ]
  refine InPhase.take (i := 7) (oi := { dst := some 155, op := Op.fieldAddr 41 (Operand.tmp 154) 0, type := 0, pos := "more.go:39", after := #[{ on := 6, ground := Ground.data }], guard := none }) (v := ?v7) rfl (by kernel_rfl) (by kernel_rfl) (by kernel_rfl) (by kernel_rfl) (fun c a w h => hP c a _ _ w h) (by rfl) ?hy7 hHeld ?rest7
  case hy7 =>
    intro w' hSw
    try dsimp only at hSw
    go_simp <;> with_reducible rfl
  try simp only [Act.put, List.setIfInBounds_toArray, List.set_cons_zero, List.set_cons_succ]
  refine InPhase.take (i := 8) (oi := { dst := some 156, op := Op.load 38 (Operand.tmp 155), type := 38, pos := "more.go:39", after := #[{ on := 7, ground := Ground.data }], guard := none }) (v := ?v8) rfl (by kernel_rfl) (by kernel_rfl) (by kernel_rfl) (by kernel_rfl) (fun c a w h => hP c a _ _ w h) (by rfl) ?hy8 hHeld ?rest8
  case hy8 =>
    intro w' hSw
    try dsimp only at hSw
    go_simp <;> with_reducible rfl
  try simp only [Act.put, List.setIfInBounds_toArray, List.set_cons_zero, List.set_cons_succ]
  refine InPhase.take (i := 9) (oi := { dst := some 157, op := Op.move (Operand.tmp 2), type := 3, pos := "more.go:39", after := #[], guard := none }) (v := ?v9) rfl (by kernel_rfl) (by kernel_rfl) (by kernel_rfl) (by kernel_rfl) (fun c a w h => hP c a _ _ w h) (by rfl) ?hy9 hHeld ?rest9
  case hy9 =>
    intro w' hSw
    try dsimp only at hSw
    go_simp <;> with_reducible rfl
  try simp only [Act.put, List.setIfInBounds_toArray, List.set_cons_zero, List.set_cons_succ]
  refine InPhase.take (i := 10) (oi := { dst := some 158, op := Op.slice 38 (Operand.tmp 156) none (some (Operand.tmp 157)) none, type := 38, pos := "more.go:39", after := #[{ on := 8, ground := Ground.data }, { on := 9, ground := Ground.data }], guard := none }) (v := ?v10) rfl (by kernel_rfl) (by kernel_rfl) (by kernel_rfl) (by kernel_rfl) (fun c a w h => hP c a _ _ w h) (by rfl) ?hy10 hHeld ?rest10
  case hy10 =>
    intro w' hSw
    try dsimp only at hSw
    go_simp <;> with_reducible rfl
  try simp only [Act.put, List.setIfInBounds_toArray, List.set_cons_zero, List.set_cons_succ]
  refine InPhase.take (i := 12) (oi := { dst := some 160, op := Op.fieldAddr 25 (Operand.tmp 3) 0, type := 0, pos := "more.go:39", after := #[], guard := none }) (v := ?v12) rfl (by kernel_rfl) (by kernel_rfl) (by kernel_rfl) (by kernel_rfl) (fun c a w h => hP c a _ _ w h) (by rfl) ?hy12 hHeld ?rest12
  case hy12 =>
    intro w' hSw
    try dsimp only at hSw
    go_simp <;> with_reducible rfl
  try simp only [Act.put, List.setIfInBounds_toArray, List.set_cons_zero, List.set_cons_succ]
  refine InPhase.take (i := 13) (oi := { dst := some 161, op := Op.load 22 (Operand.tmp 160), type := 22, pos := "more.go:39", after := #[{ on := 12, ground := Ground.data }], guard := none }) (v := ?v13) rfl (by kernel_rfl) (by kernel_rfl) (by kernel_rfl) (by kernel_rfl) (fun c a w h => hP c a _ _ w h) (by rfl) ?hy13 hHeld ?rest13
  case hy13 =>
    intro w' hSw
    try dsimp only at hSw
    go_simp <;> with_reducible rfl
  try simp only [Act.put, List.setIfInBounds_toArray, List.set_cons_zero, List.set_cons_succ]
  refine InPhase.take (i := 14) (oi := { dst := some 162, op := Op.move (Operand.tmp 1), type := 3, pos := "more.go:39", after := #[], guard := none }) (v := ?v14) rfl (by kernel_rfl) (by kernel_rfl) (by kernel_rfl) (by kernel_rfl) (fun c a w h => hP c a _ _ w h) (by rfl) ?hy14 hHeld ?rest14
  case hy14 =>
    intro w' hSw
    try dsimp only at hSw
    go_simp <;> with_reducible rfl
  try simp only [Act.put, List.setIfInBounds_toArray, List.set_cons_zero, List.set_cons_succ]
  refine InPhase.take (i := 15) (oi := { dst := some 163, op := Op.indexAddr 22 (Operand.tmp 161) (Operand.tmp 162), type := 0, pos := "more.go:39", after := #[{ on := 13, ground := Ground.data }, { on := 14, ground := Ground.data }], guard := none }) (v := ?v15) rfl (by kernel_rfl) (by kernel_rfl) (by kernel_rfl) (by kernel_rfl) (fun c a w h => hP c a _ _ w h) (by rfl) ?hy15 hHeld ?rest15
  case hy15 =>
    intro w' hSw
    try dsimp only at hSw
    go_simp <;> with_reducible rfl
  try simp only [Act.put, List.setIfInBounds_toArray, List.set_cons_zero, List.set_cons_succ]
  refine InPhase.take (i := 16) (oi := { dst := some 164, op := Op.fieldAddr 41 (Operand.tmp 163) 0, type := 0, pos := "more.go:39", after := #[{ on := 15, ground := Ground.data }], guard := none }) (v := ?v16) rfl (by kernel_rfl) (by kernel_rfl) (by kernel_rfl) (by kernel_rfl) (fun c a w h => hP c a _ _ w h) (by rfl) ?hy16 hHeld ?rest16
  case hy16 =>
    intro w' hSw
    try dsimp only at hSw
    go_simp <;> with_reducible rfl
  try simp only [Act.put, List.setIfInBounds_toArray, List.set_cons_zero, List.set_cons_succ]
  refine InPhase.take (i := 17) (oi := { dst := some 165, op := Op.load 38 (Operand.tmp 164), type := 38, pos := "more.go:39", after := #[{ on := 16, ground := Ground.data }], guard := none }) (v := ?v17) rfl (by kernel_rfl) (by kernel_rfl) (by kernel_rfl) (by kernel_rfl) (fun c a w h => hP c a _ _ w h) (by rfl) ?hy17 hHeld ?rest17
  case hy17 =>
    intro w' hSw
    try dsimp only at hSw
    go_simp <;> with_reducible rfl
  try simp only [Act.put, List.setIfInBounds_toArray, List.set_cons_zero, List.set_cons_succ]
  refine InPhase.take (i := 18) (oi := { dst := some 166, op := Op.move (Operand.tmp 2), type := 3, pos := "more.go:39", after := #[], guard := none }) (v := ?v18) rfl (by kernel_rfl) (by kernel_rfl) (by kernel_rfl) (by kernel_rfl) (fun c a w h => hP c a _ _ w h) (by rfl) ?hy18 hHeld ?rest18
  case hy18 =>
    intro w' hSw
    try dsimp only at hSw
    go_simp <;> with_reducible rfl
  try simp only [Act.put, List.setIfInBounds_toArray, List.set_cons_zero, List.set_cons_succ]
  refine InPhase.take (i := 19) (oi := { dst := some 167, op := Op.binOp BinOp.add 3 (Operand.tmp 166) (Operand.const (Value.int IntKind.i64 1)) 3, type := 3, pos := "more.go:39", after := #[{ on := 18, ground := Ground.data }], guard := none }) (v := ?v19) rfl (by kernel_rfl) (by kernel_rfl) (by kernel_rfl) (by kernel_rfl) (fun c a w h => hP c a _ _ w h) (by rfl) ?hy19 hHeld ?rest19
  case hy19 =>
    intro w' hSw
    try dsimp only at hSw
    go_simp <;> with_reducible rfl
  try simp only [Act.put, List.setIfInBounds_toArray, List.set_cons_zero, List.set_cons_succ]
  refine InPhase.take (i := 20) (oi := { dst := some 168, op := Op.slice 38 (Operand.tmp 165) (some (Operand.tmp 167)) none none, type := 38, pos := "more.go:39", after := #[{ on := 17, ground := Ground.data }, { on := 19, ground := Ground.data }], guard := none }) (v := .slice (some ⟨b2, o3, none⟩) (al8 - (k + 1)) (C4 - (k + 1))) rfl (by kernel_rfl) (by kernel_rfl) (by kernel_rfl) (by kernel_rfl) (fun c a w h => hP c a _ _ w h) (by rfl) ?hy20 hHeld ?rest20
  case hy20 =>
    intro w' hSw
    try dsimp only at hSw
    rcases HO3.out with ⟨h1, h2⟩ | ⟨h1, h2⟩
    · subst h2
      go_simp
      intro h3
      omega
    · subst h2
      go_simp
      intro h3
      omega
  try simp only [Act.put, List.setIfInBounds_toArray, List.set_cons_zero, List.set_cons_succ]
  clear hHeld
  refine InPhase.one (i := 11) (o := { dst := some 159, op := Op.call { callee := Callee.builtin Builtin.append, args := #[Operand.const (Value.slice none 0 0), Operand.tmp 158], argTypes := #[38, 38] }, type := 38, pos := "more.go:39", after := #[{ on := 10, ground := Ground.data }], guard := none }) (by kernel_rfl) rfl (fun K hK => ?_)
  have hkt : (ls.take k).length = k := by rw [List.length_take]; have := HAL.out; omega
  have hkd : (ls.drop (k + 1)).length = al8 - (k + 1) := by rw [List.length_drop, HAL.out]
  refine step_append_new altRow_stab altRow_one rfl _ _ 38 rfl Tryz.underlying38 hia hia0 hia1 hia2 rfl (by omega) [g, X] wr.heap.size (ys := ls.take k) (some ⟨b2, o2, none⟩) k C4 rfl rfl (by
    have h := SlOf.move (T := []) (SlOf.take HH.out.1 k (by have := HAL.out; omega)) altRow_stab (by omega) KD (by simp) (fun x hx => .inl hx)
    rwa [hkt] at h) (by omega) (by omega) KD.size ?_
  intro A8 C8 w8 O8 K8 n8
  have KA : Keep [] wr w8 := KD.trans K8
  refine hK.out _ _ (HS.out _ KA) (fun hHeld => ?_)
  clear hK K
  have HO8 := Lib.hid (⟨O8, n8, K8⟩ : _ ∧ _ ∧ _)
  clear O8 n8 K8
  try simp only [Act.put, List.setIfInBounds_toArray, List.set_cons_zero, List.set_cons_succ]
  clear hHeld
  refine InPhase.one (i := 21) (o := { dst := some 169, op := Op.call { callee := Callee.builtin Builtin.append, args := #[Operand.tmp 159, Operand.tmp 168], argTypes := #[38, 38] }, type := 38, pos := "more.go:39", after := #[{ on := 11, ground := Ground.data }, { on := 20, ground := Ground.data }, { on := 11, ground := Ground.chain }], guard := none }) (by kernel_rfl) rfl (fun K hK => ?_)
  refine step_append_data altRow_stab altRow_one rfl _ _ 38 rfl Tryz.underlying38 hia hia0 hia1 hia2 rfl (by omega) (S := [g, X]) (base := wr.heap.size) (v := .slice A8 (ls.take k).length C8) (A := some ⟨b2, o3, none⟩) (m := al8 - (k + 1)) (C := C4 - (k + 1)) (xs := ls.take k) (ys := ls.drop (k + 1)) rfl rfl HO8.out.1 (by
    have h := SlOf.move (T := []) (S' := ownB (.slice A8 (ls.take k).length C8) ++ [g, X]) (SlOf.drop1 HH.out.1 (k + 1) o3 (C4 - (k + 1)) (by have := HAL.out; omega) (fun h => by have := HAL.out; rcases HO3.out with h1 | h1 <;> omega) rfl) altRow_stab (by omega) KA (by simp) (fun x hx => by
      rcases List.mem_append.1 hx with hx | hx
      · exact .inr (by have := HO8.out.2.1 x hx; have := KD.size; omega)
      · exact .inl hx)
    rwa [hkd] at h) (by omega) (by omega) KA.size ?_
  intro A9 C9 w9 O9 K9 n9
  have K19 : Keep [] wr w9 := KA.then K9 (fun b hb => .inr (by have := HO8.out.2.1 b hb; have := KD.size; omega))
  refine hK.out _ _ (HS.out _ K19) (fun hHeld => ?_)
  have c9 := K19.cell HH.out.2.2 (by simp)
  have f9 := HF.out _ K19
  have HFN : Hid (AltsIn [X] wr base g CX ps n (ls.take k ++ ls.drop (k + 1)) (w9.setCell ⟨g, n * 3, none⟩ (.slice A9 ((ls.take k).length + (ls.drop (k + 1)).length) C9))) := Lib.hid (altsIn HH.out.2.1 hn K19 (fun b hb => by simp at hb; rcases hb with rfl | rfl <;> omega) (by simp) O9)
  generalize (ls.take k).length + (ls.drop (k + 1)).length = len9 at HFN ⊢
  clear hK K hHeld n9 K9 K19 O9
  try simp only [Act.put, List.setIfInBounds_toArray, List.set_cons_zero, List.set_cons_succ]
  refine InPhase.end (i := 22) (o := { dst := some 170, op := Op.indexAddr 22 (Operand.tmp 149) (Operand.tmp 150), type := 0, pos := "more.go:39", after := #[{ on := 1, ground := Ground.data }, { on := 2, ground := Ground.data }, { on := 0, ground := Ground.phase }, { on := 1, ground := Ground.phase }, { on := 2, ground := Ground.phase }, { on := 3, ground := Ground.phase }, { on := 4, ground := Ground.phase }, { on := 5, ground := Ground.phase }, { on := 6, ground := Ground.phase }, { on := 7, ground := Ground.phase }, { on := 8, ground := Ground.phase }, { on := 9, ground := Ground.phase }, { on := 10, ground := Ground.phase }, { on := 11, ground := Ground.phase }, { on := 12, ground := Ground.phase }, { on := 13, ground := Ground.phase }, { on := 14, ground := Ground.phase }, { on := 15, ground := Ground.phase }, { on := 16, ground := Ground.phase }, { on := 17, ground := Ground.phase }, { on := 18, ground := Ground.phase }, { on := 19, ground := Ground.phase }, { on := 20, ground := Ground.phase }, { on := 21, ground := Ground.phase }], guard := none }) (by omega) (by kernel_rfl) rfl (fun K hK => ?_)
  go_simp
  refine hK.out _ _ ?_
  clear hK K
  try simp only [Act.put, List.setIfInBounds_toArray, List.set_cons_zero, List.set_cons_succ]
  refine InPhase.end (i := 23) (o := { dst := some 171, op := Op.fieldAddr 41 (Operand.tmp 170) 0, type := 0, pos := "more.go:39", after := #[{ on := 22, ground := Ground.data }, { on := 0, ground := Ground.phase }, { on := 1, ground := Ground.phase }, { on := 2, ground := Ground.phase }, { on := 3, ground := Ground.phase }, { on := 4, ground := Ground.phase }, { on := 5, ground := Ground.phase }, { on := 6, ground := Ground.phase }, { on := 7, ground := Ground.phase }, { on := 8, ground := Ground.phase }, { on := 9, ground := Ground.phase }, { on := 10, ground := Ground.phase }, { on := 11, ground := Ground.phase }, { on := 12, ground := Ground.phase }, { on := 13, ground := Ground.phase }, { on := 14, ground := Ground.phase }, { on := 15, ground := Ground.phase }, { on := 16, ground := Ground.phase }, { on := 17, ground := Ground.phase }, { on := 18, ground := Ground.phase }, { on := 19, ground := Ground.phase }, { on := 20, ground := Ground.phase }, { on := 21, ground := Ground.phase }], guard := none }) (by omega) (by kernel_rfl) rfl (fun K hK => ?_)
  go_simp
  refine hK.out _ _ ?_
  clear hK K
  try simp only [Act.put, List.setIfInBounds_toArray, List.set_cons_zero, List.set_cons_succ]
  refine InPhase.end (i := 24) (o := { dst := none, op := Op.store 38 (Operand.tmp 171) (Operand.tmp 169), type := 0, pos := "more.go:39", after := #[{ on := 23, ground := Ground.data }, { on := 21, ground := Ground.data }, { on := 21, ground := Ground.chain }, { on := 0, ground := Ground.phase }, { on := 1, ground := Ground.phase }, { on := 2, ground := Ground.phase }, { on := 3, ground := Ground.phase }, { on := 4, ground := Ground.phase }, { on := 5, ground := Ground.phase }, { on := 6, ground := Ground.phase }, { on := 7, ground := Ground.phase }, { on := 8, ground := Ground.phase }, { on := 9, ground := Ground.phase }, { on := 10, ground := Ground.phase }, { on := 11, ground := Ground.phase }, { on := 12, ground := Ground.phase }, { on := 13, ground := Ground.phase }, { on := 14, ground := Ground.phase }, { on := 15, ground := Ground.phase }, { on := 16, ground := Ground.phase }, { on := 17, ground := Ground.phase }, { on := 18, ground := Ground.phase }, { on := 19, ground := Ground.phase }, { on := 20, ground := Ground.phase }, { on := 21, ground := Ground.phase }], guard := none }) (by omega) (by kernel_rfl) rfl (fun K hK => ?_)
  go_simp
  refine hK.out _ _ ?_
  clear hK K
  try simp only [Act.put, List.setIfInBounds_toArray, List.set_cons_zero, List.set_cons_succ]
  exact InPhase.done (by kernel_rfl) (hQ _ HFN.out _ _ _ _ _ _ _ _ _ _ _ _ _ _ _ _ _ _ _ _ _ _ _ _) _
end Go.Proofs.YtbpidoiellcccaaGreatDoor
