/- Bytes that are told in quotes: the plain law. -/
import Derived.Test.YtmfjddhckblbhaaGreatDoorM16
import Derived.Test.YtmfjddhckblbhaaGreatDoorM15
set_option linter.unusedVariables false
set_option linter.unusedSimpArgs false
namespace Go.Proofs.YtmfjddhckblbhaaGreatDoor
open Go Go.RowKit Go.MapKept

/-- Bytes, as a token. -/
def litT (s : ByteArray) : TokS := ⟨1, s, [], 0⟩
theorem dropByte {X : ByteArray} {i : Nat} {c : UInt8} {r : List UInt8} (h : X.data.toList.drop i = c :: r) : X.data[i]? = some c ∧ X.data.toList.drop (i + 1) = r ∧ i < X.size := by
  refine ⟨?_, ?_, ?_⟩
  · have h1 := congrArg (fun l => l[0]?) h
    simpa using h1
  · rw [← List.drop_drop, h]; rfl
  · have h1 := congrArg List.length h
    rw [List.length_drop, lenB, List.length_cons] at h1
    omega
theorem hexVal_hexD (n : Nat) : hexVal (hexD n) = some (n % 16) := by
  have h : ∀ m : Fin 16, hexVal (hexD m.val) = some m.val := by decide +kernel
  have e : hexD n = hexD (n % 16) := by unfold hexD; rw [Nat.mod_mod]
  rw [e]
  exact h ⟨n % 16, Nat.mod_lt _ (by decide)⟩
theorem hexR_back {X : ByteArray} {i : Nat} {c : UInt8} {r : List UInt8} (h : X.data.toList.drop i = hexD (c.toNat / 16) :: hexD c.toNat :: r) : hexR X i = some c.toNat := by
  obtain ⟨h1, h2, _⟩ := dropByte h
  obtain ⟨h3, h4, _⟩ := dropByte h2
  have hc := c.toNat_lt
  have e : numR X 2 i 0 = (c.toNat, 2) := by
    unfold numR
    rw [h1]
    simp only [hexVal_hexD]
    unfold numR
    rw [h3]
    simp only [hexVal_hexD]
    unfold numR
    simp only [Prod.mk.injEq, and_true]
    omega
  unfold hexR
  rw [e]
  rfl
theorem litR_back_all {X : ByteArray} {m : List UInt8} : ∀ (l : List UInt8) (n i : Nat) (acc : List UInt8), (litL l).length < n → X.data.toList.drop i = litL l ++ 34 :: m → litR X n i acc = some (acc ++ l, i + (litL l).length + 1)
  | [], n, i, acc, hn, h => by
    obtain ⟨k, rfl⟩ : ∃ k, n = k + 1 := ⟨n - 1, by omega⟩
    obtain ⟨h1, _, _⟩ := dropByte (show X.data.toList.drop i = 34 :: m from h)
    unfold litR
    rw [h1]
    simp [litL]
  | c :: l, n, i, acc, hn, h => by
    have e : litL (c :: l) = litE c ++ litL l := rfl
    rw [e] at h hn ⊢
    obtain ⟨k, rfl⟩ : ∃ k, n = k + 1 := ⟨n - 1, by omega⟩
    rw [List.length_append] at hn ⊢
    have hc := c.toNat_lt
    by_cases ho : c.toNat < 32 ∨ 126 < c.toNat ∨ c.toNat = 34 ∨ c.toNat = 92
    · have hE : litE c = [92, 120, hexD (c.toNat / 16), hexD c.toNat] := by unfold litE; rw [if_pos ho]; rfl
      rw [hE] at h hn ⊢
      simp only [List.cons_append, List.nil_append] at h
      obtain ⟨h1, h2, _⟩ := dropByte h
      obtain ⟨h3, h4, h5⟩ := dropByte h2
      have hx := hexR_back h4
      obtain ⟨_, h6, _⟩ := dropByte h4
      obtain ⟨_, h7, _⟩ := dropByte h6
      have hb : isB X (i + 1) 120 = true := by
        unfold isB
        rw [dif_pos h5]
        have := digitByte X (i + 1) h5
        rw [h3] at this
        rw [← Option.some.inj this]
        rfl
      unfold litR
      rw [h1]
      simp only [show (92 : UInt8).toNat = 92 from rfl]
      rw [if_neg (by decide), if_pos trivial, if_pos hb, hx]
      simp only
      simp only [List.length_cons, List.length_nil] at hn ⊢
      rw [litR_back_all l k (i + 4) _ (by omega) h7, show c.toNat.toUInt8 = c by simp]
      simp only [Option.some.injEq, Prod.mk.injEq, List.append_assoc, List.cons_append, List.nil_append, true_and]
      omega
    · have hE : litE c = [c] := by unfold litE; rw [if_neg ho]
      rw [hE] at h hn ⊢
      simp only [List.cons_append, List.nil_append] at h
      obtain ⟨h1, h2, _⟩ := dropByte h
      unfold litR
      rw [h1]
      simp only
      simp only [List.length_cons, List.length_nil] at hn ⊢
      rw [if_neg (by omega), if_neg (by omega), if_neg (by omega), litR_back_all l k (i + 1) _ (by omega) h2]
      simp only [Option.some.injEq, Prod.mk.injEq, List.append_assoc, List.cons_append, List.nil_append, true_and]
      omega
theorem show_lit (s : ByteArray) : showL (litT s) = 34 :: (litL s.data.toList ++ [34]) := by
  unfold showL litT
  simp
theorem litL_print (l : List UInt8) : ∀ c ∈ litL l, 32 ≤ c.toNat ∧ c.toNat ≤ 126 := by
  have hd : ∀ n, 32 ≤ (hexD n).toNat ∧ (hexD n).toNat ≤ 126 := fun n => by
    have h : ∀ m : Fin 16, 32 ≤ (hexD m.val).toNat ∧ (hexD m.val).toNat ≤ 126 := by decide +kernel
    have e : hexD n = hexD (n % 16) := by unfold hexD; rw [Nat.mod_mod]
    rw [e]
    exact h ⟨n % 16, Nat.mod_lt _ (by decide)⟩
  intro c hc
  unfold litL at hc
  obtain ⟨a, _, ha⟩ := List.mem_flatMap.1 hc
  unfold litE hxL at ha
  split at ha
  · simp only [List.cons_append, List.nil_append, List.mem_cons, List.not_mem_nil, or_false] at ha
    rcases ha with rfl | rfl | rfl | rfl
    · decide
    · decide
    · exact hd _
    · exact hd _
  · rename_i h
    obtain rfl := List.mem_singleton.1 ha
    omega
theorem show_print (s : ByteArray) : ∀ c ∈ showL (litT s), 32 ≤ c.toNat ∧ c.toNat ≤ 126 := by
  rw [show_lit]
  intro c hc
  rcases List.mem_cons.1 hc with rfl | hc
  · decide
  · rcases List.mem_append.1 hc with hc | hc
    · exact litL_print _ c hc
    · obtain rfl := List.mem_singleton.1 hc
      decide
/-- What is read of a told text. -/
theorem lit_lex (s : ByteArray) (hs : s.size ≤ 300) : lexT ⟨(showL (litT s)).toArray⟩ = if s.size = 0 then ([], 0, 2) else ([litT s], (showL (litT s)).length, 0) := by
  have hlen : (showL (litT s)).length = (litL s.data.toList).length + 2 := by rw [show_lit]; simp
  have hle := litL_len s.data.toList
  rw [lenB] at hle
  generalize hX : (⟨(showL (litT s)).toArray⟩ : ByteArray) = X
  have hsz : X.size = (showL (litT s)).length := by rw [← hX]; rfl
  have hd : X.data.toList = 34 :: (litL s.data.toList ++ [34]) := by rw [← hX, ← show_lit]
  obtain ⟨h0, h1, h2⟩ := dropByte (show X.data.toList.drop 0 = _ from hd)
  have hl := litR_back_all s.data.toList (X.size + 1) 1 [] (by omega) h1
  rw [List.nil_append] at hl
  have hx0 : X[0]'h2 = 34 := by
    have e := digitByte X 0 h2
    rw [h0] at e
    exact (Option.some.inj e).symm
  have hsk := skip_none X h2 (by rw [hx0]; decide)
  have hw : wayR clR byR X 0 = litTok (some (s.data.toList, 1 + (litL s.data.toList).length + 1)) := by
    unfold wayR
    rw [h0]
    simp only [show (34 : UInt8).toNat = 34 from rfl]
    rw [if_neg (by decide), if_pos trivial, Nat.zero_add, hl]
  unfold litTok at hw
  simp only [lenB] at hw
  unfold lexT
  rw [if_neg (by omega)]
  by_cases hz : s.size = 0
  · rw [if_neg (by omega)] at hw
    rw [if_pos hz, lexR_bad (by omega) (by omega) (by rw [hsk]; exact hw), hsk]
  · rw [if_pos (by omega)] at hw
    rw [if_neg hz, lexR_go (by omega) (by omega) (by rw [hsk]; exact hw), if_neg (by simp), hsk]
    have he : skipB X (1 + (litL s.data.toList).length + 1) = X.size := by have := skipB_le X (1 + (litL s.data.toList).length + 1) (by omega); omega
    rw [lexR_end (by omega) he, toB, hsz]
    rfl
theorem lit_may (s : ByteArray) (hs : s.size ≤ 300) : mayT (litT s) = decide (s.size ≠ 0) := by
  have h := lit_lex s hs
  have e1 : (decide ((0 : Int) ≤ (litT s).k) && decide ((litT s).k ≤ 5) && rmay (litT s).r && (litT s).r.all (okRg (litT s).k)) = true := by rfl
  unfold mayT
  rw [e1, h, Bool.true_and]
  by_cases hz : s.size = 0
  · rw [if_pos hz, decide_eq_false (by omega)]
  · rw [if_neg hz, decide_eq_true (by omega)]
    simp only [sameT, decide_true, Bool.and_true]
end Go.Proofs.YtmfjddhckblbhaaGreatDoor
namespace Go.Proofs.YtmfjddhckblbhaaGreatDoor
open Go Go.RowKit Go.MapKept
attribute [local go_sem] Oper.semAt_some

def awS : ByteArray := { data := #[97, 32, 61, 32, 91, 97, 45, 99, 93, 59] }
theorem aw_class : lessF (normR [⟨97, 99⟩]) [⟨55296, 57343⟩] = [⟨97, 99⟩] := by
  refine ordR_eq _ _ (lessF_law _ _).1 ?_ (fun n => ?_)
  · refine ⟨fun r hr => ?_, by simp⟩
    obtain rfl : r = ⟨97, 99⟩ := by simpa using hr
    exact ⟨by decide, by decide, by decide⟩
  · rw [(lessF_law _ _).2, (normR_law _).2]
    simp only [hasR, inR, List.any_cons, List.any_nil, Bool.or_false]
    rw [Bool.eq_iff_iff]
    simp
    omega
theorem aw_items : itemsR (scR awS) awS 93 (awS.size + 1) (if isB awS (4 + 1) 94 = true then 4 + 2 else 4 + 1) [] = some ([⟨97, 99⟩], 9) := by decide +kernel
theorem aw_cl : clR awS 4 = some (2, { data := #[] }, [⟨97, 99⟩], 9) := by
  unfold clR
  rw [aw_items]
  have h : isB awS (4 + 1) 94 = false := by decide +kernel
  simp only [h, Bool.false_eq_true, if_false, aw_class]
theorem aw_lex : lexT awS = ([⟨0, ⟨#[97]⟩, [], 0⟩, ⟨4, ⟨#[61]⟩, [], 2⟩, ⟨2, ⟨#[]⟩, [⟨97, 99⟩], 4⟩, ⟨4, ⟨#[59]⟩, [], 9⟩], 10, 0) := by
  unfold lexT
  rw [if_neg (by decide)]
  rw [lexR_step 0 0 ⟨#[97]⟩ [] 1 (by decide) (by decide +kernel) (by decide) (by rfl) (by decide)]
  rw [lexR_step 2 4 ⟨#[61]⟩ [] 3 (by decide) (by decide +kernel) (by decide) (by rfl) (by decide)]
  rw [lexR_step 4 2 ⟨#[]⟩ [⟨97, 99⟩] 9 (by decide) (by decide +kernel) (by decide) ((show wayR clR byR awS 4 = clR awS 4 from rfl).trans aw_cl) (by decide)]
  rw [lexR_step 9 4 ⟨#[59]⟩ [] 10 (by decide) (by decide +kernel) (by decide) (by rfl) (by decide)]
  rw [lexR_end (by decide) (by decide +kernel)]
  rfl
def awX0 : TokS := ⟨0, ⟨#[97]⟩, [], 0⟩
def awX2 : TokS := ⟨2, ⟨#[]⟩, [⟨97, 99⟩], 4⟩
def awC : ByteArray := { data := #[91, 97, 45, 99, 93] }
theorem aw_show2 : showL awX2 = [91, 97, 45, 99, 93] := by decide +kernel
theorem aw_items2 : itemsR (scR awC) awC 93 (awC.size + 1) (if isB awC (0 + 1) 94 = true then 0 + 2 else 0 + 1) [] = some ([⟨97, 99⟩], 5) := by decide +kernel
theorem aw_cl2 : clR awC 0 = some (2, { data := #[] }, [⟨97, 99⟩], 5) := by
  unfold clR
  rw [aw_items2]
  have h : isB awC (0 + 1) 94 = false := by decide +kernel
  simp only [h, Bool.false_eq_true, if_false, aw_class]
theorem aw_lex2 : lexT awC = ([⟨2, ⟨#[]⟩, [⟨97, 99⟩], 0⟩], 5, 0) := by
  unfold lexT
  rw [if_neg (by decide)]
  rw [lexR_step 0 2 ⟨#[]⟩ [⟨97, 99⟩] 5 (by decide) (by decide +kernel) (by decide) ((show wayR clR byR awC 0 = clR awC 0 from rfl).trans aw_cl2) (by decide)]
  rw [lexR_end (by decide) (by decide +kernel)]
  rfl
theorem aw_lex0 : lexT ⟨#[97]⟩ = ([⟨0, ⟨#[97]⟩, [], 0⟩], 1, 0) := by
  unfold lexT
  rw [if_neg (by decide)]
  rw [lexR_step 0 0 ⟨#[97]⟩ [] 1 (by decide) (by decide +kernel) (by decide) (by rfl) (by decide)]
  rw [lexR_end (by decide) (by decide +kernel)]
  rfl
theorem aw_may2 : mayT awX2 = true := by
  unfold mayT
  rw [aw_show2, show (⟨([91, 97, 45, 99, 93] : List UInt8).toArray⟩ : ByteArray) = awC from rfl, aw_lex2]
  decide +kernel
theorem aw_may0 : mayT awX0 = true := by
  unfold mayT
  rw [show (⟨(showL awX0).toArray⟩ : ByteArray) = ⟨#[97]⟩ from by decide +kernel, aw_lex0]
  decide +kernel
theorem aw_text2 : textT awX2 = [91, 97, 45, 99, 93] := by
  unfold textT
  rw [if_pos aw_may2, aw_show2]
set_option maxRecDepth 100000 in
set_option maxHeartbeats 2000000 in
theorem awakeT_any (w : World) (HT : Tab w) (h5 : 5 < w.heap.size) : Calls Tryz.prog 9 #[] w fun e w' => e = .returned (.bool true) ∧ Keep [] w w' := by
  have HA := Lib.hid (allTok_any [] awS w (by simp) _ _ _ aw_lex)
  have HTT := Lib.hid (⟨HT, h5⟩ : _ ∧ _)
  clear HT h5
  go_enter Tryz.func9, Tryz.ntmps9
  go_wp2_with fail
  refine HA.out.mono ?_
  rintro e w1 ⟨⟨u, rfl, HTS⟩, K1⟩
  obtain ⟨A2, C2, rfl, _, hts⟩ := SlOf.at HTS
  obtain ⟨b2, o2, rfl, _, hcl⟩ := hts (by simp)
  obtain ⟨row, _, hcell, ⟨u2, hrow, hyr⟩⟩ := hcl 2 (by simp)
  obtain ⟨row0, _, hcell0, ⟨u0, hrow0, hyr0⟩⟩ := hcl 0 (by simp)
  simp only [List.getElem_cons_succ, List.getElem_cons_zero] at hrow hyr hrow0 hyr0
  subst hrow hrow0
  have y0 := hcell 0 (by omega)
  have y1 := hcell 1 (by omega)
  have y2 := hcell 2 (by omega)
  have y3 := hcell 3 (by omega)
  have z0 := hcell0 0 (by omega)
  have z1 := hcell0 1 (by omega)
  have z2 := hcell0 2 (by omega)
  have z3 := hcell0 3 (by omega)
  simp at y0 y1 y2 y3 z0 z1 z2 z3
  obtain ⟨A3, C3, rfl, _⟩ := SlOf.at (Rngs.of hyr)
  obtain ⟨b3, o3, rfl, _, r0, r1⟩ := rngSl_pick (Rngs.of hyr) 0 (by simp)
  obtain ⟨A4, C4, rfl, _⟩ := SlOf.at (Rngs.of hyr0)
  simp at r0 r1
  clear hcell hcell0 hcl hts HTS
  have HX := Lib.hid (textT_any [] awX2 _ w1 hyr (by decide) (by decide) (HTT.out.1.keep K1 HTT.out.2) (Nat.lt_of_lt_of_le HTT.out.2 K1.size))
  have HM := Lib.hid (fun w2 (K2 : Keep [] w1 w2) => mayT_any [] awX0 _ w2 (Rngs.mv0 hyr0 K2) (by decide) (by decide) ((HTT.out.1.keep K1 HTT.out.2).keep K2 (Nat.lt_of_lt_of_le HTT.out.2 K1.size)) (Nat.lt_of_lt_of_le (Nat.lt_of_lt_of_le HTT.out.2 K1.size) K2.size))
  rw [aw_text2] at HX
  rw [aw_may0] at HM
  clear hyr hyr0 HA
  go_wp2_with fail
  refine HX.out.mono ?_
  rintro e w2 ⟨rfl, K2⟩
  have x0 := K2.cell z0 (by simp)
  have x1 := K2.cell z1 (by simp)
  have x2 := K2.cell z2 (by simp)
  have x3 := K2.cell z3 (by simp)
  have HM2 := Lib.hid (HM.out w2 K2)
  have HK := Lib.hid (K1.trans K2)
  clear HX HM K1 K2 y0 y1 y2 y3 z0 z1 z2 z3 r0 r1
  go_wp2_with fail
  refine HM2.out.mono ?_
  rintro e w3 ⟨rfl, K3⟩
  clear HM2
  go_wp2
  go_ret
  exact ⟨rfl, HK.out.trans K3⟩
end Go.Proofs.YtmfjddhckblbhaaGreatDoor
