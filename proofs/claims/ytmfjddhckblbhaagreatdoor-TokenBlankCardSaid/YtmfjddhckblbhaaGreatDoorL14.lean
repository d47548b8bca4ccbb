/- The example of the tokens: what its text's tokens are; the walk of exegetelaw05's awake. -/
import Derived.Test.YtmfjddhckblbhaaGreatDoorL13
set_option linter.unusedVariables false
set_option linter.unusedSimpArgs false
namespace Go.Proofs.YtmfjddhckblbhaaGreatDoor
open Go Go.RowKit Go.MapKept
attribute [local go_sem] Oper.semAt_some

def awS : ByteArray := { data := #[97, 32, 61, 32, 91, 97, 45, 99, 93, 59] }
theorem normR_law (l : List Rng) : OrdR (normR l) ∧ ∀ n, hasR (normR l) n = (decide (0 ≤ n) && decide (n ≤ 1114111) && hasR l n) := by
  exact pickR_law (fun n => hasR l n) l (fun k hk n h1 h2 => hasR_const l l (fun r h => h) hk h1 h2)
theorem lessF_law (a b : List Rng) : OrdR (lessF a b) ∧ ∀ n, hasR (lessF a b) n = (decide (0 ≤ n) && decide (n ≤ 1114111) && (hasR a n && !hasR b n)) := twoR_law (fun x y => x && !y) a b
theorem aw_class : lessF (normR [⟨97, 99⟩]) [⟨55296, 57343⟩] = [⟨97, 99⟩] := by
  refine ordR_eq _ _ (lessF_law _ _).1 ?_ (fun n => ?_)
  · refine ⟨fun r hr => ?_, by simp⟩
    obtain rfl : r = ⟨97, 99⟩ := by simpa using hr
    exact ⟨by decide, by decide, by decide⟩
  · rw [(lessF_law _ _).2, (normR_law _).2]
    simp only [hasR, inR, List.any_cons, List.any_nil, Bool.or_false]
    rw [Bool.eq_iff_iff]
    simp
    omega
/-- One more token is read. -/
theorem lexR_step {cR bR : ByteArray → Nat → WayR} {s : ByteArray} (p : Nat) {n i : Nat} {acc : List TokS} (k : Int) (t : ByteArray) (r : List Rng) (j : Nat) (hn : 0 < n) (hp : skipB s i = p) (hs : p ≠ s.size) (hw : wayR cR bR s p = some (k, t, r, j)) (h6 : acc.length ≠ 600) :
    lexR cR bR s n i acc = lexR cR bR s (n - 1) j (acc ++ [⟨k, t, r, p⟩]) := by
  subst hp
  rw [lexR_go hn hs hw, if_neg h6]
theorem aw_items : itemsR (scR awS) awS 93 (awS.size + 1) (if isB awS (4 + 1) 94 = true then 4 + 2 else 4 + 1) [] = some ([⟨97, 99⟩], 9) := by decide +kernel
theorem aw_cl : clR awS 4 = some (2, { data := #[] }, [⟨97, 99⟩], 9) := by
  unfold clR
  rw [aw_items]
  have h : isB awS (4 + 1) 94 = false := by decide +kernel
  simp only [h, Bool.false_eq_true, if_false, aw_class]
theorem aw_lex : lexT awS = ([⟨0, ⟨#[97]⟩, [], 0⟩, ⟨4, ⟨#[61]⟩, [], 2⟩, ⟨2, ⟨#[]⟩, [⟨97, 99⟩], 4⟩, ⟨4, ⟨#[59]⟩, [], 9⟩], 10, 0) := by
  unfold lexT
  rw [if_neg (by decide)]
  rw [lexR_step 0 0 ⟨#[97]⟩ [] 1 (by decide) (by decide +kernel) (by decide) (by rfl) (by decide)]
  rw [lexR_step 2 4 ⟨#[61]⟩ [] 3 (by decide) (by decide +kernel) (by decide) (by rfl) (by decide)]
  rw [lexR_step 4 2 ⟨#[]⟩ [⟨97, 99⟩] 9 (by decide) (by decide +kernel) (by decide) ((show wayR clR byR awS 4 = clR awS 4 from rfl).trans aw_cl) (by decide)]
  rw [lexR_step 9 4 ⟨#[59]⟩ [] 10 (by decide) (by decide +kernel) (by decide) (by rfl) (by decide)]
  rw [lexR_end (by decide) (by decide +kernel)]
  rfl
def awX0 : TokS := ⟨0, ⟨#[97]⟩, [], 0⟩
def awX2 : TokS := ⟨2, ⟨#[]⟩, [⟨97, 99⟩], 4⟩
def awC : ByteArray := { data := #[91, 97, 45, 99, 93] }
theorem aw_show2 : showL awX2 = [91, 97, 45, 99, 93] := by decide +kernel
theorem aw_items2 : itemsR (scR awC) awC 93 (awC.size + 1) (if isB awC (0 + 1) 94 = true then 0 + 2 else 0 + 1) [] = some ([⟨97, 99⟩], 5) := by decide +kernel
theorem aw_cl2 : clR awC 0 = some (2, { data := #[] }, [⟨97, 99⟩], 5) := by
  unfold clR
  rw [aw_items2]
  have h : isB awC (0 + 1) 94 = false := by decide +kernel
  simp only [h, Bool.false_eq_true, if_false, aw_class]
theorem aw_lex2 : lexT awC = ([⟨2, ⟨#[]⟩, [⟨97, 99⟩], 0⟩], 5, 0) := by
  unfold lexT
  rw [if_neg (by decide)]
  rw [lexR_step 0 2 ⟨#[]⟩ [⟨97, 99⟩] 5 (by decide) (by decide +kernel) (by decide) ((show wayR clR byR awC 0 = clR awC 0 from rfl).trans aw_cl2) (by decide)]
  rw [lexR_end (by decide) (by decide +kernel)]
  rfl
theorem aw_lex0 : lexT ⟨#[97]⟩ = ([⟨0, ⟨#[97]⟩, [], 0⟩], 1, 0) := by
  unfold lexT
  rw [if_neg (by decide)]
  rw [lexR_step 0 0 ⟨#[97]⟩ [] 1 (by decide) (by decide +kernel) (by decide) (by rfl) (by decide)]
  rw [lexR_end (by decide) (by decide +kernel)]
  rfl
theorem aw_may2 : mayT awX2 = true := by
  unfold mayT
  rw [aw_show2, show (⟨([91, 97, 45, 99, 93] : List UInt8).toArray⟩ : ByteArray) = awC from rfl, aw_lex2]
  decide +kernel
theorem aw_may0 : mayT awX0 = true := by
  unfold mayT
  rw [show (⟨(showL awX0).toArray⟩ : ByteArray) = ⟨#[97]⟩ from by decide +kernel, aw_lex0]
  decide +kernel
theorem aw_text2 : textT awX2 = [91, 97, 45, 99, 93] := by
  unfold textT
  rw [if_pos aw_may2, aw_show2]
set_option maxRecDepth 100000 in
set_option maxHeartbeats 2000000 in
theorem awakeT_any (w : World) (HT : Tab w) (h5 : 5 < w.heap.size) : Calls Tryz.prog 9 #[] w fun e w' => e = .returned (.bool true) ∧ Keep [] w w' := by
  have HA := Lib.hid (allTok_any [] awS w (by simp) _ _ _ aw_lex)
  have HTT := Lib.hid (⟨HT, h5⟩ : _ ∧ _)
  clear HT h5
  go_enter Tryz.func9, Tryz.ntmps9
  go_wp2_with fail
  refine HA.out.mono ?_
  rintro e w1 ⟨⟨u, rfl, HTS⟩, K1⟩
  obtain ⟨A2, C2, rfl, _, hts⟩ := SlOf.at HTS
  obtain ⟨b2, o2, rfl, _, hcl⟩ := hts (by simp)
  obtain ⟨row, _, hcell, ⟨u2, hrow, hyr⟩⟩ := hcl 2 (by simp)
  obtain ⟨row0, _, hcell0, ⟨u0, hrow0, hyr0⟩⟩ := hcl 0 (by simp)
  simp only [List.getElem_cons_succ, List.getElem_cons_zero] at hrow hyr hrow0 hyr0
  subst hrow hrow0
  have y0 := hcell 0 (by omega)
  have y1 := hcell 1 (by omega)
  have y2 := hcell 2 (by omega)
  have y3 := hcell 3 (by omega)
  have z0 := hcell0 0 (by omega)
  have z1 := hcell0 1 (by omega)
  have z2 := hcell0 2 (by omega)
  have z3 := hcell0 3 (by omega)
  simp at y0 y1 y2 y3 z0 z1 z2 z3
  obtain ⟨A3, C3, rfl, _⟩ := SlOf.at (Rngs.of hyr)
  obtain ⟨b3, o3, rfl, _, r0, r1⟩ := rngSl_pick (Rngs.of hyr) 0 (by simp)
  obtain ⟨A4, C4, rfl, _⟩ := SlOf.at (Rngs.of hyr0)
  simp at r0 r1
  clear hcell hcell0 hcl hts HTS
  have HX := Lib.hid (textT_any [] awX2 _ w1 hyr (by decide) (by decide) (HTT.out.1.keep K1 HTT.out.2) (Nat.lt_of_lt_of_le HTT.out.2 K1.size))
  have HM := Lib.hid (fun w2 (K2 : Keep [] w1 w2) => mayT_any [] awX0 _ w2 (Rngs.mv0 hyr0 K2) (by decide) (by decide) ((HTT.out.1.keep K1 HTT.out.2).keep K2 (Nat.lt_of_lt_of_le HTT.out.2 K1.size)) (Nat.lt_of_lt_of_le (Nat.lt_of_lt_of_le HTT.out.2 K1.size) K2.size))
  rw [aw_text2] at HX
  rw [aw_may0] at HM
  clear hyr hyr0 HA
  go_wp2_with fail
  refine HX.out.mono ?_
  rintro e w2 ⟨rfl, K2⟩
  have x0 := K2.cell z0 (by simp)
  have x1 := K2.cell z1 (by simp)
  have x2 := K2.cell z2 (by simp)
  have x3 := K2.cell z3 (by simp)
  have HM2 := Lib.hid (HM.out w2 K2)
  have HK := Lib.hid (K1.trans K2)
  clear HX HM K1 K2 y0 y1 y2 y3 z0 z1 z2 z3 r0 r1
  go_wp2_with fail
  refine HM2.out.mono ?_
  rintro e w3 ⟨rfl, K3⟩
  clear HM2
  go_wp2
  go_ret
  exact ⟨rfl, HK.out.trans K3⟩
end Go.Proofs.YtmfjddhckblbhaaGreatDoor
