/- The law TokenName, as its row and its card state it: for every input it answers true and the arguments read as before. -/
import Derived.Test.YtmfjddhckblbhaaGreatDoorL13
import Derived.Test.YtmfjddhckblbhaaGreatDoorL14
import Derived.Test.YtmfjddhckblbhaaGreatDoorL15
set_option linter.unusedVariables false
set_option linter.unusedSimpArgs false
namespace Go.Proofs.YtmfjddhckblbhaaGreatDoor
open Go Go.RowKit Go.MapKept
attribute [local go_sem] Oper.semAt_some

theorem letterB_true {r : Int} {b : Bool} (h : letterB r b = true) : letterB r true = true := by
  cases b
  · unfold letterB at *
    simp at *
    exact .inl h
  · exact h
theorem wordN_true : ∀ (m : List UInt8), wordN m false = m.length → wordN m true = m.length
  | [], _ => rfl
  | c :: m, h => by
    unfold wordN at *
    split at h
    · rename_i hb
      rw [if_pos (letterB_true hb)]
      exact h
    · simp at h
theorem wordN_app : ∀ (l m : List UInt8) (b : Bool), wordN l b = l.length → wordN m true = m.length → (l ≠ [] ∨ b = true) → wordN (l ++ m) b = l.length + m.length
  | [], m, b, _, h2, h3 => by
    rcases h3 with h3 | rfl
    · exact absurd rfl h3
    · simpa using h2
  | c :: l, m, b, h1, h2, _ => by
    rw [List.cons_append]
    unfold wordN at h1 ⊢
    split at h1
    · rename_i hb
      rw [if_pos hb]
      simp only [List.length_cons] at h1 ⊢
      have := wordN_app l m true (by omega) h2 (.inr rfl)
      omega
    · simp at h1
theorem wordN_all : ∀ (l : List UInt8) (b : Bool), (wordN l b = l.length) ↔ ∀ j (h : j < l.length), letterB ((l[j]'h).toNat : Int) (b || decide (0 < j)) = true
  | [], _ => by simp [wordN]
  | c :: l, b => by
    unfold wordN
    have ih := wordN_all l true
    by_cases hb : letterB (c.toNat : Int) b = true
    · rw [if_pos hb]
      have e1 : (wordN l true + 1 = (c :: l).length) ↔ wordN l true = l.length := by simp
      rw [e1, ih]
      constructor
      · intro h j hj
        cases j with
        | zero => simpa using hb
        | succ j =>
          have := h j (by simpa using hj)
          simpa using this
      · intro h j hj
        have := h (j + 1) (by simpa using hj)
        simpa using this
    · rw [if_neg hb]
      constructor
      · intro h; simp at h
      · intro h
        have := h 0 (by simp)
        simp at this
        exact absurd this hb
/-- How far a text is a name's. -/
def okN (s : ByteArray) (k : Nat) : Bool := decide (1 ≤ s.size) && decide (s.size ≤ 12) && (List.range k).all fun j => letterB ((s.data.toList.getD j 0).toNat : Int) (decide (0 < j))
theorem okN_succ (s : ByteArray) (k : Nat) (h : k < s.size) : okN s (k + 1) = (okN s k && letterB ((s[k]'h).toNat : Int) (decide (0 < k))) := by
  unfold okN
  rw [List.range_succ, List.all_append]
  have e : s.data.toList.getD k 0 = s[k]'h := by
    rw [List.getD_eq_getElem?_getD, List.getElem?_eq_getElem (by rw [lenB]; exact h)]
    rfl
  simp only [List.all_cons, List.all_nil, Bool.and_true, e, Bool.and_assoc]
theorem okN_all (s : ByteArray) : okN s s.size = nameB s := by
  unfold okN nameB
  congr 1
  rw [Bool.eq_iff_iff, List.all_eq_true, decide_eq_true_eq, ← lenB s, wordN_all]
  constructor
  · intro h j hj
    have := h j (List.mem_range.2 hj)
    rw [List.getD_eq_getElem?_getD, List.getElem?_eq_getElem hj] at this
    simpa using this
  · intro h j hj
    have hj := List.mem_range.1 hj
    have := h j hj
    rw [List.getD_eq_getElem?_getD, List.getElem?_eq_getElem hj]
    simpa using this
theorem nameB_app {s t : ByteArray} (h1 : nameB s = true) (h2 : nameB t = true) : allW (s ++ t) ∧ (s ++ t).size = s.size + t.size := by
  unfold nameB at h1 h2
  simp only [Bool.and_eq_true, decide_eq_true_eq] at h1 h2
  have hs : (s ++ t).size = s.size + t.size := by simp
  refine ⟨⟨by omega, ?_⟩, hs⟩
  rw [hs]
  have e : (s ++ t).data.toList = s.data.toList ++ t.data.toList := by simp
  rw [e]
  have := wordN_app s.data.toList t.data.toList false (by rw [lenB]; exact h1.2) (wordN_true _ (by rw [lenB]; exact h2.2)) (.inl (fun h0 => by have := lenB s; rw [h0] at this; simp at this; omega))
  rw [lenB, lenB] at this
  exact this
set_option maxRecDepth 100000 in
set_option maxHeartbeats 4000000 in
theorem tokenName_walk (s t : ByteArray) (w : World) (HT : Tab w) (h5 : 5 < w.heap.size) :
    Calls Tryz.prog 7 #[.string s, .string t] w fun e w' => e = .returned (.bool true) ∧ Keep [] w w' := by
  have HA := Lib.hid (awakeT_any w HT h5)
  by_cases hs : (100 : Int) < s.size
  · clear HT
    go_enter Tryz.func7, Tryz.ntmps7
    go_wp2_with fail
    refine HA.out.mono ?_
    rintro e w1 ⟨rfl, K1⟩
    clear HA
    go_wp2
    go_ret
    exact ⟨rfl, K1⟩
  by_cases ht : (100 : Int) < t.size
  · clear HT
    go_enter Tryz.func7, Tryz.ntmps7
    go_wp2_with fail
    refine HA.out.mono ?_
    rintro e w1 ⟨rfl, K1⟩
    clear HA
    go_wp2
    go_ret
    exact ⟨rfl, K1⟩
  have HTT := Lib.hid (⟨HT, h5⟩ : _ ∧ _)
  clear HT h5
  have hs' : s.size ≤ 100 := by omega
  have ht' : t.size ≤ 100 := by omega
  have HOK := Lib.hid (show okN s 0 = (decide (1 ≤ s.size) && decide (s.size ≤ 12)) by simp [okN])
  go_enter Tryz.func7, Tryz.ntmps7
  go_wp2_with fail
  refine HA.out.mono ?_
  rintro e w1 ⟨rfl, K1⟩
  have HTT1 := Lib.hid (⟨HTT.out.1.keep K1 HTT.out.2, Nat.lt_of_lt_of_le HTT.out.2 K1.size, K1⟩ : _ ∧ _ ∧ _)
  clear HA HTT K1
  rcases (by omega : s.size = 0 ∨ (1 ≤ s.size ∧ s.size ≤ 12) ∨ (1 ≤ s.size ∧ 12 < s.size)) with q1 | ⟨q1, q2⟩ | ⟨q1, q2⟩
  case' inl =>
    have b1 : ¬ ((1 : Int) ≤ s.size) := by omega
    have HV := Lib.hid (show okN s 0 = false by rw [HOK.out]; simp; omega)
  case' inr.inl =>
    have b1 : ((1 : Int) ≤ s.size) := by omega
    have b2 : ((s.size : Int) ≤ 12) := by omega
    have HV := Lib.hid (show okN s 0 = true by rw [HOK.out]; simp; omega)
  case' inr.inr =>
    have b1 : ((1 : Int) ≤ s.size) := by omega
    have b2 : ¬ ((s.size : Int) ≤ 12) := by omega
    have HV := Lib.hid (show okN s 0 = false by rw [HOK.out]; simp; omega)
  all_goals
    clear HOK
    go_wp2
    go_loopw [6, 7, 8, 9] (fun v i _ _ wr => wr = w1 ∧ ∃ k : Nat, k ≤ s.size ∧ i = .int .i64 k ∧ v = .bool (okN s k)) (fun _ i _ _ _ => s.size - (intOf i).toNat)
    case atStart => exact ⟨rfl, 0, by omega, rfl, by first | (rw [HV.out]; done) | (rw [HV.out]; simp; omega)⟩
    case round =>
      clear HV
      obtain ⟨rfl, k, hk, rfl, rfl⟩ := hrel
      by_cases hlt : k < s.size
      · have hlt' : (k : Int) < (s.size : Int) := by omega
        have HS := Lib.hid (okN_succ s k hlt)
        have HLT := Lib.hid hlt
        have hc8 := (s[k]'hlt).toNat_lt
        generalize hsk : s[k]'hlt = c at *
        generalize okN s k = ok at HS ⊢
        have hlb : letterB (c.toNat : Int) (decide (0 < k)) = (decide (97 ≤ c.toNat) && decide (c.toNat ≤ 122) || decide (0 < k) && (decide (48 ≤ c.toNat) && decide (c.toNat ≤ 57) || decide (c.toNat = 95))) := by
          unfold letterB
          rw [Bool.eq_iff_iff]
          simp
          omega
        have HLB := Lib.hid hlb
        clear hlb q1
        try clear q2
        generalize letterB (c.toNat : Int) (decide (0 < k)) = lb at HS HLB
        cases ok
        · have HE := Lib.hid (show okN s (k + 1) = false by rw [HS.out]; rfl)
          clear HS HLB
          go_wp2
          all_goals exact ⟨⟨trivial, k + 1, by omega, by go_num, by rw [HE.out]⟩, by simp [intOf]; omega⟩
        · have HE := Lib.hid (show okN s (k + 1) = lb by rw [HS.out]; simp)
          clear HS
          rcases (by omega : (97 ≤ c.toNat ∧ c.toNat ≤ 122) ∨ (¬ 97 ≤ c.toNat ∧ k = 0) ∨ (¬ 97 ≤ c.toNat ∧ 0 < k ∧ ¬ 48 ≤ c.toNat) ∨ (¬ 97 ≤ c.toNat ∧ 0 < k ∧ 48 ≤ c.toNat ∧ c.toNat ≤ 57) ∨ (¬ 97 ≤ c.toNat ∧ 0 < k ∧ 48 ≤ c.toNat ∧ ¬ c.toNat ≤ 57 ∧ c.toNat = 95) ∨ (¬ 97 ≤ c.toNat ∧ 0 < k ∧ 48 ≤ c.toNat ∧ ¬ c.toNat ≤ 57 ∧ ¬ c.toNat = 95) ∨ (97 ≤ c.toNat ∧ ¬ c.toNat ≤ 122 ∧ k = 0) ∨ (97 ≤ c.toNat ∧ ¬ c.toNat ≤ 122 ∧ 0 < k)) with ⟨a1, a2⟩ | ⟨a1, a2⟩ | ⟨a1, a2, a3⟩ | ⟨a1, a2, a3, a4⟩ | ⟨a1, a2, a3, a4, a5⟩ | ⟨a1, a2, a3, a4, a5⟩ | ⟨a1, a2, a3⟩ | ⟨a1, a2, a3⟩
          · have HF := Lib.hid (show okN s (k + 1) = true by rw [HE.out, HLB.out]; simp; omega)
            have d1 : (97 : Int) ≤ c.toNat := by omega
            have d2 : (c.toNat : Int) ≤ 122 := by omega
            clear HE HLB a1 a2
            go_wp2
            exact ⟨⟨trivial, k + 1, by omega, by go_num, by rw [HF.out]⟩, by simp [intOf]; omega⟩
          · have HF := Lib.hid (show okN s (k + 1) = false by rw [HE.out, HLB.out]; simp; omega)
            have d1 : ¬ (97 : Int) ≤ c.toNat := by omega
            have d2 : ¬ (0 : Int) < k := by omega
            clear HE HLB a1 a2
            go_wp2
            all_goals exact ⟨⟨trivial, k + 1, by omega, by go_num, by rw [HF.out]⟩, by simp [intOf]; omega⟩
          · have HF := Lib.hid (show okN s (k + 1) = false by rw [HE.out, HLB.out]; simp; omega)
            have d1 : ¬ (97 : Int) ≤ c.toNat := by omega
            have d2 : (0 : Int) < k := by omega
            have d3 : ¬ (48 : Int) ≤ c.toNat := by omega
            have d5 : ((c.toNat : Int) == 95) = false := by simp; omega
            clear HE HLB a1 a2 a3
            go_wp2
            all_goals exact ⟨⟨trivial, k + 1, by omega, by go_num, by rw [HF.out]⟩, by simp [intOf]; omega⟩
          · have HF := Lib.hid (show okN s (k + 1) = true by rw [HE.out, HLB.out]; simp; omega)
            have d1 : ¬ (97 : Int) ≤ c.toNat := by omega
            have d2 : (0 : Int) < k := by omega
            have d3 : (48 : Int) ≤ c.toNat := by omega
            have d4 : (c.toNat : Int) ≤ 57 := by omega
            clear HE HLB a1 a2 a3 a4
            go_wp2
            all_goals exact ⟨⟨trivial, k + 1, by omega, by go_num, by rw [HF.out]⟩, by simp [intOf]; omega⟩
          · have HF := Lib.hid (show okN s (k + 1) = true by rw [HE.out, HLB.out]; simp; omega)
            have d1 : ¬ (97 : Int) ≤ c.toNat := by omega
            have d2 : (0 : Int) < k := by omega
            have d3 : (48 : Int) ≤ c.toNat := by omega
            have d4 : ¬ (c.toNat : Int) ≤ 57 := by omega
            have d5 : ((c.toNat : Int) == 95) = true := by simp; omega
            clear HE HLB a1 a2 a3 a4 a5
            go_wp2
            all_goals exact ⟨⟨trivial, k + 1, by omega, by go_num, by rw [HF.out]⟩, by simp [intOf]; omega⟩
          · have HF := Lib.hid (show okN s (k + 1) = false by rw [HE.out, HLB.out]; simp; omega)
            have d1 : ¬ (97 : Int) ≤ c.toNat := by omega
            have d2 : (0 : Int) < k := by omega
            have d3 : (48 : Int) ≤ c.toNat := by omega
            have d4 : ¬ (c.toNat : Int) ≤ 57 := by omega
            have d5 : ((c.toNat : Int) == 95) = false := by simp; omega
            clear HE HLB a1 a2 a3 a4 a5
            go_wp2
            all_goals exact ⟨⟨trivial, k + 1, by omega, by go_num, by rw [HF.out]⟩, by simp [intOf]; omega⟩
          · have HF := Lib.hid (show okN s (k + 1) = false by rw [HE.out, HLB.out]; simp; omega)
            have d1 : (97 : Int) ≤ c.toNat := by omega
            have d2 : ¬ (c.toNat : Int) ≤ 122 := by omega
            have d3 : ¬ (0 : Int) < k := by omega
            clear HE HLB a1 a2 a3
            go_wp2
            all_goals exact ⟨⟨trivial, k + 1, by omega, by go_num, by rw [HF.out]⟩, by simp [intOf]; omega⟩
          · have HF := Lib.hid (show okN s (k + 1) = false by rw [HE.out, HLB.out]; simp; omega)
            have d1 : (97 : Int) ≤ c.toNat := by omega
            have d2 : ¬ (c.toNat : Int) ≤ 122 := by omega
            have d3 : (0 : Int) < k := by omega
            have d4 : ¬ (c.toNat : Int) ≤ 57 := by omega
            have d5 : ((c.toNat : Int) == 95) = false := by simp; omega
            clear HE HLB a1 a2 a3
            go_wp2
            all_goals exact ⟨⟨trivial, k + 1, by omega, by go_num, by rw [HF.out]⟩, by simp [intOf]; omega⟩
      · obtain rfl : k = s.size := by omega
        rw [okN_all s]
        try clear q2
        clear q1 hk hlt
        try clear b2
        clear b1
        have HM1 := Lib.hid (mayT_any [] ⟨0, s, [], 0⟩ (.slice none 0 0) wr (Sl.nil _ _ _) (by simp) (by simp; omega) HTT1.out.1 HTT1.out.2.1)
        rw [may_name s (by omega) 0] at HM1
        have HAPP := Lib.hid (fun h1 h2 => nameB_app (s := s) (t := t) h1 h2)
        have HMT := Lib.hid (may_name t (by omega) 0)
        generalize nameB s = ps at HM1 HAPP ⊢
        generalize nameB t = pt at HMT HAPP
        go_wp2_with fail
        refine HM1.out.mono ?_
        rintro e w2 ⟨rfl, K2⟩
        have HT2 := Lib.hid (⟨HTT1.out.1.keep K2 HTT1.out.2.1, Nat.lt_of_lt_of_le HTT1.out.2.1 K2.size, HTT1.out.2.2.trans K2⟩ : _ ∧ _ ∧ _)
        clear K2 HTT1 HM1
        have HM2 := Lib.hid (mayT_any [] ⟨0, t, [], 0⟩ (.slice none 0 0) w2 (Sl.nil _ _ _) (by simp) (by simp; omega) HT2.out.1 HT2.out.2.1)
        rw [HMT.out] at HM2
        clear HMT
        go_wp2_with fail
        refine HM2.out.mono ?_
        rintro e w3 ⟨rfl, K3⟩
        have HK3 := Lib.hid (HT2.out.2.2.trans K3)
        clear K3 HT2 HM2
        obtain ⟨ts, aa, e0, hlx⟩ : ∃ ts aa e0, lexT (s ++ t) = (ts, aa, e0) := ⟨_, _, _, rfl⟩
        have HAL := Lib.hid (allTok_any [] (s ++ t) w3 (by simp) ts aa e0 hlx)
        have HLX := Lib.hid (fun (h1 : ps = true) (h2 : pt = true) => show (s.size + t.size ≤ 12 ∧ e0 = 0 ∧ ts.length = 1) ∨ (12 < s.size + t.size ∧ e0 = 2) by
          obtain ⟨hw, hz⟩ := HAPP.out h1 h2
          have h3 := name_lex (s ++ t) hw (by omega)
          rw [hlx] at h3
          by_cases h12 : (s ++ t).size ≤ 12
          · rw [if_pos h12] at h3
            simp only [Prod.mk.injEq] at h3
            exact .inl ⟨by omega, h3.2.2, by rw [h3.1]; rfl⟩
          · rw [if_neg h12] at h3
            simp only [Prod.mk.injEq] at h3
            exact .inr ⟨by omega, h3.2.2⟩)
        clear hlx HAPP
        go_wp2_with fail
        refine HAL.out.mono ?_
        rintro e w4 ⟨⟨u, rfl, HTS⟩, K4⟩
        have HK4 := Lib.hid (HK3.out.trans K4)
        clear K4 HK3 HAL
        obtain ⟨A2, C2, rfl, _⟩ := SlOf.at HTS
        clear HTS
        cases ps
        · clear HLX
          go_wp2
          all_goals go_ret
          all_goals exact ⟨rfl, HK4.out⟩
        · cases pt
          · clear HLX
            go_wp2
            all_goals go_ret
            all_goals exact ⟨rfl, HK4.out⟩
          · rcases HLX.out rfl rfl with ⟨h1, rfl, h3⟩ | ⟨h1, rfl⟩
            · have d1 : ((s.size : Int) + t.size) ≤ 12 := by omega
              have d2 : ((ts.length : Int) == 1) = true := by simp; omega
              clear HLX h1 h3
              go_wp2
              all_goals go_ret
              all_goals exact ⟨rfl, HK4.out⟩
            · have d1 : (12 : Int) < ((s.size : Int) + t.size) := by omega
              clear HLX h1
              go_wp2
              all_goals go_ret
              all_goals exact ⟨rfl, HK4.out⟩
end Go.Proofs.YtmfjddhckblbhaaGreatDoor
namespace Go.Proofs.YtmfjddhckblbhaaGreatDoor.RowTN
open Go.ChangeShapes Go.WideShapes Go.ChangeAt Go.RowKit Go.Joins Go.Deep Go.ChangeMaps Go.Proofs.YtmfjddhckblbhaaGreatDoor.RowS

def zeroA : Array Value := #[.string ⟨#[]⟩, .string ⟨#[]⟩]
set_option maxRecDepth 100000 in
theorem laid_met (os : Os) : laidMet Tryz.prog laid5 ((laidWorld os).forCall (fun _ _ => 0) ⟨#[], zeroA, []⟩).memory :=
  laidMet_of_run' 8 (by kernel_rfl) (by kernel_rfl)
theorem reads (os : Os) {H : Type} (enc : TypeId × Value → H) : ∃ places, DataW.whole enc Tryz.prog ((laidWorld os).forCall (fun _ _ => 0) ⟨#[], zeroA, []⟩).memory Tryz.f7.params.toList Rows.tokenNameSpec.vars false zeroA.toList 8 = some ([.lit (.string []), .lit (.string [])], [], places) :=
  ⟨[], by kernel_rfl⟩
set_option maxRecDepth 100000 in
set_option maxHeartbeats 1000000 in
theorem contract (H : Type) (enc : TypeId × Value → H) (W : World) (args : Array Value) (ds gs : List (DataW H)) (before : List MemPlace) (base : Nat)
    (hval : ∀ (j : Nat) t v, Tryz.f7.params[j]? = some t → args[j]? = some v → Value.okWide Tryz.prog W .any base t v)
    (hW : DataW.Whole enc Tryz.prog Tryz.f7.params.toList Rows.tokenNameSpec.vars false W args.toList ds gs before) (HT : Tab W ∧ 5 < W.heap.size) :
    Calls Tryz.prog 7 args W fun e W' => ∃ v, e = .returned v ∧ Rows.tokenNameSpec.post enc Tryz.prog Tryz.f7 false true false false W args v W' := by
  have hW' := hW
  obtain ⟨p, q, hA0, hV, rfl, hfz, hnd⟩ := hW
  have hA : DataW.TrodAll enc Tryz.prog W 0 (fun _ => true) true Tryz.f7.params.toList args.toList ds p := hA0
  rw [Tryz.params7] at hA hval
  obtain ⟨v0, vs0, d0, ds0, p0, q0, hargs, rfl, rfl, h0, r0⟩ := trodAll_cons hA
  obtain ⟨v1, vs1, d1, ds1, p1, q1, rfl, rfl, rfl, h1, r1⟩ := trodAll_cons r0
  obtain ⟨rfl, rfl, rfl⟩ := trodAll_nil r1
  obtain rfl : args = #[v0, v1] := by cases args; simp_all
  obtain ⟨rfl, rfl⟩ := trodVars_none hV
  obtain ⟨s0, rfl, rfl, rfl, w0⟩ := open_string Tryz.underlying9 (hval 0 _ v0 rfl rfl) h0
  obtain ⟨s1, rfl, rfl, rfl, w1⟩ := open_string Tryz.underlying9 (hval 1 _ v1 rfl rfl) h1
  clear hA0
  refine (tokenName_walk s0 s1 W HT.1 HT.2).mono fun e W' ⟨he, kp⟩ => ?_
  have bel := kp.below
  subst he
  exact ⟨_, rfl, _, _, _, [], _, [], hW', trodAll_mk1 (shut_bool Tryz.underlying4 _), (trodAll_cons_mk (shut_string Tryz.underlying9 w0) (trodAll_cons_mk (shut_string Tryz.underlying9 w1) trodAll_mk0)), rfl, bel.frame _, fun h => by cases h⟩

set_option maxRecDepth 100000 in
theorem lifted (os : Os) (started : os.Started) (H : Type) (enc : TypeId × Value → H) (F : Stop.Interp) :
    ReturnsInHanded {} Tryz.checked os 7 .any ((OpenSpec.ofChange Rows.tokenNameSpec).preRow enc Tryz.prog Tryz.f7 Rows.tokenNameRow.domain false Rows.tokenNameRow.laid) (((OpenSpec.ofChange Rows.tokenNameSpec).at F).post enc Tryz.prog Tryz.f7 false true false false) := by
  obtain ⟨places, hx⟩ := reads os enc
  refine returnsInHanded_of_row (C := Tryz.checked) (s := OpenSpec.ofChange Rows.tokenNameSpec) own started (by kernel_rfl) Tryz.func7
    (witness_row_at (enc := enc) (C := Tryz.checked) false (laidWorld os) zeroA rfl (by kernel_rfl) (by kernel_rfl) (by kernel_rfl)
      (OpenSpec.preRow_of_cond 8 hx (by kernel_rfl) (fun k hk => by cases hk) (by kernel_rfl) (laid_met os))) ?_
  intro W base args ds gs before hval hW _ _ _ hL _ _
  exact contract H enc W args ds gs before base hval hW (tab_of (show laidMet Tryz.prog laid5 W from hL))

theorem said : Rows.TokenNameSaid :=
  OpenClaim.holds_of_cond 7 Tryz.f7 rfl rfl rfl rfl rfl rfl rfl ⟨rfl, rfl, rfl, rfl, rfl⟩ rfl rfl rfl rfl rfl (by kernel_rfl) Tryz.func7 (by kernel_rfl)
    (of_decide_eq_true (by kernel_rfl)) (by unfold Func.isWrapper; first | (rw [if_pos (by decide +kernel)]; kernel_rfl) | (rw [if_neg (by decide +kernel)]; exact ⟨rfl, rfl⟩))
    (fun os started H enc _ F => by rw [OpenClaim.pre_eq_preRow]; exact lifted os started H enc F)

theorem plain (f : FuncId) (fn : Func) (hf : Tryz.pinned.checked.prog.funcNamed "exegete/exegetelaw05.TokenName" = some f) (hfn : Tryz.pinned.checked.prog.funcs[f]? = some fn) :
    false = Tryz.pinned.checked.prog.looks [] ∧ ∀ (j : Nat) t, fn.params[j]? = some t → Tryz.pinned.checked.prog.wantsStandIn t = false := by
  obtain rfl : f = 7 := Option.some.inj ((show Tryz.prog.funcNamed "exegete/exegetelaw05.TokenName" = some 7 by kernel_rfl).symm.trans hf) |>.symm
  obtain rfl : fn = Tryz.f7 := (Option.some.inj (Tryz.func7.symm.trans hfn)).symm
  refine ⟨by kernel_rfl, fun j t ht => ?_⟩
  rw [Tryz.params7] at ht
  have hm : t = 9 ∨ t = 9 := by simpa [or_assoc] using Array.mem_of_getElem? ht
  rcases hm with rfl | rfl
  · exact (show Tryz.prog.wantsStandIn 9 = false by kernel_rfl)
  · exact (show Tryz.prog.wantsStandIn 9 = false by kernel_rfl)

theorem card : Rows.TokenNameCardSaid :=
  Claim7.holds_tied_plain_at .later [] _ _ _ _ said (fun _ h => by cases h) (by kernel_rfl) (fun _ h => by cases h) tokenName_row_tie rfl ⟨rfl, rfl⟩ (by kernel_rfl) rfl plain (by kernel_rfl)
end Go.Proofs.YtmfjddhckblbhaaGreatDoor.RowTN
namespace Go.Proofs.YtmfjddhckblbhaaGreatDoor
/-- The card of the law. -/
theorem tokenName_card : Rows.TokenNameCardSaid := RowTN.card
#print axioms tokenName_card
end Go.Proofs.YtmfjddhckblbhaaGreatDoor
