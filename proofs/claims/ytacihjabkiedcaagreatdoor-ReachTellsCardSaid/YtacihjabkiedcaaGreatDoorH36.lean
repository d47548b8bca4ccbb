/- The reference's words of layer 2: the plain law of its borders, and of its rounds. -/
import Derived.Test.YtacihjabkiedcaaGreatDoorH35
set_option linter.unusedVariables false
set_option linter.unusedSimpArgs false
namespace Go.Proofs.YtacihjabkiedcaaGreatDoor
open Go Go.RowKit Go.MapKept

/-- The ranges below n of which something is so. -/
def OfI (is : Int → Bool) (n : Int) (R : List Rng) : Prop := OrdR R ∧ (∀ r ∈ R, r.hi < n) ∧ ∀ z, hasR R z = (decide (0 ≤ z) && decide (z < n) && is z)
theorem OfI.step {is : Int → Bool} {fr up : Int} {R : List Rng} (h : OfI is fr R) (hlt : fr < up) (hb1 : 0 ≤ fr ∧ fr ≤ 1114112) (hb2 : 0 ≤ up ∧ up ≤ 1114112) (hck : ∀ n, fr ≤ n → n < up → is n = is fr) : OfI is up (pickStep is R fr (up - 1)) := by
  obtain ⟨⟨i1, i2⟩, i3, i4⟩ := h
  unfold OfI
  unfold pickStep
  cases hf : is fr with
  | false =>
    rw [if_neg (by simp)]
    refine ⟨⟨i1, i2⟩, fun r h => by have := i3 r h; omega, fun n => ?_⟩
    rw [i4 n]
    by_cases h1 : n < fr
    · simp [h1, show n < up by omega]
    · by_cases h2 : n < up
      · rw [hck n (by omega) h2, hf]; simp
      · simp [h1, h2]
  | true =>
    rw [if_pos rfl]
    have hmem : ∀ n, (decide (0 ≤ n) && decide (n < up) && is n) = ((decide (0 ≤ n) && decide (n < fr) && is n) || inR n ⟨fr, up - 1⟩) := by
      intro n
      unfold inR
      by_cases h1 : n < fr
      · simp [h1, show n < up by omega, show ¬ fr ≤ n by omega]
      · by_cases h2 : n < up
        · rw [hck n (by omega) h2, hf]
          simp [h1, h2, show 0 ≤ n by omega, show fr ≤ n by omega, show n ≤ up - 1 by omega]
        · simp [h1, h2, show ¬ n ≤ up - 1 by omega]
    cases hl : R.getLast? with
    | none =>
      have hR : R = [] := List.getLast?_eq_none_iff.1 hl
      subst hR
      refine ⟨⟨?_, by simp⟩, ?_, fun n => ?_⟩
      · intro r h
        simp at h; subst h
        exact ⟨by simp only; omega, by simp only; omega, by simp only; omega⟩
      · intro r h
        simp at h; subst h
        simp only; omega
      · rw [hmem n, ← i4 n]
        simp [hasR]
    | some r =>
      obtain ⟨R', hR⟩ := List.getLast?_eq_some_iff.1 hl
      subst hR
      have j1 := i1 r (by simp)
      have j3 := i3 r (by simp)
      rw [List.pairwise_append] at i2
      obtain ⟨p1, _, p3⟩ := i2
      by_cases hh : r.hi = fr - 1
      · simp only
        rw [if_pos hh, List.dropLast_concat]
        refine ⟨⟨fun q h => ?_, ?_⟩, fun q h => ?_, fun n => ?_⟩
        · rcases List.mem_append.1 h with h | h
          · exact i1 q (by simp [h])
          · simp at h; subst h; exact ⟨j1.1, by simp only; omega, by simp only; omega⟩
        · rw [List.pairwise_append]
          exact ⟨p1, by simp, fun a ha b hb => by simp at hb; subst hb; exact p3 a ha r (by simp)⟩
        · rcases List.mem_append.1 h with h | h
          · have := i3 q (by simp [h]); omega
          · simp at h; subst h; simp only; omega
        · rw [hmem n, ← i4 n, hasR_append, hasR_append, hasR_one, hasR_one, Bool.or_assoc]
          congr 1
          unfold inR
          rw [Bool.eq_iff_iff]
          simp
          omega
      · simp only
        rw [if_neg hh]
        refine ⟨⟨fun q h => ?_, ?_⟩, fun q h => ?_, fun n => ?_⟩
        · rcases List.mem_append.1 h with h | h
          · exact i1 q h
          · simp at h; subst h; exact ⟨by simp only; omega, by simp only; omega, by simp only; omega⟩
        · rw [List.pairwise_append]
          refine ⟨by rw [List.pairwise_append]; exact ⟨p1, by simp, p3⟩, by simp, fun a ha b hb => ?_⟩
          simp at hb; subst hb
          simp only
          rcases List.mem_append.1 ha with ha | ha
          · have := p3 a ha r (by simp)
            omega
          · simp at ha; subst ha; omega
        · rcases List.mem_append.1 h with h | h
          · have := i3 q h; omega
          · simp at h; subst h; simp only; omega
        · rw [hmem n, ← i4 n, hasR_append, hasR_one]

theorem OfI.zero (is : Int → Bool) : OfI is 0 [] := by
  refine ⟨⟨by simp, by simp⟩, by simp, fun n => ?_⟩
  have : (decide (0 ≤ n) && decide (n < 0)) = false := by
    rw [Bool.and_eq_false_iff]
    by_cases h : 0 ≤ n
    · exact .inr (decide_eq_false (by omega))
    · exact .inl (decide_eq_false h)
  rw [this]
  simp [hasR]
theorem OfI.last {f : Bool → Bool → Bool} {a b R : List Rng} (h : OfI (fun n => f (hasR a n) (hasR b n)) 1114112 R) : R = twoR f a b := by
  obtain ⟨h1, h2⟩ := twoR_law f a b
  refine ordR_eq _ _ h.1 h1 (fun n => ?_)
  rw [h.2.2 n, h2 n]
  congr 2
  rw [decide_eq_decide]
  omega
theorem ordR_len : ∀ (l : List Rng) (k : Int), OrdR l → (∀ r ∈ l, k ≤ r.lo) → k ≤ 1114112 → (l.length : Int) ≤ 1114112 - k
  | [], k, _, _, hk => by simp; omega
  | r :: l, k, h, hk, _ => by
    obtain ⟨h1, h2⟩ := h
    rw [List.pairwise_cons] at h2
    have h3 := h1 r List.mem_cons_self
    have h4 := hk r List.mem_cons_self
    have := ordR_len l (r.hi + 1) ⟨fun q hq => h1 q (List.mem_cons_of_mem _ hq), h2.2⟩ (fun q hq => by have := h2.1 q hq; omega) (by omega)
    simp only [List.length_cons]
    omega
/-- Ranges in order with two numbers at least from beginning to beginning. -/
theorem ordR_len2 : ∀ (l : List Rng) (k : Int), OrdR l → (∀ r ∈ l, k ≤ r.lo) → k ≤ 1114113 → (2 * l.length : Int) ≤ 1114113 - k
  | [], k, _, _, hk => by simp; omega
  | r :: l, k, h, hk, _ => by
    obtain ⟨h1, h2⟩ := h
    rw [List.pairwise_cons] at h2
    have h3 := h1 r List.mem_cons_self
    have h4 := hk r List.mem_cons_self
    have := ordR_len2 l (r.hi + 2) ⟨fun q hq => h1 q (List.mem_cons_of_mem _ hq), h2.2⟩ (fun q hq => by have := h2.1 q hq; omega) (by omega)
    simp only [List.length_cons]
    omega
theorem ordR_many {l : List Rng} (h : OrdR l) : l.length ≤ 557056 := by
  have := ordR_len2 l 0 h (fun r hr => (h.1 r hr).1) (by omega)
  omega

/-- The next place from which on something may be otherwise. -/
def brdS (n best : Int) (r : Rng) : Int :=
  let b := if n < r.lo ∧ r.lo < best then r.lo else best
  if n ≤ r.hi ∧ r.hi < b - 1 then r.hi + 1 else b
def brdF (n best : Int) (l : List Rng) : Int := l.foldl (brdS n) best
theorem brdS_in {n best : Int} (h : n < best) (r : Rng) : n < brdS n best r ∧ brdS n best r ≤ best ∧ ∀ z, n ≤ z → z < brdS n best r → inR z r = inR n r := by
  unfold brdS
  simp only
  generalize hb : (if n < r.lo ∧ r.lo < best then r.lo else best) = b
  have h1 : n < b ∧ b ≤ best ∧ (n < r.lo → b ≤ r.lo) := by split at hb <;> omega
  generalize hc : (if n ≤ r.hi ∧ r.hi < b - 1 then r.hi + 1 else b) = c
  have h2 : n < c ∧ c ≤ b ∧ (n ≤ r.hi → c ≤ r.hi + 1) := by split at hc <;> omega
  refine ⟨by omega, by omega, fun z z1 z2 => ?_⟩
  unfold inR
  have e1 : (r.lo ≤ z) ↔ (r.lo ≤ n) := by constructor <;> intro h3 <;> omega
  have e2 : (z ≤ r.hi) ↔ (n ≤ r.hi) := by constructor <;> intro h3 <;> omega
  rw [decide_eq_decide.2 e1, decide_eq_decide.2 e2]
theorem brdF_in : ∀ (l : List Rng) {n best : Int}, n < best → n < brdF n best l ∧ brdF n best l ≤ best ∧ ∀ z, n ≤ z → z < brdF n best l → hasR l z = hasR l n
  | [], n, best, h => ⟨h, Int.le_refl _, fun _ _ _ => rfl⟩
  | r :: l, n, best, h => by
    obtain ⟨a1, a2, a3⟩ := brdS_in h r
    obtain ⟨b1, b2, b3⟩ := brdF_in l a1
    change n < brdF n (brdS n best r) l ∧ brdF n (brdS n best r) l ≤ best ∧ _
    refine ⟨b1, by omega, fun z h1 h2 => ?_⟩
    change z < brdF n (brdS n best r) l at h2
    have e1 := a3 z h1 (by omega)
    have e2 := b3 z h1 h2
    unfold hasR at e2 ⊢
    rw [List.any_cons, List.any_cons, e1, e2]
/-- How many numbers the first k have. -/
def sizeF (l : List Rng) (k : Nat) : Int := ((l.take k).map (fun r => r.hi - r.lo + 1)).sum
theorem sizeF_succ (l : List Rng) (k : Nat) (hk : k < l.length) : sizeF l (k + 1) = sizeF l k + (l[k].hi - l[k].lo + 1) := by
  unfold sizeF
  have e : l.take (k + 1) = l.take k ++ [l[k]] := by rw [List.take_add_one, List.getElem?_eq_getElem hk]; rfl
  rw [e, List.map_append, List.sum_append]
  simp
theorem sizeF_in {l : List Rng} (h : OrdR l) : ∀ k, k ≤ l.length → (k : Int) ≤ sizeF l k ∧ sizeF l k ≤ 1114112 * k
  | 0, _ => by simp [sizeF]
  | k + 1, hk => by
    have ih := sizeF_in h k (by omega)
    have h1 := h.1 l[k] (List.getElem_mem (by omega))
    rw [sizeF_succ l k (by omega)]
    omega
def sizeR (l : List Rng) : Int := sizeF (twoR (fun x y => x || y) l []) (twoR (fun x y => x || y) l []).length
/-- It has a number just if what is in order of it is there. -/
theorem size_pos {l : List Rng} (h : OrdR l) : 0 < sizeR l ↔ l ≠ [] := by
  obtain ⟨h1, h2⟩ := twoR_law (fun x y => x || y) l []
  have e : twoR (fun x y => x || y) l [] = l := ordR_eq _ _ h1 h (fun n => by
    rw [h2 n]
    have h0 : hasR [] n = false := by simp [hasR]
    rw [h0]
    simp only [Bool.or_false]
    cases hn : hasR l n with
    | false => simp
    | true =>
      obtain ⟨r, hr, hin⟩ := List.any_eq_true.1 hn
      have := h.1 r hr
      unfold inR at hin
      simp at hin
      simp; omega)
  unfold sizeR
  rw [e]
  have := sizeF_in h l.length (Nat.le_refl _)
  constructor
  · rintro h3 rfl
    simp [sizeF] at h3
  · intro h3
    have : 0 < l.length := List.length_pos_iff.2 h3
    omega
end Go.Proofs.YtacihjabkiedcaaGreatDoor
namespace Go.Proofs.YtacihjabkiedcaaGreatDoor
open Go Go.RowKit Go.MapKept

theorem brdF_snoc (n best : Int) (l : List Rng) (k : Nat) (hk : k < l.length) : brdF n best (l.take (k + 1)) = brdS n (brdF n best (l.take k)) l[k] := by
  have e2 : l.take (k + 1) = l.take k ++ [l[k]] := by rw [List.take_add_one, List.getElem?_eq_getElem hk]; rfl
  unfold brdF
  rw [e2, List.foldl_append]
  rfl
theorem hasR_hit {l : List Rng} {n : Int} {k : Nat} (hk : k < l.length) (h : inR n l[k] = true) : hasR l n = true := List.any_eq_true.2 ⟨_, List.getElem_mem hk, h⟩
theorem hasR_miss {l : List Rng} {n : Int} (h : ∀ j (hj : j < l.length), inR n l[j] = false) : hasR l n = false := by
  unfold hasR
  rw [List.any_eq_false]
  intro r hr
  obtain ⟨j, hj, rfl⟩ := List.getElem_of_mem hr
  simp [h j hj]
set_option maxRecDepth 20000 in
set_option maxHeartbeats 4000000 in
theorem has2_any (S : List Nat) (A : Option Addr) (m C : Nat) (l : List Rng) (n : Int) (w : World) (H : SlOf RngRow S w 2 (.slice A m C) l) :
    Calls Tryz.prog 137 #[.slice A m C, .int .i64 n] w fun e w' => e = .returned (.bool (hasR l n)) ∧ w' = w := by
  obtain ⟨rfl, hm, _⟩ := SlOf.len H
  have HH := Lib.hid H
  obtain ⟨r, hr⟩ : ∃ r, r = hasR l n := ⟨_, rfl⟩
  rw [← hr]
  have HRES := Lib.hid hr
  clear H hr
  go_enter Tryz.func137, Tryz.ntmps137
  go_wp2
  go_loop [5] (fun i => ∃ k : Nat, k ≤ l.length ∧ i = .int .i64 k ∧ Hid (∀ j (h : j < l.length), j < k → inR n l[j] = false)) (fun i => l.length - (intOf i).toNat)
  case atStart => exact ⟨0, by omega, rfl, Lib.hid (fun j h h' => by omega)⟩
  case round =>
    obtain ⟨k, hk, rfl, hn⟩ := hrel
    by_cases hlt : k < l.length
    · have hlt' : (k : Int) < (l.length : Int) := by omega
      have HLT := Lib.hid hlt
      obtain ⟨b, o, rfl, _, e0, e1⟩ := rngSl_pick HH.out k hlt
      have HT := Lib.hid (fun (h : inR n l[k] = true) => (by rw [HRES.out]; exact hasR_hit hlt h : r = true))
      have HGO := Lib.hid (fun (h : inR n l[k] = false) => (fun j hj hjk => by
        by_cases e : j = k
        · subst e; exact h
        · exact hn.out j hj (by omega) : ∀ j (h : j < l.length), j < k + 1 → inR n l[j] = false))
      generalize l[k] = q at e0 e1 HT HGO
      obtain ⟨lo, hi⟩ := q
      simp only at e0 e1
      clear hn
      by_cases h1 : lo ≤ n
      · have d1 : decide (lo ≤ n) = true := by simpa using h1
        by_cases h2 : n ≤ hi
        · have d2 : decide (n ≤ hi) = true := by simpa using h2
          have HF := Lib.hid (HT.out (by simp [inR, h1, h2]))
          clear HT HGO
          go_wp2
          go_ret
          exact ⟨by rw [HF.out]; rfl, rfl⟩
        · have d2 : decide (n ≤ hi) = false := by simpa using h2
          have h2' : hi < n := by omega
          have HN := Lib.hid (HGO.out (by simp [inR, h2]))
          clear HT HGO h2
          go_wp2
          go_round
          case rel => exact ⟨k + 1, by have := HLT.out; omega, by go_num, Lib.hid HN.out⟩
          case measure => simp [intOf]; have := HLT.out; omega
      · have d1 : decide (lo ≤ n) = false := by simpa using h1
        have h1' : n < lo := by omega
        have HN := Lib.hid (HGO.out (by simp [inR, h1]))
        clear HT HGO h1
        go_wp2
        go_round
        case rel => exact ⟨k + 1, by have := HLT.out; omega, by go_num, Lib.hid HN.out⟩
        case measure => simp [intOf]; have := HLT.out; omega
    · obtain rfl : k = l.length := by omega
      have HF : Hid (r = false) := Lib.hid (by rw [HRES.out]; exact hasR_miss (fun j hj => hn.out j hj hj))
      clear hn
      go_wp2
      go_ret
      exact ⟨by rw [HF.out]; rfl, rfl⟩
set_option maxRecDepth 20000 in
set_option maxHeartbeats 4000000 in
theorem is2_or (S : List Nat) (A B : Option Addr) (m C k D : Nat) (a b : List Rng) (n : Int) (w : World) (H : SlOf RngRow S w 2 (.slice A m C) a) (G : SlOf RngRow S w 2 (.slice B k D) b) :
    Calls Tryz.prog 108 #[.slice A m C, .slice B k D, .int .i64 0, .int .i64 (-1), .int .i64 n] w fun e w' => e = .returned (.bool (hasR a n ||hasR b n)) ∧ w' = w := by
  have HA := Lib.hid (has2_any S A m C a n w H)
  have HB := Lib.hid (has2_any S B k D b n w G)
  clear H G
  generalize hasR a n = x at HA
  generalize hasR b n = y at HB
  go_enter Tryz.func108, Tryz.ntmps108
  go_wp2_with fail
  refine HA.out.mono ?_
  rintro e w1 ⟨rfl, rfl⟩
  go_wp2_with fail
  refine HB.out.mono ?_
  rintro e w2 ⟨rfl, rfl⟩
  clear HA HB
  cases x <;> cases y <;> (go_wp2; go_ret; exact ⟨rfl, rfl⟩)
set_option maxRecDepth 20000 in
set_option maxHeartbeats 4000000 in
theorem is2_less (S : List Nat) (A B : Option Addr) (m C k D : Nat) (a b : List Rng) (n : Int) (w : World) (H : SlOf RngRow S w 2 (.slice A m C) a) (G : SlOf RngRow S w 2 (.slice B k D) b) :
    Calls Tryz.prog 108 #[.slice A m C, .slice B k D, .int .i64 2, .int .i64 (-1), .int .i64 n] w fun e w' => e = .returned (.bool (hasR a n && !hasR b n)) ∧ w' = w := by
  have HA := Lib.hid (has2_any S A m C a n w H)
  have HB := Lib.hid (has2_any S B k D b n w G)
  clear H G
  generalize hasR a n = x at HA
  generalize hasR b n = y at HB
  go_enter Tryz.func108, Tryz.ntmps108
  go_wp2_with fail
  refine HA.out.mono ?_
  rintro e w1 ⟨rfl, rfl⟩
  go_wp2_with fail
  refine HB.out.mono ?_
  rintro e w2 ⟨rfl, rfl⟩
  clear HA HB
  cases x <;> cases y <;> (go_wp2; go_ret; exact ⟨rfl, rfl⟩)
set_option maxRecDepth 20000 in
set_option maxHeartbeats 4000000 in
theorem border_any (S : List Nat) (A : Option Addr) (m C : Nat) (l : List Rng) (n best : Int) (w : World) (H : SlOf RngRow S w 2 (.slice A m C) l) (h0 : 0 ≤ n) (h1 : n < best) (h2 : best ≤ 1114112) :
    Calls Tryz.prog 107 #[.slice A m C, .int .i64 n, .int .i64 best] w fun e w' => e = .returned (.int .i64 (brdF n best l)) ∧ w' = w := by
  obtain ⟨rfl, hm, _⟩ := SlOf.len H
  have HH := Lib.hid H
  have hst : Hid (best = brdF n best (l.take 0)) := Lib.hid rfl
  obtain ⟨r, hr⟩ : ∃ r, r = brdF n best l := ⟨_, rfl⟩
  rw [← hr]
  have HRES := Lib.hid hr
  clear H hr
  go_enter Tryz.func107, Tryz.ntmps107
  go_wp2
  go_loop [2, 7] (fun bv i => ∃ k : Nat, k ≤ l.length ∧ i = .int .i64 k ∧ ∃ z : Int, bv = .int .i64 z ∧ n < z ∧ z ≤ 1114112 ∧ Hid (z = brdF n best (l.take k))) (fun _ i => l.length - (intOf i).toNat)
  case atStart => exact ⟨0, by omega, rfl, best, rfl, h1, h2, hst⟩
  case round =>
    clear hst
    obtain ⟨k, hk, rfl, z, rfl, hz1, hz2, hz⟩ := hrel
    by_cases hlt : k < l.length
    · have hlt' : (k : Int) < (l.length : Int) := by omega
      have HLT := Lib.hid hlt
      obtain ⟨b, o, rfl, _, e0, e1⟩ := rngSl_pick HH.out k hlt
      have HN := Lib.hid (fun (y : Int) (h : y = brdS n z l[k]) => (by rw [h, hz.out]; exact (brdF_snoc n best l k hlt).symm : y = brdF n best (l.take (k + 1))))
      generalize l[k] = q at e0 e1 HN
      obtain ⟨lo, hi⟩ := q
      simp only at e0 e1
      clear hz
      by_cases a1 : n < lo
      · have d1 : decide (n < lo) = true := by simpa using a1
        by_cases a2 : lo < z
        · have d2 : decide (lo < z) = true := by simpa using a2
          have hw : IntKind.i64.wrap (lo - 1) = lo - 1 := IntWalk.i64_in _ (by omega)
          by_cases b1 : n ≤ hi
          · have d3 : decide (n ≤ hi) = true := by simpa using b1
            by_cases b2 : hi < lo - 1
            · have d4 : decide (hi < lo - 1) = true := by simpa using b2
              have hw2 : IntKind.i64.wrap (hi + 1) = hi + 1 := IntWalk.i64_in _ (by omega)
              have HZ := Lib.hid (HN.out (hi + 1) (by simp only [brdS]; (repeat' split) <;> omega))
              have hz : n < hi + 1 ∧ hi + 1 ≤ 1114112 := by omega
              clear HN
              go_wp2
              go_round
              case rel => exact ⟨k + 1, by have := HLT.out; omega, by go_num, hi + 1, by first | rfl | go_num, hz.1, hz.2, HZ⟩
              case measure => simp [intOf]; have := HLT.out; omega
            · have d4 : decide (hi < lo - 1) = false := by simpa using b2
              have b3 : lo - 1 ≤ hi := by omega
              have HZ := Lib.hid (HN.out (lo) (by simp only [brdS]; (repeat' split) <;> omega))
              have hz : n < lo ∧ lo ≤ 1114112 := by omega
              clear HN b2
              go_wp2
              go_round
              case rel => exact ⟨k + 1, by have := HLT.out; omega, by go_num, lo, by first | rfl | go_num, hz.1, hz.2, HZ⟩
              case measure => simp [intOf]; have := HLT.out; omega
          · have d3 : decide (n ≤ hi) = false := by simpa using b1
            have b3 : hi < n := by omega
            have HZ := Lib.hid (HN.out (lo) (by simp only [brdS]; (repeat' split) <;> omega))
            have hz : n < lo ∧ lo ≤ 1114112 := by omega
            clear HN b1
            go_wp2
            go_round
            case rel => exact ⟨k + 1, by have := HLT.out; omega, by go_num, lo, by first | rfl | go_num, hz.1, hz.2, HZ⟩
            case measure => simp [intOf]; have := HLT.out; omega
        · have d2 : decide (lo < z) = false := by simpa using a2
          have a3 : z ≤ lo := by omega
          have hw : IntKind.i64.wrap (z - 1) = z - 1 := IntWalk.i64_in _ (by omega)
          by_cases b1 : n ≤ hi
          · have d3 : decide (n ≤ hi) = true := by simpa using b1
            by_cases b2 : hi < z - 1
            · have d4 : decide (hi < z - 1) = true := by simpa using b2
              have hw2 : IntKind.i64.wrap (hi + 1) = hi + 1 := IntWalk.i64_in _ (by omega)
              have HZ := Lib.hid (HN.out (hi + 1) (by simp only [brdS]; (repeat' split) <;> omega))
              have hz : n < hi + 1 ∧ hi + 1 ≤ 1114112 := by omega
              clear HN a2
              go_wp2
              go_round
              case rel => exact ⟨k + 1, by have := HLT.out; omega, by go_num, hi + 1, by first | rfl | go_num, hz.1, hz.2, HZ⟩
              case measure => simp [intOf]; have := HLT.out; omega
            · have d4 : decide (hi < z - 1) = false := by simpa using b2
              have b3 : z - 1 ≤ hi := by omega
              have HZ := Lib.hid (HN.out (z) (by simp only [brdS]; (repeat' split) <;> omega))
              have hz : n < z ∧ z ≤ 1114112 := by omega
              clear HN a2 b2
              go_wp2
              go_round
              case rel => exact ⟨k + 1, by have := HLT.out; omega, by go_num, z, by first | rfl | go_num, hz.1, hz.2, HZ⟩
              case measure => simp [intOf]; have := HLT.out; omega
          · have d3 : decide (n ≤ hi) = false := by simpa using b1
            have b3 : hi < n := by omega
            have HZ := Lib.hid (HN.out (z) (by simp only [brdS]; (repeat' split) <;> omega))
            have hz : n < z ∧ z ≤ 1114112 := by omega
            clear HN a2 b1
            go_wp2
            go_round
            case rel => exact ⟨k + 1, by have := HLT.out; omega, by go_num, z, by first | rfl | go_num, hz.1, hz.2, HZ⟩
            case measure => simp [intOf]; have := HLT.out; omega
      · have d1 : decide (n < lo) = false := by simpa using a1
        have a3 : lo ≤ n := by omega
        have hw : IntKind.i64.wrap (z - 1) = z - 1 := IntWalk.i64_in _ (by omega)
        by_cases b1 : n ≤ hi
        · have d3 : decide (n ≤ hi) = true := by simpa using b1
          by_cases b2 : hi < z - 1
          · have d4 : decide (hi < z - 1) = true := by simpa using b2
            have hw2 : IntKind.i64.wrap (hi + 1) = hi + 1 := IntWalk.i64_in _ (by omega)
            have HZ := Lib.hid (HN.out (hi + 1) (by simp only [brdS]; (repeat' split) <;> omega))
            have hz : n < hi + 1 ∧ hi + 1 ≤ 1114112 := by omega
            clear HN a1
            go_wp2
            go_round
            case rel => exact ⟨k + 1, by have := HLT.out; omega, by go_num, hi + 1, by first | rfl | go_num, hz.1, hz.2, HZ⟩
            case measure => simp [intOf]; have := HLT.out; omega
          · have d4 : decide (hi < z - 1) = false := by simpa using b2
            have b3 : z - 1 ≤ hi := by omega
            have HZ := Lib.hid (HN.out (z) (by simp only [brdS]; (repeat' split) <;> omega))
            have hz : n < z ∧ z ≤ 1114112 := by omega
            clear HN a1 b2
            go_wp2
            go_round
            case rel => exact ⟨k + 1, by have := HLT.out; omega, by go_num, z, by first | rfl | go_num, hz.1, hz.2, HZ⟩
            case measure => simp [intOf]; have := HLT.out; omega
        · have d3 : decide (n ≤ hi) = false := by simpa using b1
          have b3 : hi < n := by omega
          have HZ := Lib.hid (HN.out (z) (by simp only [brdS]; (repeat' split) <;> omega))
          have hz : n < z ∧ z ≤ 1114112 := by omega
          clear HN a1 b1
          go_wp2
          go_round
          case rel => exact ⟨k + 1, by have := HLT.out; omega, by go_num, z, by first | rfl | go_num, hz.1, hz.2, HZ⟩
          case measure => simp [intOf]; have := HLT.out; omega
    · obtain rfl : k = l.length := by omega
      have HF : Hid (z = r) := Lib.hid (by rw [HRES.out, hz.out, List.take_length])
      clear hz
      go_wp2
      go_ret
      exact ⟨by rw [HF.out]; rfl, rfl⟩
end Go.Proofs.YtacihjabkiedcaaGreatDoor
namespace Go.Proofs.YtacihjabkiedcaaGreatDoor
open Go Go.RowKit Go.MapKept

theorem rng_mv0 {S : List Nat} {w w' : World} {v : Value} {l : List Rng} (h : SlOf RngRow S w 2 v l) (K : Keep [] w w') : SlOf RngRow S w' 2 v l := SlOf.move h rngRow_stab (by omega) K (by simp) (fun x hx => .inl hx)
set_option maxRecDepth 20000 in
set_option maxHeartbeats 8000000 in
theorem of2_any (how : Int) (f : Bool → Bool → Bool) (A B : Option Addr) (m C k D : Nat) (a b : List Rng) (w : World) (H : SlOf RngRow [] w 2 (.slice A m C) a) (G : SlOf RngRow [] w 2 (.slice B k D) b)
    (his : ∀ n w', Keep [] w w' → Calls Tryz.prog 108 #[.slice A m C, .slice B k D, .int .i64 how, .int .i64 (-1), .int .i64 n] w' fun e w'' => e = .returned (.bool (f (hasR a n) (hasR b n))) ∧ w'' = w') :
    Calls Tryz.prog 79 #[.slice A m C, .slice B k D, .int .i64 how, .int .i64 (-1)] w fun e w' => (∃ v, e = .returned v ∧ OwnL RngRow [] w' w.heap.size 42 2 v (twoR f a b)) ∧ Keep [] w w' := by
  have HIS := Lib.hid his
  have HA := Lib.hid H
  have HB := Lib.hid G
  obtain ⟨i0, hi2, hz0, hz1, hz2⟩ := info_parts info_rng
  obtain ⟨fn, hfn⟩ : ∃ fn : Int → Bool, fn = fun n => f (hasR a n) (hasR b n) := ⟨_, rfl⟩
  have HFN := Lib.hid hfn
  have HST : Hid (OfI fn 0 [] ∧ OwnL RngRow [] w w.heap.size 42 2 (.slice none 0 0) []) := Lib.hid ⟨OfI.zero _, OwnL.nil _ _ _ _ _⟩
  clear H G his hfn
  go_enter Tryz.func79, Tryz.ntmps79
  go_wp2
  go_loopw [9, 10] (fun ov nv wr => ∃ (R : List Rng) (n : Int), nv = .int .i64 n ∧ 0 ≤ n ∧ n ≤ 1114112 ∧ Hid (OfI fn n R) ∧ OwnL RngRow [] wr w.heap.size 42 2 ov R ∧ Keep [] w wr) (fun _ nv _ => (1114112 - intOf nv).toNat)
  case atStart => exact ⟨[], 0, rfl, by omega, by omega, Lib.hid HST.out.1, HST.out.2, Keep.refl _ _⟩
  case round =>
    clear HST
    obtain ⟨R, n, rfl, hn0, hn1, hI, hO, hK⟩ := hrel
    by_cases hlt : n ≤ 1114111
    · have HA1 := Lib.hid (border_any [] A m C a n 1114112 wr (rng_mv0 HA.out hK) hn0 (by omega) (by omega))
      obtain ⟨g1, g2, g3⟩ := brdF_in a (show n < (1114112 : Int) by omega)
      have hB2 := border_any [] B k D b n (brdF n 1114112 a) wr (rng_mv0 HB.out hK) hn0 g1 g2
      obtain ⟨q1, q2, q3⟩ := brdF_in b g1
      have hst : Hid (OfI fn (brdF n (brdF n 1114112 a) b) (pickStep fn R n (brdF n (brdF n 1114112 a) b - 1))) := Lib.hid (hI.out.step q1 ⟨hn0, hn1⟩ ⟨by omega, by omega⟩ (fun z z1 z2 => by
        rw [HFN.out]
        simp only
        rw [g3 z z1 (by omega), q3 z z1 z2]))
      have hm := ordR_many hI.out.1
      generalize brdF n 1114112 a = z1 at HA1 hB2 g1 g2 q1 q2 hst
      generalize brdF n z1 b = z at hB2 q1 q2 hst
      have HB2 := Lib.hid hB2
      have HI2 := Lib.hid (HIS.out n wr hK)
      have hfx : f (hasR a n) (hasR b n) = fn n := by rw [HFN.out]
      rw [hfx] at HI2
      have hneg : decide (n ≤ -1) = false := by simp; omega
      have hneg' : (-1 : Int) < n := by omega
      have hw : IntKind.i64.wrap (z - 1) = z - 1 := IntWalk.i64_in _ (by omega)
      have hw0 : IntKind.i64.wrap (n - 1) = n - 1 := IntWalk.i64_in _ (by omega)
      have hz : z ≤ 1114112 := by omega
      have HO := Lib.hid hO
      have HK := Lib.hid hK
      obtain ⟨A2, C2, rfl⟩ := hO.slice
      clear hB2 g3 q3 hfx hI hO hK g1 g2 q2
      go_wp2_with fail
      refine HA1.out.mono ?_
      rintro e w1 ⟨rfl, rfl⟩
      go_wp2_with fail
      refine HB2.out.mono ?_
      rintro e w2 ⟨rfl, rfl⟩
      go_wp2_with fail
      refine HI2.out.mono ?_
      rintro e w3 ⟨rfl, rfl⟩
      clear HA1 HB2 HI2
      cases hf : fn n with
      | false =>
        have HFN2 : Hid (OfI fn z R) := Lib.hid (by have := hst.out; rwa [pickStep, if_neg (by simp [hf])] at this)
        clear hst hf
        go_wp2
        go_roundw
        case rel => exact ⟨R, z, by go_num, by omega, by omega, HFN2, HO.out, HK.out⟩
        case measure => simp [intOf]; omega
      | true =>
        rcases eq_nil_or_snoc R with rfl | ⟨R', r, rfl⟩
        · have HFN2 : Hid (OfI fn z ([] ++ [⟨n, z - 1⟩])) := Lib.hid (by have := hst.out; rwa [pickStep, if_pos hf] at this)
          clear hst hf
          go_wp2_with (at_builtin; refine Hid.out ?_)
          refine Lib.hid ?_
          have KB := (Keep.refl [] w3).alloc (.cells #[.int .i64 n, .int .i64 (z - 1)] 42)
          have Ov := HO.out
          refine wpList_append_data rngRow_stab rngRow_one rfl _ _ 35 rfl Tryz.underlying35 hi2 hz0 hz1 hz2 rfl (by omega) (S := []) (base := w.heap.size) (v := .slice A2 ([] : List Rng).length C2) (A := some ⟨w3.heap.size, 0, none⟩) (m := 1) (C := 1) (xs := ([] : List Rng)) (ys := [⟨n, z - 1⟩]) rfl rfl
            (Ov.move rngRow_stab KB (by simp) (fun x hx => .inl hx)) (one_rng (Blk.new' _ _ 42 rfl) (fun hx => by rcases List.mem_append.1 hx with hx | hx; have := (Ov.base _ hx).2; omega; simp at hx)) (by simp) (by simp) (by have := HK.out.size; simp; omega) ?_
          intro A9 C9 w9 O9 K9 n9
          have K9' := (HK.out.then KB (by simp)).then K9 (fun x hx => .inr (by have := (Ov.base x hx).1; omega))
          have HO9 := Lib.hid (⟨O9, K9'⟩ : _ ∧ _)
          clear O9 K9 n9 KB Ov K9'
          simp only [List.length_cons, List.length_nil, Nat.zero_add, Nat.reduceAdd] at HO9 ⊢
          go_wp2
          go_roundw
          case rel => exact ⟨_, z, by go_num, by omega, by omega, HFN2, HO9.out.1, HO9.out.2⟩
          case measure => simp [intOf]; omega
        · obtain ⟨lo, hi⟩ := r
          obtain ⟨g, rfl, hg1, hg2⟩ := HO.out.form (by simp)
          obtain ⟨b5, o5, hbo, _, e0, e1⟩ := rngSl_pick (HO.out.read rngRow_stab (S' := []) (by simp) (by simp)) R'.length (by simp)
          simp only [Option.some.injEq, Addr.mk.injEq, and_true] at hbo
          obtain ⟨rfl, rfl⟩ := hbo
          rw [show (R' ++ [(⟨lo, hi⟩ : Rng)])[R'.length]'(by simp) = ⟨lo, hi⟩ by simp] at e1
          simp only [Nat.zero_add] at e1
          have ff := HO.out.frozen (by simp) (R'.length * 2 + 1)
          have hln : (R' ++ [(⟨lo, hi⟩ : Rng)]).length = R'.length + 1 := by simp
          have hle2 : R'.length ≤ 1000000 := by simp at hm; omega
          have hw2 : IntKind.i64.wrap ((R'.length : Int) + 1 - 1) = R'.length := by rw [show (R'.length : Int) + 1 - 1 = R'.length by omega]; exact IntWalk.i64_in _ (by omega)
          have hw3 : IntKind.i64.wrap (R'.length : Int) = R'.length := IntWalk.i64_in _ (by omega)
          have hw4 : IntKind.i64.wrap (((R'.length + 1 : Nat) : Int) - 1) = R'.length := by rw [show ((R'.length + 1 : Nat) : Int) - 1 = R'.length by omega]; exact IntWalk.i64_in _ (by omega)
          clear e0
          by_cases hh : hi = n - 1
          · subst hh
            have HFN2 : Hid (OfI fn z (R' ++ [⟨lo, z - 1⟩])) := Lib.hid (by have := hst.out; rw [pickStep, if_pos hf] at this; simpa using this)
            have KS := (Keep.refl [g] w3).setCell (p := ⟨g, R'.length * 2 + 1, none⟩) (.inl (by simp)) (.int .i64 (z - 1))
            have HO9 : Hid (OwnL RngRow [] (w3.setCell ⟨g, R'.length * 2 + 1, none⟩ (.int .i64 (z - 1))) w.heap.size 42 2 (.slice (some ⟨g, 0, none⟩) (R'.length + 1) C2) (R' ++ [⟨lo, z - 1⟩]) ∧ Keep [] w (w3.setCell ⟨g, R'.length * 2 + 1, none⟩ (.int .i64 (z - 1)))) := Lib.hid ⟨by
              have hst := OwnL.store rngRow_stab HO.out R'.length 1 (.int .i64 (z - 1)) ⟨lo, z - 1⟩ (by simp) (by omega) (fun row hr h => by
                rw [show (R' ++ [(⟨lo, n - 1⟩ : Rng)])[R'.length]'(by simp) = ⟨lo, n - 1⟩ by simp] at h
                have h' : row = #[.int .i64 lo, .int .i64 (n - 1)] := h
                rw [h']; rfl)
              rw [show (R' ++ [(⟨lo, n - 1⟩ : Rng)]).set R'.length ⟨lo, z - 1⟩ = R' ++ [⟨lo, z - 1⟩] by simp] at hst
              rw [hln] at hst
              exact hst, HK.out.then KS (fun x hx => by simp at hx; subst hx; right; omega)⟩
            clear hst hf KS
            rw [hln]
            go_wp2
            go_roundw
            case rel => exact ⟨_, z, by go_num, by omega, by omega, HFN2, HO9.out.1, HO9.out.2⟩
            case measure => simp [intOf]; omega
          · have HFN2 : Hid (OfI fn z ((R' ++ [⟨lo, hi⟩]) ++ [⟨n, z - 1⟩])) := Lib.hid (by have := hst.out; rw [pickStep, if_pos hf] at this; simpa [hh] using this)
            have hhb : (hi == n - 1) = false := by simpa using hh
            clear hst hf hh
            rw [hln]
            go_wp2_with (at_builtin; refine Hid.out ?_)
            refine Lib.hid ?_
            have KB := (Keep.refl [] w3).alloc (.cells #[.int .i64 n, .int .i64 (z - 1)] 42)
            have Ov := HO.out
            rw [hln] at Ov
            refine wpList_append_data rngRow_stab rngRow_one rfl _ _ 35 rfl Tryz.underlying35 hi2 hz0 hz1 hz2 rfl (by omega) (S := []) (base := w.heap.size) (v := .slice (some ⟨g, 0, none⟩) (R'.length + 1) C2) (A := some ⟨w3.heap.size, 0, none⟩) (m := 1) (C := 1) (xs := R' ++ [⟨lo, hi⟩]) (ys := [⟨n, z - 1⟩]) rfl rfl
              (Ov.move rngRow_stab KB (by simp) (fun x hx => .inl hx)) (one_rng (Blk.new' _ _ 42 rfl) (fun hx => by rcases List.mem_append.1 hx with hx | hx; have := (Ov.base _ hx).2; omega; simp at hx)) (by simp; omega) (by simp; omega) (by have := HK.out.size; simp; omega) ?_
            intro A9 C9 w9 O9 K9 n9
            have K9' := (HK.out.then KB (by simp)).then K9 (fun x hx => .inr (by have := (Ov.base x hx).1; omega))
            have HO9 := Lib.hid (⟨O9, K9'⟩ : _ ∧ _)
            clear O9 K9 n9 KB Ov K9'
            generalize (R' ++ [(⟨lo, hi⟩ : Rng)]).length + [(⟨n, z - 1⟩ : Rng)].length = len at HO9 ⊢
            go_wp2
            go_roundw
            case rel => exact ⟨_, z, by go_num, by omega, by omega, HFN2, HO9.out.1, HO9.out.2⟩
            case measure => simp [intOf]; omega
    · obtain rfl : n = 1114112 := by omega
      have HF : Hid (R = twoR f a b) := Lib.hid (OfI.last (by have := hI.out; rw [HFN.out] at this; exact this))
      have HO := Lib.hid hO
      clear hI hO
      go_wp2
      go_ret
      exact ⟨⟨_, rfl, by rw [← HF.out]; exact HO.out⟩, hK⟩
set_option maxHeartbeats 2000000 in
theorem less2_any (A B : Option Addr) (m C k D : Nat) (a b : List Rng) (w : World) (H : SlOf RngRow [] w 2 (.slice A m C) a) (G : SlOf RngRow [] w 2 (.slice B k D) b) :
    Calls Tryz.prog 62 #[.slice A m C, .slice B k D] w fun e w' => (∃ v, e = .returned v ∧ OwnL RngRow [] w' w.heap.size 42 2 v (twoR (fun x y => x && !y) a b)) ∧ Keep [] w w' := by
  have HC := Lib.hid (of2_any 2 (fun x y => x && !y) A B m C k D a b w H G (fun n w' K => is2_less [] A B m C k D a b n w' (rng_mv0 H K) (rng_mv0 G K)))
  clear H G
  go_enter Tryz.func62, Tryz.ntmps62
  go_wp2_with fail
  refine HC.out.mono ?_
  rintro e w1 ⟨⟨v, rfl, hv⟩, K1⟩
  go_wp2
  go_ret
  exact ⟨⟨_, rfl, hv⟩, K1⟩
set_option maxHeartbeats 2000000 in
theorem norm2_any (A : Option Addr) (m C : Nat) (a : List Rng) (w : World) (H : SlOf RngRow [] w 2 (.slice A m C) a) :
    Calls Tryz.prog 78 #[.slice A m C] w fun e w' => (∃ v, e = .returned v ∧ OwnL RngRow [] w' w.heap.size 42 2 v (twoR (fun x y => x || y) a [])) ∧ Keep [] w w' := by
  have HC := Lib.hid (of2_any 0 (fun x y => x || y) A none m C 0 0 a [] w H (SlOf.nil _ _ _) (fun n w' K => is2_or [] A none m C 0 0 a [] n w' (rng_mv0 H K) (SlOf.nil _ _ _)))
  clear H
  go_enter Tryz.func78, Tryz.ntmps78
  go_wp2_with fail
  refine HC.out.mono ?_
  rintro e w1 ⟨⟨v, rfl, hv⟩, K1⟩
  go_wp2
  go_ret
  exact ⟨⟨_, rfl, hv⟩, K1⟩
set_option maxRecDepth 20000 in
set_option maxHeartbeats 4000000 in
theorem size2_any (A : Option Addr) (m C : Nat) (a : List Rng) (w : World) (H : SlOf RngRow [] w 2 (.slice A m C) a) :
    Calls Tryz.prog 61 #[.slice A m C] w fun e w' => e = .returned (.int .i64 (sizeR a)) ∧ Keep [] w w' := by
  have HC := Lib.hid (norm2_any A m C a w H)
  obtain ⟨h1, h2⟩ := twoR_law (fun x y => x || y) a []
  have hmany := ordR_many h1
  have HIN := Lib.hid (sizeF_in h1)
  have HOR := Lib.hid h1
  unfold sizeR
  have hst : Hid (0 = sizeF (twoR (fun x y => x || y) a []) 0) := Lib.hid (by simp [sizeF])
  clear H h1 h2
  generalize twoR (fun x y => x || y) a [] = l at HC hmany HIN HOR hst ⊢
  obtain ⟨r, hr⟩ : ∃ r, r = sizeF l l.length := ⟨_, rfl⟩
  rw [← hr]
  have HRES := Lib.hid hr
  clear hr
  go_enter Tryz.func61, Tryz.ntmps61
  go_wp2_with fail
  refine HC.out.mono ?_
  rintro e w1 ⟨⟨v, rfl, hv⟩, K1⟩
  obtain ⟨A2, C2, rfl⟩ := hv.slice
  have HSL := Lib.hid (hv.read rngRow_stab (S' := []) (by simp) (by simp))
  clear HC hv
  go_wp2
  go_loopw [3, 5] (fun sv iv wr => ∃ k : Nat, k ≤ l.length ∧ iv = .int .i64 k ∧ ∃ z : Int, sv = .int .i64 z ∧ Hid (z = sizeF l k) ∧ Keep [] w1 wr) (fun _ iv _ => l.length - (intOf iv).toNat)
  case atStart => exact ⟨0, by omega, rfl, 0, rfl, hst, Keep.refl _ _⟩
  case round =>
    clear hst
    obtain ⟨k, hk, rfl, z, rfl, hz, hK⟩ := hrel
    by_cases hlt : k < l.length
    · have hlt' : (k : Int) < (l.length : Int) := by omega
      have HLT := Lib.hid hlt
      obtain ⟨b, o, rfl, _, e0, e1⟩ := rngSl_pick (rng_mv0 HSL.out hK) k hlt
      obtain ⟨z0, z1⟩ := HIN.out k (by omega)
      obtain ⟨y0, y1, y2⟩ := HOR.out.1 l[k] (List.getElem_mem _)
      rw [← hz.out] at z0 z1
      have HN := Lib.hid (fun (y : Int) (h : y = z + (l[k].hi - l[k].lo + 1)) => (by rw [h, hz.out]; exact (sizeF_succ l k hlt).symm : y = sizeF l (k + 1)))
      have hzb : 0 ≤ z ∧ z ≤ 1000000000000 := by omega
      clear z0 z1 hz
      generalize l[k] = q at e0 e1 HN y0 y1 y2
      obtain ⟨lo, hi⟩ := q
      simp only at e0 e1 y0 y1 y2
      have wA : IntKind.i64.wrap (z + hi) = z + hi := IntWalk.i64_in _ (by omega)
      have wB : IntKind.i64.wrap (z + hi - lo) = z + hi - lo := IntWalk.i64_in _ (by omega)
      have wC : IntKind.i64.wrap (z + hi - lo + 1) = z + hi - lo + 1 := IntWalk.i64_in _ (by omega)
      have HZ := Lib.hid (HN.out (z + hi - lo + 1) (by simp only; omega))
      have HK := Lib.hid hK
      clear HN hK
      go_wp2
      go_quiet (fail)
      go_wp2
      go_roundw
      case rel => exact ⟨k + 1, by have := HLT.out; omega, by go_num, z + hi - lo + 1, by go_num, HZ, HK.out.drewN _⟩
      case measure => simp [intOf]; have := HLT.out; omega
    · obtain rfl : k = l.length := by omega
      have HF : Hid (z = r) := Lib.hid (by rw [HRES.out, hz.out])
      clear hz
      go_wp2
      go_ret
      exact ⟨by rw [HF.out]; rfl, K1.trans hK⟩
end Go.Proofs.YtacihjabkiedcaaGreatDoor
namespace Go.Proofs.YtacihjabkiedcaaGreatDoor
open Go Go.RowKit Go.MapKept

/-- So many rounds. -/
def iterM (sm : List Rng → Bool) (ps : List ProdS) : Nat → List Bool → List Bool
  | 0, out => out
  | f + 1, out => iterM sm ps f (mpass sm ps ps.length (out, false)).1
theorem iterM_same (sm : List Rng → Bool) (ps : List ProdS) (out : List Bool) (h : (mpass sm ps ps.length (out, false)).1 = out) : ∀ f, iterM sm ps f out = out
  | 0 => rfl
  | f + 1 => by
    unfold iterM
    rw [h]
    exact iterM_same sm ps out h f
theorem iterM_succ (sm : List Rng → Bool) (ps : List ProdS) : ∀ f out, iterM sm ps (f + 1) out = (mpass sm ps ps.length (iterM sm ps f out, false)).1
  | 0, _ => rfl
  | f + 1, out => iterM_succ sm ps f (mpass sm ps ps.length (out, false)).1
theorem iterM_eq (sm : List Rng → Bool) (ps : List ProdS) : ∀ f out, iterM sm ps f out = makesL sm ps f out
  | 0, _ => rfl
  | f + 1, out => by
    unfold iterM makesL
    split
    · exact iterM_eq sm ps f _
    · rename_i hb
      have h := (mpass_shut sm ps out ps.length (by simpa using hb)).1
      rw [h]
      exact iterM_same sm ps out (by rw [h]) f
theorem falses_none {out : List Bool} (h : falses out = 0) (j : Nat) : out[j]? ≠ some false := by
  intro hj
  have h1 : false ∈ out := List.mem_of_getElem? hj
  unfold falses at h
  rw [List.countP_eq_zero] at h
  exact h false h1 (by simp)
theorem makesL_law' (sm : List Rng → Bool) (ps : List ProdS) : ∀ f out, falses out ≤ f → ∀ j, j < ps.length → ∀ p, ps[j]? = some p → (makesL sm ps f out)[j]? ≠ some false ∨ p.a.any (makesB sm (makesL sm ps f out)) = false
  | 0, out, h => fun j _ _ _ => .inl (falses_none (show falses out = 0 by omega) j)
  | f + 1, out, h => by
    unfold makesL
    split
    · rename_i hb
      refine makesL_law' sm ps f _ ?_
      rcases mpass_less sm ps out ps.length with ⟨h1, _⟩ | ⟨_, h1⟩
      · rw [hb] at h1; cases h1
      · omega
    · rename_i hb
      obtain ⟨h1, h2⟩ := mpass_shut sm ps out ps.length (by simpa using hb)
      rw [h1]
      exact h2
/-- What the reference makes. -/
def iterR (sm : List Rng → Bool) (ps : List ProdS) : List Bool := iterM sm ps ps.length (List.replicate ps.length false)
theorem iterR_len (sm : List Rng → Bool) (ps : List ProdS) : (iterR sm ps).length = ps.length := by simp [iterR, iterM_eq, makesL_len]
theorem iterR_iff (sm : List Rng → Bool) (ps : List ProdS) (x : Nat) (hx : x < ps.length) : (iterR sm ps).getD x false = true ↔ Mak sm ps x := by
  have hlen := iterR_len sm ps
  unfold iterR at hlen ⊢
  rw [iterM_eq] at hlen ⊢
  constructor
  · exact makesL_mak sm ps _ _ (fun y hy => by
      rw [List.getD_eq_getElem?_getD] at hy
      by_cases h : y < ps.length
      · rw [List.getElem?_replicate, if_pos h] at hy; cases hy
      · rw [List.getElem?_replicate, if_neg h] at hy; cases hy) x
  · intro h
    refine h (fun y => (makesL sm ps ps.length (List.replicate ps.length false)).getD y false = true) (fun k p hp a ha hs => ?_)
    have hk : k < ps.length := (List.getElem?_eq_some_iff.1 hp).1
    have h2 := makesL_law' sm ps ps.length (List.replicate ps.length false) (by rw [falses_rep]; omega) k hk p hp
    generalize makesL sm ps ps.length (List.replicate ps.length false) = R at h2 hlen hs ⊢
    have hkl : k < R.length := by omega
    rcases h2 with h3 | h3
    · rw [List.getElem?_eq_getElem hkl] at h3
      show R.getD k false = true
      rw [List.getD_eq_getElem?_getD, List.getElem?_eq_getElem hkl]
      cases hv : R[k] with
      | true => rfl
      | false => rw [hv] at h3; exact absurd rfl h3
    · exfalso
      have : p.a.any (makesB sm R) = true := List.any_eq_true.2 ⟨a, ha, (makesB_iff _ _ _).2 hs⟩
      rw [h3] at this; cases this
theorem bools_eq {a b : List Bool} (hl : a.length = b.length) (h : ∀ x, x < a.length → (a.getD x false = true ↔ b.getD x false = true)) : a = b := by
  refine List.ext_getElem hl (fun i h1 h2 => ?_)
  have := h i h1
  rw [List.getD_eq_getElem?_getD, List.getD_eq_getElem?_getD, List.getElem?_eq_getElem h1, List.getElem?_eq_getElem h2] at this
  exact Bool.eq_iff_iff.2 (by simpa using this)
theorem iterR_eq (sm : List Rng → Bool) (ps : List ProdS) : iterR sm ps = makesF sm ps :=
  bools_eq (by rw [iterR_len, makesF_len]) (fun x hx => by rw [iterR_len] at hx; rw [iterR_iff sm ps x hx, makesF_iff sm ps x hx])

/-- One alternative of the reference: the bool at i is told anew. -/
def aStep (sm : List Rng → Bool) (p : ProdS) (i : Nat) (bs : List Bool) (j : Nat) : List Bool := match p.a[j]? with
  | some a => bs.set i (bs.getD i false || makesB sm bs a)
  | none => bs
def aSteps (sm : List Rng → Bool) (p : ProdS) (i : Nat) (bs : List Bool) (k : Nat) : List Bool := (List.range k).foldl (aStep sm p i) bs
theorem aSteps_succ (sm : List Rng → Bool) (p : ProdS) (i : Nat) (bs : List Bool) (k : Nat) : aSteps sm p i bs (k + 1) = aStep sm p i (aSteps sm p i bs k) k := by simp [aSteps, List.range_succ]
theorem aStep_at {sm : List Rng → Bool} {p : ProdS} {j : Nat} (h : j < p.a.length) (i : Nat) (bs : List Bool) : aStep sm p i bs j = bs.set i (bs.getD i false || makesB sm bs p.a[j]) := by
  unfold aStep
  rw [List.getElem?_eq_getElem h]
theorem aSteps_len (sm : List Rng → Bool) (p : ProdS) (i : Nat) (bs : List Bool) : ∀ k, (aSteps sm p i bs k).length = bs.length
  | 0 => rfl
  | k + 1 => by
    rw [aSteps_succ, ← aSteps_len sm p i bs k]
    unfold aStep
    split
    · simp
    · rfl
theorem set_self {bs : List Bool} {i : Nat} {b : Bool} (h : bs[i]? = some b) : bs.set i b = bs := by
  obtain ⟨hi, rfl⟩ := List.getElem?_eq_some_iff.1 h
  simp
theorem aSteps_law (sm : List Rng → Bool) (p : ProdS) (i : Nat) (bs : List Bool) (hi : i < bs.length) : ∀ k, k ≤ p.a.length → aSteps sm p i bs k = if bs[i]? = some false ∧ (p.a.take k).any (makesB sm bs) = true then bs.set i true else bs
  | 0, _ => by simp [aSteps]
  | k + 1, hk => by
    have hk' : k < p.a.length := by omega
    rw [aSteps_succ, aStep_at hk', aSteps_law sm p i bs hi k (by omega), List.take_add_one, List.getElem?_eq_getElem hk', List.any_append]
    have hb : bs[i]? = some bs[i] := List.getElem?_eq_getElem hi
    rw [hb]
    cases hv : bs[i] with
    | true =>
      simp only [Option.some.injEq, Bool.true_eq_false, false_and, if_false]
      have e : bs.getD i false = true := by rw [List.getD_eq_getElem?_getD, hb, hv]; rfl
      rw [e, Bool.true_or]
      exact set_self (by rw [hb, hv])
    | false =>
      simp only [true_and, Option.toList_some, List.any_cons, List.any_nil, Bool.or_false, Bool.or_eq_true]
      cases ha : (p.a.take k).any (makesB sm bs) with
      | true =>
        simp only [true_or, if_true]
        have e : (bs.set i true).getD i false = true := by rw [List.getD_eq_getElem?_getD, List.getElem?_set_self hi]; rfl
        rw [e, Bool.true_or]
        simp
      | false =>
        simp only [Bool.false_eq_true, false_or, if_false]
        have e : bs.getD i false = false := by rw [List.getD_eq_getElem?_getD, hb, hv]; rfl
        rw [e, Bool.false_or]
        cases hm : makesB sm bs p.a[k] with
        | true => simp
        | false => simp only [Bool.false_eq_true, if_false]; exact set_self (by rw [hb, hv])
theorem aSteps_mstep (sm : List Rng → Bool) {ps : List ProdS} {i : Nat} (hp : i < ps.length) (bs : List Bool) (f : Bool) (hi : i < bs.length) : aSteps sm ps[i] i bs ps[i].a.length = (mstep sm ps (bs, f) i).1 := by
  rw [aSteps_law sm ps[i] i bs hi _ (Nat.le_refl _), List.take_length]
  unfold mstep
  rw [List.getElem?_eq_getElem hp]
  simp only
  split <;> rfl
theorem mstep_fst (sm : List Rng → Bool) (ps : List ProdS) (bs : List Bool) (f g : Bool) (i : Nat) : (mstep sm ps (bs, f) i).1 = (mstep sm ps (bs, g) i).1 := by
  unfold mstep
  split
  · simp only
    split <;> rfl
  · rfl
/-- A row of bools, told from the first k. -/
def mrow (sm : List Rng → Bool) (ps : List ProdS) (bs : List Bool) (k : Nat) : List Bool := (mpass sm ps k (bs, false)).1
theorem mrow_zero (sm : List Rng → Bool) (ps : List ProdS) (bs : List Bool) : mrow sm ps bs 0 = bs := rfl
theorem mrow_succ (sm : List Rng → Bool) {ps : List ProdS} (bs : List Bool) {k : Nat} (hk : k < ps.length) (hl : bs.length = ps.length) : mrow sm ps bs (k + 1) = aSteps sm ps[k] k (mrow sm ps bs k) ps[k].a.length := by
  have h1 : (mrow sm ps bs k).length = ps.length := by unfold mrow; rw [mpass_len]; exact hl
  rw [aSteps_mstep sm hk _ (mpass sm ps k (bs, false)).2 (by rw [h1]; exact hk)]
  unfold mrow
  rw [mpass_succ]
theorem mrow_len (sm : List Rng → Bool) (ps : List ProdS) (bs : List Bool) (k : Nat) : (mrow sm ps bs k).length = bs.length := by unfold mrow; rw [mpass_len]
theorem iterM_len (sm : List Rng → Bool) (ps : List ProdS) (f : Nat) (bs : List Bool) : (iterM sm ps f bs).length = bs.length := by rw [iterM_eq, makesL_len]
theorem iterM_row (sm : List Rng → Bool) (ps : List ProdS) (f : Nat) (bs : List Bool) : iterM sm ps (f + 1) bs = mrow sm ps (iterM sm ps f bs) ps.length := iterM_succ sm ps f bs

/-- The symbols' nonterminals are marked. -/
def markS (is : List Bool) (s : SymS) : List Bool := if s.k = 2 then is.set s.n.toNat true else is
def markL (is : List Bool) (l : List SymS) : List Bool := l.foldl markS is
def markA (is : List Bool) (als : List (List SymS)) : List Bool := als.foldl markL is
def fstep (ps : List ProdS) (n : Nat) (is : List Bool) (i : Nat) : List Bool := match ps[i]? with
  | some p => if i = n ∨ is.getD i false = true then markA is p.a else is
  | none => is
def fpass (ps : List ProdS) (n k : Nat) (is : List Bool) : List Bool := (List.range k).foldl (fstep ps n) is
theorem fpass_succ (ps : List ProdS) (n k : Nat) (is : List Bool) : fpass ps n (k + 1) is = fstep ps n (fpass ps n k is) k := by simp [fpass, List.range_succ]
def fiter (ps : List ProdS) (n : Nat) : Nat → List Bool → List Bool
  | 0, is => is
  | f + 1, is => fpass ps n ps.length (fiter ps n f is)
/-- No shorter, and no fewer. -/
def Le (a b : List Bool) : Prop := a.length = b.length ∧ ∀ x, a.getD x false = true → b.getD x false = true
theorem Le.refl (a : List Bool) : Le a a := ⟨rfl, fun _ h => h⟩
theorem Le.trans {a b c : List Bool} (h : Le a b) (k : Le b c) : Le a c := ⟨h.1.trans k.1, fun x hx => k.2 x (h.2 x hx)⟩
theorem Le.anti {a b : List Bool} (h : Le a b) (k : Le b a) : a = b := bools_eq h.1 (fun x _ => ⟨h.2 x, k.2 x⟩)
theorem Le.falses : ∀ {a b : List Bool}, Le a b → falses b < falses a ∨ a = b
  | [], [], _ => .inr rfl
  | [], _ :: _, h => absurd h.1 (by simp)
  | _ :: _, [], h => absurd h.1 (by simp)
  | x :: a, y :: b, h => by
    have h1 : Le a b := ⟨by simpa using h.1, fun z hz => by have := h.2 (z + 1); simp at this; exact (by simpa using this (by simpa using hz))⟩
    have h2 : x = true → y = true := by have := h.2 0; simpa using this
    have ih := Le.falses h1
    have hle : Go.Proofs.YtacihjabkiedcaaGreatDoor.falses b ≤ Go.Proofs.YtacihjabkiedcaaGreatDoor.falses a := by
      rcases ih with h | rfl
      · omega
      · omega
    unfold Go.Proofs.YtacihjabkiedcaaGreatDoor.falses at *
    cases x <;> cases y <;> simp at h2 ⊢
    · rcases ih with h | rfl
      · exact .inl h
      · exact .inr rfl
    · omega
    · rcases ih with h | rfl
      · exact .inl h
      · exact .inr rfl
theorem getD_set_true (l : List Bool) (n x : Nat) : (l.set n true).getD x false = true ↔ (x = n ∧ n < l.length) ∨ l.getD x false = true := by
  rw [List.getD_eq_getElem?_getD, List.getD_eq_getElem?_getD]
  by_cases e : n = x
  · subst e
    by_cases h : n < l.length
    · rw [List.getElem?_set_self h]; simp [h]
    · rw [List.getElem?_eq_none (by simp; omega), List.getElem?_eq_none (by omega)]; simp [h]
  · rw [List.getElem?_set_ne e]
    constructor
    · exact .inr
    · rintro (⟨h, _⟩ | h)
      · exact absurd h.symm e
      · exact h
theorem markS_le (is : List Bool) (s : SymS) : Le is (markS is s) := by
  unfold markS
  split
  · exact ⟨by simp, fun x h => (getD_set_true _ _ _).2 (.inr h)⟩
  · exact Le.refl _
theorem markL_le : ∀ (l : List SymS) (is : List Bool), Le is (markL is l)
  | [], is => Le.refl _
  | s :: l, is => (markS_le is s).trans (markL_le l _)
theorem markA_le : ∀ (als : List (List SymS)) (is : List Bool), Le is (markA is als)
  | [], is => Le.refl _
  | a :: als, is => (markL_le a is).trans (markA_le als _)
theorem fstep_le (ps : List ProdS) (n : Nat) (is : List Bool) (i : Nat) : Le is (fstep ps n is i) := by
  unfold fstep
  split
  · split
    · exact markA_le _ _
    · exact Le.refl _
  · exact Le.refl _
theorem fpass_le (ps : List ProdS) (n : Nat) (is : List Bool) : ∀ k, Le is (fpass ps n k is)
  | 0 => Le.refl _
  | k + 1 => by rw [fpass_succ]; exact (fpass_le ps n is k).trans (fstep_le ps n _ k)
theorem fpass_mid (ps : List ProdS) (n : Nat) (is : List Bool) (k : Nat) : ∀ d, Le (fpass ps n k is) (fpass ps n (k + d) is)
  | 0 => Le.refl _
  | d + 1 => by rw [← Nat.add_assoc, fpass_succ]; exact (fpass_mid ps n is k d).trans (fstep_le ps n _ _)
theorem fiter_len (ps : List ProdS) (n : Nat) : ∀ f is, (fiter ps n f is).length = is.length
  | 0, is => rfl
  | f + 1, is => by
    unfold fiter
    rw [← (fpass_le ps n _ ps.length).1, fiter_len ps n f is]
theorem fiter_stable (ps : List ProdS) (n : Nat) : ∀ f is, falses (fiter ps n f is) + f ≤ falses is ∨ fpass ps n ps.length (fiter ps n f is) = fiter ps n f is
  | 0, is => .inl (by simp [fiter])
  | f + 1, is => by
    unfold fiter
    rcases fiter_stable ps n f is with h | h
    · rcases (fpass_le ps n (fiter ps n f is) ps.length).falses with h1 | h1
      · exact .inl (by omega)
      · right
        rw [← h1]
        exact h1.symm
    · right
      rw [h, h]
theorem fiter_fix (ps : List ProdS) (n f : Nat) (is : List Bool) (h : falses is ≤ f) : fpass ps n ps.length (fiter ps n f is) = fiter ps n f is := by
  rcases fiter_stable ps n f is with h1 | h1
  · rcases (fpass_le ps n (fiter ps n f is) ps.length).falses with h2 | h2
    · omega
    · exact h2.symm
  · exact h1
theorem markL_mem : ∀ (l : List SymS) (is : List Bool) (s : SymS), s ∈ l → s.k = 2 → s.n.toNat < is.length → (markL is l).getD s.n.toNat false = true
  | t :: l, is, s, hs, h2, hl => by
    show (markL (markS is t) l).getD _ _ = true
    rcases List.mem_cons.1 hs with rfl | hs
    · refine (markL_le l _).2 _ ?_
      unfold markS
      rw [if_pos h2]
      exact (getD_set_true _ _ _).2 (.inl ⟨rfl, hl⟩)
    · exact markL_mem l _ s hs h2 (by rw [← (markS_le is t).1]; exact hl)
theorem markA_mem : ∀ (als : List (List SymS)) (is : List Bool) (s : SymS), s ∈ als.flatten → s.k = 2 → s.n.toNat < is.length → (markA is als).getD s.n.toNat false = true
  | a :: als, is, s, hs, h2, hl => by
    show (markA (markL is a) als).getD _ _ = true
    rw [List.flatten_cons] at hs
    rcases List.mem_append.1 hs with hs | hs
    · exact (markA_le als _).2 _ (markL_mem a is s hs h2 hl)
    · exact markA_mem als _ s hs h2 (by rw [← (markL_le a is).1]; exact hl)
theorem markL_out (x : Nat) : ∀ (l : List SymS) (is : List Bool), (markL is l).getD x false = true → is.getD x false = true ∨ ∃ s ∈ l, s.k = 2 ∧ x = s.n.toNat
  | [], is, h => .inl h
  | t :: l, is, h => by
    rcases markL_out x l (markS is t) h with h | ⟨s, hs, h2⟩
    · unfold markS at h
      split at h
      · rename_i hk
        rcases (getD_set_true _ _ _).1 h with h | h
        · exact .inr ⟨t, List.mem_cons_self, hk, h.1⟩
        · exact .inl h
      · exact .inl h
    · exact .inr ⟨s, List.mem_cons_of_mem _ hs, h2⟩
theorem markA_out (x : Nat) : ∀ (als : List (List SymS)) (is : List Bool), (markA is als).getD x false = true → is.getD x false = true ∨ ∃ s ∈ als.flatten, s.k = 2 ∧ x = s.n.toNat
  | [], is, h => .inl h
  | a :: als, is, h => by
    rcases markA_out x als (markL is a) h with h | ⟨s, hs, h2⟩
    · rcases markL_out x a is h with h | ⟨s, hs, h2⟩
      · exact .inl h
      · exact .inr ⟨s, by rw [List.flatten_cons]; exact List.mem_append_left _ hs, h2⟩
    · exact .inr ⟨s, by rw [List.flatten_cons]; exact List.mem_append_right _ hs, h2⟩
/-- What is marked is within. -/
theorem fpass_out {ps : List ProdS} {n : Nat} {Z : Nat → Prop} (z0 : ∀ s, Nt ps n s → Z s.n.toNat) (z1 : ∀ m s, Z m → Nt ps m s → Z s.n.toNat) {is : List Bool} (h : ∀ x, is.getD x false = true → Z x) : ∀ k x, (fpass ps n k is).getD x false = true → Z x
  | 0, x, hx => h x hx
  | k + 1, x, hx => by
    rw [fpass_succ] at hx
    have ih := fpass_out z0 z1 h k
    unfold fstep at hx
    split at hx
    · rename_i p hp
      split at hx
      · rename_i hc
        rcases markA_out x _ _ hx with hx | ⟨s, hs, h2, rfl⟩
        · exact ih x hx
        · rcases hc with rfl | hc
          · exact z0 s ⟨p, hp, hs, h2⟩
          · exact z1 k s (ih k hc) ⟨p, hp, hs, h2⟩
      · exact ih x hx
    · exact ih x hx
theorem fiter_out {ps : List ProdS} {n : Nat} {Z : Nat → Prop} (z0 : ∀ s, Nt ps n s → Z s.n.toNat) (z1 : ∀ m s, Z m → Nt ps m s → Z s.n.toNat) {is : List Bool} (h : ∀ x, is.getD x false = true → Z x) : ∀ f x, (fiter ps n f is).getD x false = true → Z x
  | 0, x, hx => h x hx
  | f + 1, x, hx => fpass_out z0 z1 (fiter_out z0 z1 h f) ps.length x hx
theorem fpass_shut {ps : List ProdS} {n : Nat} {is : List Bool} (h : fpass ps n ps.length is = is) (hg : ∀ m s, Nt ps m s → 0 ≤ s.n ∧ s.n < ps.length) (hl : is.length = ps.length) (m : Nat) (hm : m = n ∨ is.getD m false = true) (s : SymS) (hs : Nt ps m s) : is.getD s.n.toNat false = true := by
  have hb := hg m s hs
  obtain ⟨p, hp, hsf, h2⟩ := hs
  have hmp : m < ps.length := (List.getElem?_eq_some_iff.1 hp).1
  have h1 := fpass_mid ps n is (m + 1) (ps.length - (m + 1))
  rw [show m + 1 + (ps.length - (m + 1)) = ps.length by omega, h, fpass_succ] at h1
  refine h1.2 _ ?_
  have h0 := fpass_le ps n is m
  unfold fstep
  rw [hp]
  simp only
  rw [if_pos (by rcases hm with h | h; exact .inl h; exact .inr (h0.2 _ h))]
  exact markA_mem _ _ s hsf h2 (by rw [← h0.1, hl]; omega)
theorem fiter_eq {ps : List ProdS} (hg : gmay ps = true) {n : Nat} (hn : n < ps.length) : fiter ps n ps.length (List.replicate ps.length false) = fromF ps n := by
  have hfix := fiter_fix ps n ps.length (List.replicate ps.length false) (by rw [falses_rep]; omega)
  have hlen : (fiter ps n ps.length (List.replicate ps.length false)).length = ps.length := by rw [fiter_len]; simp
  have hsh := fpass_shut hfix (gmay_nt hg) hlen
  have I := fromF_inv hn (Z := fun _ => True) (gmay_nt hg) (fun _ _ => trivial) (fun _ _ _ _ => trivial)
  have hgd : ∀ (l : List Bool) x, l[x]? = some true ↔ l.getD x false = true := fun l x => by
    rw [List.getD_eq_getElem?_getD]
    cases l[x]? <;> simp
  refine bools_eq (by rw [hlen, fromF_len]) (fun x _ => ⟨?_, ?_⟩)
  · refine fiter_out (Z := fun x => (fromF ps n).getD x false = true) (fun s hs => (hgd _ _).1 (I.shut n (.inr rfl) (by simp) s hs)) (fun m s hm hs => (hgd _ _).1 (I.shut m (.inl ((hgd _ _).2 hm)) (by simp) s hs)) (fun y hy => ?_) ps.length x
    rw [List.getD_eq_getElem?_getD, List.getElem?_replicate] at hy
    split at hy <;> cases hy
  · intro hx
    exact (fromF_inv hn (Z := fun x => (fiter ps n ps.length (List.replicate ps.length false)).getD x false = true) (gmay_nt hg) (fun s hs => hsh n (.inl rfl) s hs) (fun m s hm hs => hsh m (.inr hm) s hs)).out x ((hgd _ _).2 hx)
end Go.Proofs.YtacihjabkiedcaaGreatDoor
