/- Slices of ranges are put together: Grow, Concat; whether a number is of some range: has. -/
import Derived.Lib.AppendZeros
import Derived.Test.YtmfjddhckblbhaaGreatDoorM8
import Derived.BigQuiet
import Derived.IntWalk
set_option linter.unusedVariables false
set_option linter.unusedSimpArgs false
namespace Go.Proofs.YtmfjddhckblbhaaGreatDoor
open Go Go.RowKit Go.MapKept

/-- Ranges as an element. -/
def RngsRow (S : List Nat) (w : World) (l : List Rng) (row : Array Value) : Prop := ∃ A C, row = #[.slice A l.length C] ∧ SlOf RngRow S w 2 (.slice A l.length C) l
theorem rngsRow_stab : Stab RngsRow := by
  rintro S T S' w w' x row ⟨A, C, h1, h2⟩ K hT hS
  exact ⟨A, C, h1, SlOf.move h2 rngRow_stab (by omega) K hT hS⟩
theorem rngRow_one : OneC RngRow := by
  intro S w x row h u hu
  rw [show row = _ from h] at hu
  simp at hu
  rcases hu with rfl | rfl <;> rfl
def lensG {α : Type} (l : List (List α)) : Nat := (l.map List.length).sum
theorem lensG_take {α : Type} (l : List (List α)) (k : Nat) (h : k < l.length) : lensG (l.take (k + 1)) = lensG (l.take k) + l[k].length := by
  unfold lensG
  rw [List.take_succ_eq_append_getElem h]
  simp only [List.map_append, List.sum_append, List.map_cons, List.map_nil, List.sum_cons, List.sum_nil, Nat.add_zero]
theorem lensG_le {α : Type} (l : List (List α)) : ∀ k, lensG (l.take k) ≤ lensG l := by
  intro k
  unfold lensG
  conv => rhs; rw [← List.take_append_drop k l]
  simp only [List.map_append, List.sum_append]
  omega
theorem flatten_lenG {α : Type} (l : List (List α)) : l.flatten.length = lensG l := by simp [lensG, List.length_flatten]
set_option maxRecDepth 20000 in
set_option maxHeartbeats 1000000 in
theorem growR_any (n : Nat) (hn : n ≤ 1000000) (w : World) :
    Calls Tryz.prog 86 #[.slice none 0 0, .int .i64 n] w fun e w' => (∃ v, e = .returned v ∧ OwnL RngRow [] w' w.heap.size 44 2 v [] ∧ (0 < n → ∃ g cap, v = .slice (some ⟨g, 0, none⟩) 0 cap ∧ n ≤ cap)) ∧ Keep [] w w' := by
  obtain ⟨i0, hi0, hz0, hz1, hz2⟩ := info_parts info_rng
  by_cases h0 : 0 < n
  · have h0' : (0 : Int) < (n : Int) := by omega
    have hb : n * 16 ≤ 281474976710656 := by omega
    have hcap := grownCap_ge w n 0 44
    have hcm := grownCap_le_maxLen w n 0 44 (by unfold maxLen; omega)
    have hrun := fun ty => Lib.run_append_nil_zeros w 22 3 ty 44 i0 _ .i64 .i64 Tryz.underlying22 Tryz.underlying3 hi0 hz0 n h0 (by omega) (by omega) (by rw [hz2]; exact hb)
    have hown : (w.drew.alloc (.cells (Builtin.zeroCells (Value.agg #[.int .i64 0, .int .i64 0]).cells n ++ Builtin.zeroCells (Value.agg #[.int .i64 0, .int .i64 0]).cells (grownCap w n 0 44 - n)) 44)).ownsRow w.heap.size 44 2 (.slice (some ⟨w.heap.size, 0, none⟩) 0 (grownCap w n 0 44)) 0 [] := by
      refine ⟨rfl, .inr ⟨w.heap.size, _, _, rfl, Nat.le_refl _, heap_alloc_new w.drew _, by omega, hcm, ?_, by simp⟩⟩
      have e : (Value.agg #[.int .i64 0, .int .i64 0]).cells.size = 2 := rfl
      rw [Array.size_append, size_zeroCells, size_zeroCells, e, ← Nat.add_mul]
      congr 1
      omega
    have KD := ((Keep.refl [] w).drew).alloc (.cells (Builtin.zeroCells (Value.agg #[.int .i64 0, .int .i64 0]).cells n ++ Builtin.zeroCells (Value.agg #[.int .i64 0, .int .i64 0]).cells (grownCap w n 0 44 - n)) 44)
    have HO := Lib.hid hown
    have HR := Lib.hid hrun
    have HK := Lib.hid KD
    clear hown hrun KD
    generalize grownCap w n 0 44 = cap at HO HR HK hcap hcm
    generalize (w.drew.alloc (.cells (Builtin.zeroCells (Value.agg #[.int .i64 0, .int .i64 0]).cells n ++ Builtin.zeroCells (Value.agg #[.int .i64 0, .int .i64 0]).cells (cap - n)) 44)) = W at HO HR HK
    unfold maxLen at hcm
    go_enter Tryz.func86, Tryz.ntmps86
    go_wp2_with (at_builtin; refine Lib.wpList_append_run w rfl _ _ 22 3 rfl (.slice none 0 0) (.int .i64 n) rfl rfl _ _ (HR.out _) ?_)
    go_ret
    exact ⟨⟨_, rfl, ⟨[], rfl, HO.out, fun i hi => absurd hi (by simp)⟩, fun _ => ⟨_, _, rfl, hcap⟩⟩, HK.out⟩
  · obtain rfl : n = 0 := by omega
    go_enter Tryz.func86, Tryz.ntmps86
    go_wp2
    go_ret
    exact ⟨⟨_, rfl, OwnL.nil _ _ _ _ _, fun h => absurd h (by omega)⟩, Keep.refl _ _⟩
set_option maxRecDepth 20000 in
set_option maxHeartbeats 2000000 in
theorem concatR_any (S : List Nat) (v : Value) (l : List (List Rng)) (w : World) (H : SlOf RngsRow S w 1 v l) (hN : lensG l ≤ 1000000) (hS : ∀ b ∈ S, b < w.heap.size) :
    Calls Tryz.prog 62 #[v] w fun e w' => (∃ v', e = .returned v' ∧ SlOf RngRow S w' 2 v' l.flatten ∧ ∀ b ∈ ownB v', w.heap.size ≤ b) ∧ Keep [] w w' := by
  obtain ⟨A, C, rfl, hm, hr⟩ := SlOf.at H
  obtain ⟨iR, hiR, _, _, _⟩ := info_parts info_rng
  have hml := hm.1
  go_enter Tryz.func62, Tryz.ntmps62
  go_wp2
  go_loop [3, 11] (fun sz i => ∃ k : Nat, k ≤ l.length ∧ i = .int .i64 k ∧ sz = .int .i64 (lensG (l.take k) : Nat)) (fun _ i => l.length - (intOf i).toNat)
  case atStart => exact ⟨0, by omega, rfl, by simp [lensG]⟩
  case round =>
    obtain ⟨k, hk, rfl, rfl⟩ := hrel
    have hl1 := lensG_le l k
    by_cases hlt : k < l.length
    · have hlt' : (k : Int) < (l.length : Int) := by omega
      have hl2 := lensG_le l (k + 1)
      have hlk := lensG_take l k hlt
      have hlk2 : lensG (l.take k) + l[k].length ≤ 1000000 := by omega
      have HLK := Lib.hid hlk; clear hlk hl2
      have HLT := Lib.hid hlt
      obtain ⟨b, o, rfl, hb, hc⟩ := hr (by omega)
      obtain ⟨row, hz, hcell, hR⟩ := hc k hlt
      obtain ⟨A2, C2, rfl, hR2⟩ := hR
      have e0 := hcell 0 (by omega)
      clear hc hr hcell hz H
      simp at e0
      go_wp2
      go_round
      case rel => exact ⟨k + 1, by have := HLT.out; omega, by go_num, by rw [HLK.out]; go_num⟩
      case measure => simp [intOf]; have := HLT.out; omega
    · obtain rfl : k = l.length := by omega
      rw [List.take_length]
      clear hl1
      have HR := Lib.hid hr; clear hr
      have HH := Lib.hid H; clear H
      go_wp2_with fail
      refine (growR_any (lensG l) hN w).mono ?_
      rintro e w1 ⟨⟨v1, rfl, hO1, hroom⟩, K1⟩
      have hT0 : Keep [] w w1 ∧ OwnL RngRow S w1 w.heap.size 44 2 v1 (l.take 0).flatten ∧ (0 < lensG l → ∃ g cap, v1 = .slice (some ⟨g, 0, none⟩) (l.take 0).flatten.length cap ∧ lensG l ≤ cap) := ⟨K1, by
        obtain ⟨rows, h1, h2, h3⟩ := hO1
        exact ⟨rows, h1, h2, fun i hi => absurd hi (by simp)⟩, hroom⟩
      have HT0 := Lib.hid hT0
      clear hT0 hO1 hroom K1
      go_wp2
      go_loopw [6, 27] (fun vk i wr => ∃ k : Nat, k ≤ l.length ∧ i = .int .i64 k ∧ Keep [] w wr ∧ OwnL RngRow S wr w.heap.size 44 2 vk (l.take k).flatten ∧ (0 < lensG l → ∃ g cap, vk = .slice (some ⟨g, 0, none⟩) (l.take k).flatten.length cap ∧ lensG l ≤ cap)) (fun _ i _ => l.length - (intOf i).toNat)
      case atStart => exact ⟨0, by omega, rfl, HT0.out⟩
      case round =>
        clear HT0
        obtain ⟨k, hk, rfl, K2, hO2, hroom2⟩ := hrel
        by_cases hlt : k < l.length
        · have hlt' : (k : Int) < (l.length : Int) := by omega
          have HLT := Lib.hid hlt
          have hl2 := lensG_le l (k + 1)
          have hlk := lensG_take l k hlt
          have htk : (l.take (k + 1)).flatten = (l.take k).flatten ++ l[k] := by rw [List.take_succ_eq_append_getElem hlt, List.flatten_append]; simp only [List.flatten_cons, List.flatten_nil, List.append_nil]; rfl
          have HTK := Lib.hid htk; clear htk
          have hfl := flatten_lenG (l.take k)
          obtain ⟨b, o, rfl, hb, hc⟩ := HR.out (by omega)
          obtain ⟨row, hz, hcell, hR⟩ := hc k hlt
          obtain ⟨A2, C2, rfl, hR2⟩ := hR
          have e0 := hcell 0 (by omega)
          simp at e0
          have e0 := K2.cell e0 (by simp)
          have hlow := hO2.base
          have hR3 : SlOf RngRow (ownB u6 ++ S) wr 2 (.slice A2 l[k].length C2) l[k] := SlOf.move hR2 rngRow_stab (by omega) K2 (by simp) (fun x hx => by
            rcases List.mem_append.1 hx with h | h
            · exact .inr (hlow x h).1
            · exact .inl h)
          clear hc hcell hz hR2
          obtain ⟨A4, C4, hv4⟩ := hO2.slice
          subst hv4
          obtain ⟨rows2, hs2, hlr2, hel2⟩ := hR3
          generalize l[k] = lk at e0 hs2 hlr2 hel2 HTK hlk
          have hlk2 : (l.take k).flatten.length + lk.length ≤ lensG l := by omega
          clear hlk hl2 hfl
          generalize (l.take k).flatten = acc at hO2 hroom2 HTK hlk2
          by_cases h0 : lk.length = 0
          · obtain rfl : lk = [] := List.eq_nil_of_length_eq_zero h0
            have hcap : acc.length ≤ C4 := by
              obtain ⟨rows, h1, h2, h3⟩ := hO2
              rcases h2.2 with ⟨_, h4⟩ | ⟨g, cap, cur, hv, _, _, h4, _⟩
              · omega
              · simp only [Value.slice.injEq] at hv; omega
            have hrun := fun w ty => run_append_none' (ty := ty) Tryz.underlying22 hiR w A4 acc.length C4 A2 C2 hcap
            have HRUN := Lib.hid hrun
            have HFIN : Hid (OwnL RngRow S wr w.heap.size 44 2 (.slice A4 acc.length C4) (l.take (k + 1)).flatten ∧ (0 < lensG l → ∃ g cap, (Value.slice A4 acc.length C4) = .slice (some ⟨g, 0, none⟩) (l.take (k + 1)).flatten.length cap ∧ lensG l ≤ cap)) := Lib.hid (by rw [HTK.out, List.append_nil]; exact ⟨hO2, hroom2⟩)
            clear hrun hs2 hlr2 hel2 hroom2 hO2 h0
            go_wp2_with (at_builtin; refine Lib.wpList_append_run wr rfl _ _ 22 22 rfl (.slice A4 acc.length C4) (.slice A2 0 C2) rfl rfl _ _ (HRUN.out _ _) ?_)
            go_roundw
            case rel => exact ⟨k + 1, by have := HLT.out; omega, by go_num, K2, HFIN.out⟩
            case measure => simp [intOf]; have := HLT.out; omega
          · obtain ⟨g, cap, hv, hcap⟩ := hroom2 (by omega)
            simp only [Value.slice.injEq, true_and] at hv
            obtain ⟨rfl, rfl⟩ := hv
            obtain ⟨rows, hlr, hown, hel⟩ := hO2
            have hsz2 : rows2.length = lk.length := hlr2
            rw [← hsz2] at h0 e0
            have hs2' := hs2
            obtain ⟨a5, c5, hv5, hm5, hr5⟩ := hs2'
            rw [← hsz2] at hv5 hs2
            simp only [Value.slice.injEq, true_and] at hv5
            obtain ⟨rfl, rfl⟩ := hv5
            obtain ⟨b5, o5, rfl, hb5, hc5⟩ := hr5 (Nat.pos_of_ne_zero h0)
            have hrs : ∀ i (h : i < rows2.length), rows2[i].size = 2 := fun i hi => (hc5 i hi).1
            have hnews := Sl.news (by omega) hs2
            have hone : ∀ u ∈ rows2.flatMap Array.toList, u.oneCell' = true := fun u hu => by
              obtain ⟨x, hx, hu⟩ := List.mem_flatMap.1 hu
              obtain ⟨i, hi, rfl⟩ := List.getElem_of_mem hx
              exact rngRow_one _ _ _ _ (hel2 i (by omega) hi) u hu
            have hnl := flat_len 2 rows2 hrs
            rw [hsz2] at hnl
            have HSZ := Lib.hid hsz2
            obtain ⟨i0, hi0, hz0, hz1, hz2⟩ := info_parts info_rng
            have HS := Lib.hid hnews
            have HONE := Lib.hid hone
            have HNL := Lib.hid hnl
            have HEL := Lib.hid hel
            have HEL2 := Lib.hid hel2
            have HRS := Lib.hid hrs
            clear hnews hone hnl hel hel2 hrs hroom2 hr5 hc5 hs2
            rw [hsz2] at e0
            clear hsz2
            go_wp2_with (at_builtin; go_loud (refine wpList_append_fits wr rfl _ _ 22 rfl w.heap.size 44 i0 2 Tryz.underlying22 hi0 hz1 g acc.length C4 _ rfl hown ⟨b5, o5, none⟩ lk.length _ (rows2.flatMap Array.toList) rfl HNL.out HS.out HONE.out (by omega) ?_); intro w5 O5 G5)
            have hvl : rows2.length = lk.length := HSZ.out
            have KG := Keep.ofGrown (v := .slice (some ⟨g, 0, none⟩) acc.length C4) G5
            have hO5 := OwnL.appendL (S := S) (v := .slice (some ⟨g, 0, none⟩) acc.length C4) rows hlr HEL.out rngRow_stab rows2 hvl (fun i hi hi' => ⟨HRS.out i hi', HEL2.out i hi hi'⟩) O5 G5 (.inl rfl)
            have hacc : (l.take (k + 1)).flatten = acc ++ lk := HTK.out
            have HFIN : Hid (OwnL RngRow S w5 w.heap.size 44 2 (.slice (some ⟨g, 0, none⟩) (acc.length + lk.length) C4) (l.take (k + 1)).flatten ∧ (0 < lensG l → ∃ g' cap', (Value.slice (some ⟨g, 0, none⟩) (acc.length + lk.length) C4) = .slice (some ⟨g', 0, none⟩) (l.take (k + 1)).flatten.length cap' ∧ lensG l ≤ cap')) := Lib.hid (by
              rw [hacc]
              exact ⟨hO5, fun _ => ⟨g, C4, by rw [List.length_append], hcap⟩⟩)
            have K5 := K2.then KG (fun b hb => .inr (hlow b hb).1)
            clear O5 G5 KG hO5 hown hacc
            go_wp2
            go_roundw
            case rel => exact ⟨k + 1, by have := HLT.out; omega, by go_num, K5, HFIN.out⟩
            case measure => simp [intOf]; have := HLT.out; omega
        · obtain rfl : k = l.length := by omega
          rw [List.take_length] at hO2
          have hlow := hO2.base
          have hrd : SlOf RngRow S wr 2 u6 l.flatten := hO2.read rngRow_stab (fun b hb => .inl hb) (fun b hb hb' => by have := (hlow b hb).1; have := hS b hb'; omega)
          have HRD := Lib.hid hrd
          clear hrd hroom2
          go_wp2
          go_ret
          exact ⟨⟨_, rfl, HRD.out, fun b hb => (hlow b hb).1⟩, K2⟩
set_option maxHeartbeats 2000000 in
theorem setIndex_any (S : List Nat) (v : Value) (l : List (Rng)) (g : Nat) (cap : Array Value) (pr : Rng → Bool) (w : World) (H : SlOf RngRow S w 2 v l) (hp : Pred RngRow S w g cap (fun row => .agg row) pr) :
    Calls Tryz.prog 99 #[v, .func (.func g) #[] cap] w fun e w' => (∃ i : Int, e = .returned (.int .i64 i) ∧ decide (0 ≤ i) = l.any pr) ∧ Keep [] w w' := by
  obtain ⟨hg, hp⟩ := hp
  obtain ⟨A, C, rfl, hm, hr⟩ := SlOf.at H
  go_enter Tryz.func99, Tryz.ntmps99
  go_wp2
  go_loopw [5, 8] (fun _ i wr => ∃ k : Nat, k ≤ l.length ∧ i = .int .i64 k ∧ Hid (∀ j (hj : j < k) (hl : j < l.length), pr l[j] = false) ∧ Keep [] w wr) (fun _ i _ => l.length - (intOf i).toNat)
  case atStart => exact ⟨0, by omega, rfl, Lib.hid (fun j hj => by omega), Keep.refl _ _⟩
  case round =>
    obtain ⟨k, hk, rfl, hn, Kr⟩ := hrel
    by_cases hlt : k < l.length
    · have hlt' : (k : Int) < (l.length : Int) := by omega
      have HW : SlOf RngRow S wr 2 (.slice A l.length C) l := SlOf.move H rngRow_stab (by omega) Kr (by simp) (fun x hx => .inl hx)
      obtain ⟨A2, C2, hv, _, hr2⟩ := SlOf.at HW
      simp only [Value.slice.injEq, true_and] at hv
      obtain ⟨rfl, rfl⟩ := hv
      obtain ⟨b, o, rfl, hb, hc⟩ := hr2 (by omega)
      obtain ⟨row, hz, hcell, hR⟩ := hc k hlt
      have hR' := hR
      have hR3 : True := trivial
      subst hR'
      have e0 := hcell 0 (by omega)
      have e1 := hcell 1 (by omega)
      have hcall := hp l[k] _ wr Kr hR
      clear hr hr2 hc hcell hp HW hR hR3 H
      simp at e0 e1
      have HLT := Lib.hid hlt
      go_wp2
      refine hcall.mono ?_
      rintro e w2 ⟨rfl, K2⟩
      have hlt := HLT.out
      cases hq : pr l[k]
      · have hn2 : Hid (∀ j (hj : j < k + 1) (hl : j < l.length), pr l[j] = false) := Lib.hid (fun j hj hl => by
          by_cases e : j = k
          · subst e; exact hq
          · exact hn.out j (by omega) hl)
        clear e0 e1 hcall hn
        go_wp2
        go_roundw
        case rel => exact ⟨k + 1, by omega, by go_num, hn2, Kr.trans K2⟩
        case measure => simp [intOf]; omega
      · have hany : l.any pr = true := List.any_eq_true.2 ⟨l[k], List.getElem_mem _, hq⟩
        clear e0 e1 hcall hn
        go_wp2
        go_ret
        exact ⟨⟨k, rfl, by rw [hany]; simp⟩, Kr.trans K2⟩
    · have hany : l.any pr = false := by
        rw [List.any_eq_false]
        intro x hx
        obtain ⟨j, hj, rfl⟩ := List.getElem_of_mem hx
        simp [hn.out j (by omega) hj]
      go_wp2
      go_ret
      exact ⟨⟨-1, rfl, by rw [hany]; rfl⟩, Kr⟩
set_option maxHeartbeats 2000000 in
theorem setContains_any (S : List Nat) (v : Value) (l : List (Rng)) (g : Nat) (cap : Array Value) (pr : Rng → Bool) (w : World) (H : SlOf RngRow S w 2 v l) (hp : Pred RngRow S w g cap (fun row => .agg row) pr) :
    Calls Tryz.prog 83 #[v, .func (.func g) #[] cap] w fun e w' => e = .returned (.bool (l.any pr)) ∧ Keep [] w w' := by
  go_enter Tryz.func83, Tryz.ntmps83
  go_wp2_with fail
  refine (setIndex_any S v l g cap pr w H hp).mono ?_
  rintro e w1 ⟨⟨i, rfl, hi⟩, K⟩
  go_wp2
  go_ret
  exact ⟨by rw [← hi]; rfl, K⟩

/-- Is a number of one range? -/
def inR (n : Int) (r : Rng) : Bool := decide (r.lo ≤ n) && decide (n ≤ r.hi)
/-- Is a number of some? -/
def hasR (l : List Rng) (n : Int) : Bool := l.any (inR n)
set_option maxHeartbeats 2000000 in
theorem has1_any (nb : Nat) (n : Int) (S : List Nat) (r : Rng) (row : Array Value) (w : World) (h0 : w.cell? ⟨nb, 0, none⟩ = some (.int .i64 n)) (H : RngRow S w r row) :
    Calls Tryz.prog 84 #[.agg row, .pointer (some ⟨nb, 0, none⟩)] w fun e w' => e = .returned (.bool (inR n r)) ∧ Keep [] w w' := by
  have hlt : nb < w.heap.size := World.block_lt_of_cell? w _ h0
  rw [show row = _ from H]
  obtain ⟨lo, hi⟩ := r
  have hr : inR n ⟨lo, hi⟩ = (decide (lo ≤ n) && decide (n ≤ hi)) := rfl
  rw [hr]
  clear hr H
  cases h1 : decide (lo ≤ n) with
  | true =>
    cases h2 : decide (n ≤ hi)
    all_goals
      go_enter Tryz.func84, Tryz.ntmps84
      go_wp2
      first | (go_ret; exact ⟨rfl, (Keep.refl _ _).alloc _⟩) | (go_quiet (fail); go_wp2; go_ret; exact ⟨rfl, ((Keep.refl _ _).alloc _).drewN _⟩)
  | false =>
    go_enter Tryz.func84, Tryz.ntmps84
    go_wp2
    first | (go_ret; exact ⟨rfl, (Keep.refl _ _).alloc _⟩) | (go_quiet (fail); go_wp2; go_ret; exact ⟨rfl, ((Keep.refl _ _).alloc _).drewN _⟩)
set_option maxHeartbeats 2000000 in
theorem has_any (S : List Nat) (A : Option Addr) (m C : Nat) (l : List Rng) (n : Int) (w : World) (H : SlOf RngRow S w 2 (.slice A m C) l) :
    Calls Tryz.prog 59 #[.slice A m C, .int .i64 n] w fun e w' => e = .returned (.bool (hasR l n)) ∧ Keep [] w w' := by
  have K0 := (Keep.refl [] w).alloc (.cells #[.int .i64 n] 3)
  have B0 := Blk.new w #[.int .i64 n] 3
  have hp : Pred RngRow S _ 84 #[.pointer (some ⟨w.heap.size, 0, none⟩)] (fun row => .agg row) (inR n) :=
    ⟨fun _ _ => by kernel_rfl, fun r row w' K h => has1_any w.heap.size n S r row w' ((B0.keep K (by simp)).cell 0) h⟩
  have HC := Lib.hid (setContains_any S (.slice A m C) l _ _ _ _ (SlOf.move H rngRow_stab (by omega) K0 (by simp) (fun x hx => .inl hx)) hp)
  have hmf : ∀ (fn : Fn) (first cap : Array Value) (w : World), (Instr.makeFunc fn first cap).run Tryz.prog w = .ok (.func fn first cap) w := fun _ _ _ _ => rfl
  clear hp H B0
  go_enter Tryz.func59, Tryz.ntmps59
  go_wp2_with fail
  refine HC.out.mono ?_
  rintro e w1 ⟨rfl, K1⟩
  go_wp2
  go_ret
  exact ⟨rfl, K0.trans K1⟩
end Go.Proofs.YtmfjddhckblbhaaGreatDoor
namespace Go.Proofs.YtmfjddhckblbhaaGreatDoor
open Go Go.RowKit

def loB (r : Rng) : Int := min (max r.lo 0) 1114112
def hiB (r : Rng) : Int := min (max r.hi (-1)) 1114111 + 1
def pts (l : List Rng) : List Int := [0, 1114112] ++ l.flatMap fun r => [loB r, hiB r]
/-- The places, rising, each once. -/
def bordF (l : List Rng) : List Int := compI (sortI (pts l))
theorem bordF_mem (l : List Rng) (z : Int) : z ∈ bordF l ↔ z ∈ pts l := by
  have hs : ∀ z, z ∈ sortI (pts l) ↔ z ∈ pts l := fun z => by unfold sortI; exact List.mem_mergeSort
  constructor
  · intro h
    exact (hs z).1 ((compI_sub _).2 z h)
  · intro h
    exact compI_mem _ _ ((hs z).2 h)
theorem bordF_rise (l : List Rng) : (bordF l).Pairwise (fun a b => a < b) := compI_strict _ (sortI_sorted _)
theorem pts_in (l : List Rng) : ∀ z ∈ pts l, 0 ≤ z ∧ z ≤ 1114112 := by
  intro z hz
  unfold pts at hz
  rcases List.mem_append.1 hz with h | h
  · simp at h
    rcases h with rfl | rfl <;> omega
  · obtain ⟨r, _, h⟩ := List.mem_flatMap.1 h
    simp [loB, hiB] at h
    rcases h with h | h <;> omega
theorem rise_at {xs : List Int} (h : xs.Pairwise (fun a b => a < b)) {i j : Nat} (hj : j < xs.length) (hij : i < j) : xs[i]'(by omega) < xs[j] := List.pairwise_iff_getElem.1 h i j (by omega) hj hij
theorem bordF_first (l : List Rng) : ∃ h : 0 < (bordF l).length, (bordF l)[0] = 0 := by
  have h0 : (0 : Int) ∈ bordF l := (bordF_mem l 0).2 (by simp [pts])
  obtain ⟨i, hi, he⟩ := List.getElem_of_mem h0
  refine ⟨by omega, ?_⟩
  by_cases e : i = 0
  · subst e; exact he
  · have h1 := rise_at (bordF_rise l) hi (Nat.pos_of_ne_zero e)
    have h2 := (pts_in l _ ((bordF_mem l _).1 (List.getElem_mem (by omega : 0 < (bordF l).length)))).1
    omega
theorem bordF_last (l : List Rng) : ∃ h : 1 < (bordF l).length, (bordF l)[(bordF l).length - 1]'(by omega) = 1114112 := by
  have h0 : (1114112 : Int) ∈ bordF l := (bordF_mem l _).2 (by simp [pts])
  obtain ⟨i, hi, he⟩ := List.getElem_of_mem h0
  obtain ⟨hp, hf⟩ := bordF_first l
  have hi0 : i ≠ 0 := by intro e; subst e; omega
  refine ⟨by omega, ?_⟩
  by_cases e : i = (bordF l).length - 1
  · subst e; exact he
  · have h1 := rise_at (bordF_rise l) (by omega : (bordF l).length - 1 < (bordF l).length) (by omega : i < (bordF l).length - 1)
    have h2 := (pts_in l _ ((bordF_mem l _).1 (List.getElem_mem (by omega : (bordF l).length - 1 < (bordF l).length)))).2
    omega
/-- Between two places that follow one another there is none. -/
theorem rise_next {xs : List Int} (h : xs.Pairwise (fun a b => a < b)) {k : Nat} (hk : k + 1 < xs.length) {x : Int} (hx : x ∈ xs) (h1 : xs[k] < x) : xs[k + 1] ≤ x := by
  obtain ⟨j, hj, rfl⟩ := List.getElem_of_mem hx
  by_cases e : j ≤ k
  · exfalso
    by_cases e2 : j = k
    · subst e2; omega
    · have := rise_at h (by omega : k < xs.length) (by omega : j < k)
      omega
  · by_cases e2 : j = k + 1
    · subst e2; exact Int.le_refl _
    · have := rise_at h hj (by omega : k + 1 < j)
      omega
theorem bordF_const (l : List Rng) {k : Nat} (hk : k + 1 < (bordF l).length) {n : Int} (h1 : (bordF l)[k] ≤ n) (h2 : n < (bordF l)[k + 1]) {r : Rng} (hr : r ∈ l) : inR n r = inR (bordF l)[k] r := by
  have hb := pts_in l
  have h3 := hb _ ((bordF_mem l _).1 (List.getElem_mem (by omega : k < (bordF l).length)))
  have h4 := hb _ ((bordF_mem l _).1 (List.getElem_mem hk))
  have hlo : loB r ∈ bordF l := (bordF_mem l _).2 (List.mem_append_right _ (List.mem_flatMap.2 ⟨r, hr, by simp⟩))
  have hhi : hiB r ∈ bordF l := (bordF_mem l _).2 (List.mem_append_right _ (List.mem_flatMap.2 ⟨r, hr, by simp⟩))
  have e1 : r.lo ≤ n ↔ r.lo ≤ (bordF l)[k] := by
    constructor
    · intro h
      by_cases hc : r.lo ≤ (bordF l)[k]
      · exact hc
      · exfalso
        have he : loB r = r.lo := by unfold loB; omega
        have := rise_next (bordF_rise l) hk hlo (by omega)
        omega
    · intro h; omega
  have e2 : n ≤ r.hi ↔ (bordF l)[k] ≤ r.hi := by
    constructor
    · intro h; omega
    · intro h
      by_cases hc : n ≤ r.hi
      · exact hc
      · exfalso
        have he : hiB r = r.hi + 1 := by unfold hiB; omega
        have := rise_next (bordF_rise l) hk hhi (by omega)
        omega
  unfold inR
  rw [decide_eq_decide.2 e1, decide_eq_decide.2 e2]
theorem hasR_const (l a : List Rng) (ha : ∀ r ∈ a, r ∈ l) {k : Nat} (hk : k + 1 < (bordF l).length) {n : Int} (h1 : (bordF l)[k] ≤ n) (h2 : n < (bordF l)[k + 1]) : hasR a n = hasR a (bordF l)[k] := by
  unfold hasR
  rw [Bool.eq_iff_iff, List.any_eq_true, List.any_eq_true]
  constructor
  · rintro ⟨r, hr, h⟩
    exact ⟨r, hr, by rw [← bordF_const l hk h1 h2 (ha r hr)]; exact h⟩
  · rintro ⟨r, hr, h⟩
    exact ⟨r, hr, by rw [bordF_const l hk h1 h2 (ha r hr)]; exact h⟩
/-- One more pair of places. -/
def pickStep (is : Int → Bool) (out : List Rng) (fr up : Int) : List Rng := if is fr = true then (match out.getLast? with
  | some r => if r.hi = fr - 1 then out.dropLast ++ [⟨r.lo, up⟩] else out ++ [⟨fr, up⟩]
  | none => [⟨fr, up⟩]) else out
def pickF (is : Int → Bool) (xs : List Int) : Nat → List Rng
  | 0 => []
  | k + 1 => pickStep is (pickF is xs k) (xs.getD k 0) (xs.getD (k + 1) 0 - 1)
/-- Ranges in order, with a number between. -/
def OrdR (l : List Rng) : Prop := (∀ r ∈ l, 0 ≤ r.lo ∧ r.lo ≤ r.hi ∧ r.hi ≤ 1114111) ∧ l.Pairwise (fun a b => a.hi + 1 < b.lo)
theorem hasR_append (a b : List Rng) (n : Int) : hasR (a ++ b) n = (hasR a n || hasR b n) := by simp [hasR, List.any_append]
theorem hasR_one (r : Rng) (n : Int) : hasR [r] n = inR n r := by simp [hasR]
theorem pick_law (is : Int → Bool) (xs : List Int) (hr : xs.Pairwise (fun a b => a < b)) (hb : ∀ z ∈ xs, 0 ≤ z ∧ z ≤ 1114112) (h0 : ∀ h : 0 < xs.length, xs[0] = 0)
    (hc : ∀ (k : Nat) (hk : k + 1 < xs.length) (n : Int), xs[k] ≤ n → n < xs[k + 1] → is n = is xs[k]) : ∀ (k : Nat) (hk : k < xs.length), OrdR (pickF is xs k) ∧ (∀ r ∈ pickF is xs k, r.hi < xs[k]) ∧ ∀ n, hasR (pickF is xs k) n = (decide (0 ≤ n) && decide (n < xs[k]) && is n)
  | 0, hk => by
    refine ⟨⟨by simp [pickF], by simp [pickF]⟩, by simp [pickF], fun n => ?_⟩
    rw [h0 hk]
    have : (decide (0 ≤ n) && decide (n < 0)) = false := by
      rw [Bool.and_eq_false_iff]
      by_cases h : 0 ≤ n
      · exact .inr (decide_eq_false (by omega))
      · exact .inl (decide_eq_false h)
    rw [this]
    simp [pickF, hasR]
  | k + 1, hk => by
    obtain ⟨⟨i1, i2⟩, i3, i4⟩ := pick_law is xs hr hb h0 hc k (by omega)
    have hlt := rise_at hr hk (Nat.lt_succ_self k)
    have hb1 := hb _ (List.getElem_mem (by omega : k < xs.length))
    have hb2 := hb _ (List.getElem_mem hk)
    have hck := hc k hk
    have e1 : xs.getD k 0 = xs[k] := by simp [List.getD, (by omega : k < xs.length)]
    have e2 : xs.getD (k + 1) 0 = xs[k + 1] := by simp [List.getD, hk]
    rw [pickF, e1, e2]
    generalize pickF is xs k = R at i1 i2 i3 i4
    generalize xs[k] = fr at hlt hb1 hck i3 i4
    generalize xs[k + 1] = up at hlt hb2 hck
    unfold pickStep
    cases hf : is fr with
    | false =>
      rw [if_neg (by simp)]
      refine ⟨⟨i1, i2⟩, fun r h => by have := i3 r h; omega, fun n => ?_⟩
      rw [i4 n]
      by_cases h1 : n < fr
      · simp [h1, show n < up by omega]
      · by_cases h2 : n < up
        · rw [hck n (by omega) h2, hf]; simp
        · simp [h1, h2]
    | true =>
      rw [if_pos rfl]
      have hmem : ∀ n, (decide (0 ≤ n) && decide (n < up) && is n) = ((decide (0 ≤ n) && decide (n < fr) && is n) || inR n ⟨fr, up - 1⟩) := by
        intro n
        unfold inR
        by_cases h1 : n < fr
        · simp [h1, show n < up by omega, show ¬ fr ≤ n by omega]
        · by_cases h2 : n < up
          · rw [hck n (by omega) h2, hf]
            simp [h1, h2, show 0 ≤ n by omega, show fr ≤ n by omega, show n ≤ up - 1 by omega]
          · simp [h1, h2, show ¬ n ≤ up - 1 by omega]
      cases hl : R.getLast? with
      | none =>
        have hR : R = [] := List.getLast?_eq_none_iff.1 hl
        subst hR
        refine ⟨⟨?_, by simp⟩, ?_, fun n => ?_⟩
        · intro r h
          simp at h; subst h
          exact ⟨by simp only; omega, by simp only; omega, by simp only; omega⟩
        · intro r h
          simp at h; subst h
          simp only; omega
        · rw [hmem n, ← i4 n]
          simp [hasR]
      | some r =>
        obtain ⟨R', hR⟩ := List.getLast?_eq_some_iff.1 hl
        subst hR
        have j1 := i1 r (by simp)
        have j3 := i3 r (by simp)
        rw [List.pairwise_append] at i2
        obtain ⟨p1, _, p3⟩ := i2
        by_cases hh : r.hi = fr - 1
        · simp only
          rw [if_pos hh, List.dropLast_concat]
          refine ⟨⟨fun q h => ?_, ?_⟩, fun q h => ?_, fun n => ?_⟩
          · rcases List.mem_append.1 h with h | h
            · exact i1 q (by simp [h])
            · simp at h; subst h; exact ⟨j1.1, by simp only; omega, by simp only; omega⟩
          · rw [List.pairwise_append]
            exact ⟨p1, by simp, fun a ha b hb => by simp at hb; subst hb; exact p3 a ha r (by simp)⟩
          · rcases List.mem_append.1 h with h | h
            · have := i3 q (by simp [h]); omega
            · simp at h; subst h; simp only; omega
          · rw [hmem n, ← i4 n, hasR_append, hasR_append, hasR_one, hasR_one, Bool.or_assoc]
            congr 1
            unfold inR
            rw [Bool.eq_iff_iff]
            simp
            omega
        · simp only
          rw [if_neg hh]
          refine ⟨⟨fun q h => ?_, ?_⟩, fun q h => ?_, fun n => ?_⟩
          · rcases List.mem_append.1 h with h | h
            · exact i1 q h
            · simp at h; subst h; exact ⟨by simp only; omega, by simp only; omega, by simp only; omega⟩
          · rw [List.pairwise_append]
            refine ⟨by rw [List.pairwise_append]; exact ⟨p1, by simp, p3⟩, by simp, fun a ha b hb => ?_⟩
            simp at hb; subst hb
            simp only
            rcases List.mem_append.1 ha with ha | ha
            · have := p3 a ha r (by simp)
              omega
            · simp at ha; subst ha; omega
          · rcases List.mem_append.1 h with h | h
            · have := i3 q h; omega
            · simp at h; subst h; simp only; omega
          · rw [hmem n, ← i4 n, hasR_append, hasR_one]
/-- The ranges, in order, of which something is so. -/
def pickR (is : Int → Bool) (l : List Rng) : List Rng := pickF is (bordF l) ((bordF l).length - 1)
theorem pickR_law (is : Int → Bool) (l : List Rng) (hc : ∀ (k : Nat) (hk : k + 1 < (bordF l).length) (n : Int), (bordF l)[k] ≤ n → n < (bordF l)[k + 1] → is n = is (bordF l)[k]) :
    OrdR (pickR is l) ∧ ∀ n, hasR (pickR is l) n = (decide (0 ≤ n) && decide (n ≤ 1114111) && is n) := by
  obtain ⟨h1, h2⟩ := bordF_last l
  obtain ⟨i1, i2, i3⟩ := pick_law is (bordF l) (bordF_rise l) (fun z hz => pts_in l z ((bordF_mem l z).1 hz)) (fun h => (bordF_first l).2) hc ((bordF l).length - 1) (by omega)
  refine ⟨i1, fun n => ?_⟩
  unfold pickR
  rw [i3 n, h2]
  congr 2
  rw [decide_eq_decide]
  omega
def twoR (f : Bool → Bool → Bool) (a b : List Rng) : List Rng := pickR (fun n => f (hasR a n) (hasR b n)) (a ++ b)
theorem twoR_law (f : Bool → Bool → Bool) (a b : List Rng) : OrdR (twoR f a b) ∧ ∀ n, hasR (twoR f a b) n = (decide (0 ≤ n) && decide (n ≤ 1114111) && f (hasR a n) (hasR b n)) := by
  refine pickR_law _ _ (fun k hk n h1 h2 => ?_)
  rw [hasR_const (a ++ b) a (fun r hr => List.mem_append_left _ hr) hk h1 h2, hasR_const (a ++ b) b (fun r hr => List.mem_append_right _ hr) hk h1 h2]
theorem ordR_some {l : List Rng} (h : OrdR l) : l ≠ [] ↔ ∃ n, hasR l n = true := by
  constructor
  · intro hne
    cases l with
    | nil => exact absurd rfl hne
    | cons r l =>
      have := h.1 r List.mem_cons_self
      exact ⟨r.lo, by simp [hasR, inR]; left; omega⟩
  · rintro ⟨n, hn⟩ e
    subst e
    simp [hasR] at hn
/-- Ranges in order of the same numbers are the same. -/
theorem ordR_eq : ∀ (a b : List Rng), OrdR a → OrdR b → (∀ n, hasR a n = hasR b n) → a = b
  | [], [], _, _, _ => rfl
  | [], r :: b, _, hb, h => by
    have := (ordR_some hb).1 (by simp)
    obtain ⟨n, hn⟩ := this
    rw [← h n] at hn
    simp [hasR] at hn
  | r :: a, [], ha, _, h => by
    have := (ordR_some ha).1 (by simp)
    obtain ⟨n, hn⟩ := this
    rw [h n] at hn
    simp [hasR] at hn
  | r :: a, s :: b, ha, hb, h => by
    obtain ⟨a1, a2⟩ := ha
    obtain ⟨b1, b2⟩ := hb
    rw [List.pairwise_cons] at a2 b2
    have hr := a1 r List.mem_cons_self
    have hs := b1 s List.mem_cons_self
    have hin : ∀ (r : Rng) (l : List Rng) (n : Int), hasR (r :: l) n = (inR n r || hasR l n) := fun r l n => by simp [hasR]
    have hla : ∀ n, n ≤ r.hi + 1 → hasR a n = false := fun n hn => by
      unfold hasR
      rw [List.any_eq_false]
      intro q hq
      have := a2.1 q hq
      unfold inR
      simp; omega
    have hlb : ∀ n, n ≤ s.hi + 1 → hasR b n = false := fun n hn => by
      unfold hasR
      rw [List.any_eq_false]
      intro q hq
      have := b2.1 q hq
      unfold inR
      simp; omega
    have inT : ∀ (n : Int) (r : Rng), inR n r = true ↔ r.lo ≤ n ∧ n ≤ r.hi := fun n r => by unfold inR; simp
    have inF : ∀ (n : Int) (r : Rng), ¬(r.lo ≤ n ∧ n ≤ r.hi) → inR n r = false := fun n r hn => by
      cases hq : inR n r with
      | false => rfl
      | true => exact absurd ((inT _ _).1 hq) hn
    have elo : r.lo = s.lo := by
      have h1 := h r.lo
      have h2 := h s.lo
      rw [hin, hin] at h1 h2
      have t1 : inR r.lo r = true := (inT _ _).2 ⟨by omega, by omega⟩
      have t2 : inR s.lo s = true := (inT _ _).2 ⟨by omega, by omega⟩
      rw [t1, Bool.true_or] at h1
      rw [t2, Bool.true_or] at h2
      by_cases c : r.lo < s.lo
      · exfalso
        have u1 : inR r.lo s = false := inF _ _ (by omega)
        rw [u1, hlb r.lo (by omega)] at h1
        cases h1
      · by_cases c2 : s.lo < r.lo
        · exfalso
          have u1 : inR s.lo r = false := inF _ _ (by omega)
          rw [u1, hla s.lo (by omega)] at h2
          cases h2
        · omega
    have ehi : r.hi = s.hi := by
      by_cases c : r.hi < s.hi
      · exfalso
        have h1 := h (r.hi + 1)
        rw [hin, hin] at h1
        have u1 : inR (r.hi + 1) r = false := inF _ _ (by omega)
        have u2 : inR (r.hi + 1) s = true := (inT _ _).2 ⟨by omega, by omega⟩
        rw [u1, u2, hla (r.hi + 1) (by omega)] at h1
        cases h1
      · by_cases c2 : s.hi < r.hi
        · exfalso
          have h1 := h (s.hi + 1)
          rw [hin, hin] at h1
          have u1 : inR (s.hi + 1) s = false := inF _ _ (by omega)
          have u2 : inR (s.hi + 1) r = true := (inT _ _).2 ⟨by omega, by omega⟩
          rw [u1, u2, hlb (s.hi + 1) (by omega)] at h1
          cases h1
        · omega
    have ers : r = s := by cases r; cases s; simp_all
    subst ers
    rw [ordR_eq a b ⟨fun q hq => a1 q (List.mem_cons_of_mem _ hq), a2.2⟩ ⟨fun q hq => b1 q (List.mem_cons_of_mem _ hq), b2.2⟩ (fun n => ?_)]
    by_cases c : n ≤ r.hi + 1
    · rw [hla n c, hlb n c]
    · have h1 := h n
      rw [hin, hin] at h1
      have u1 : inR n r = false := inF _ _ (by omega)
      rw [u1, Bool.false_or, Bool.false_or] at h1
      exact h1
end Go.Proofs.YtmfjddhckblbhaaGreatDoor
namespace Go.Proofs.YtmfjddhckblbhaaGreatDoor
open Go Go.RowKit

def rngAt (l : List Rng) (i : Nat) : Rng := l.getD i ⟨0, 0⟩
def badAt (l : List Rng) (i : Nat) : Bool := decide ((rngAt l i).lo < 0) || decide ((rngAt l i).hi < (rngAt l i).lo) || decide (1114111 < (rngAt l i).hi) || (decide (0 < i) && decide ((rngAt l i).lo - 1 ≤ (rngAt l (i - 1)).hi))
/-- Are ranges in order? -/
def rmay (l : List Rng) : Bool := !(List.range l.length).any (badAt l)

set_option maxRecDepth 20000 in
set_option maxHeartbeats 4000000 in
theorem rmay_any (S : List Nat) (v : Value) (l : List Rng) (w : World) (H : Rngs S w v l) :
    Calls Tryz.prog 19 #[v] w fun e w' => e = .returned (.bool (rmay l)) ∧ Keep [] w w' := by
  obtain ⟨A, C, hv, hm, hr⟩ := SlOf.at (Rngs.of H)
  subst hv
  go_enter Tryz.func19, Tryz.ntmps19
  go_wp2
  go_loopw [7] (fun i wr => ∃ k : Nat, k ≤ l.length ∧ i = .int .i64 k ∧ Hid (∀ j, j < k → badAt l j = false) ∧ Keep [] w wr) (fun i _ => l.length - (intOf i).toNat)
  case atStart => exact ⟨0, by omega, rfl, Lib.hid (fun j hj => by omega), Keep.refl _ _⟩
  case round =>
    obtain ⟨k, hk, rfl, hn, Kr⟩ := hrel
    by_cases hlt : k < l.length
    · have hlt' : (k : Int) < (l.length : Int) := by omega
      have HW : SlOf RngRow S wr 2 (.slice A l.length C) l := SlOf.move (Rngs.of H) rngRow_stab (by omega) Kr (by simp) (fun x hx => .inl hx)
      obtain ⟨b, o, rfl, hb, e0, e1⟩ := rngSl_pick HW k hlt
      have hat : rngAt l k = l[k] := by simp [rngAt, hlt]
      have hbk : badAt l k = (decide (l[k].lo < 0) || decide (l[k].hi < l[k].lo) || decide (1114111 < l[k].hi) || (decide (0 < k) && decide (l[k].lo - 1 ≤ (rngAt l (k - 1)).hi))) := by rw [badAt, hat]
      have hp : 0 < k → wr.cell? ⟨b, o + (k - 1) * 2 + 1, none⟩ = some (.int .i64 (rngAt l (k - 1)).hi) := fun h0 => by
        obtain ⟨b', o', he, _, _, e⟩ := rngSl_pick HW (k - 1) (by omega)
        simp only [Option.some.injEq, Addr.mk.injEq, and_true] at he
        obtain ⟨rfl, rfl⟩ := he
        have hat1 : rngAt l (k - 1) = l[k - 1]'(by omega) := by simp [rngAt, show k - 1 < l.length by omega]
        rw [hat1]
        exact e
      generalize hlo : l[k].lo = lo at *
      generalize hhi : l[k].hi = hi at *
      clear hr HW H hat hlo hhi
      have HBK := Lib.hid hbk; clear hbk
      have HP := Lib.hid hp; clear hp
      have HLT := Lib.hid hlt
      cases h1 : decide (lo < 0)
      · cases h2 : decide (hi < lo)
        · cases h3 : decide (1114111 < hi)
          · have g1 : ¬lo < 0 := by simpa using h1
            have g2 : ¬hi < lo := by simpa using h2
            have g3 : ¬1114111 < hi := by simpa using h3
            cases h4 : decide ((0 : Int) < (k : Int))
            · have h4' : decide (0 < k) = false := by simp at h4 ⊢; omega
              have hb : badAt l k = false := by rw [HBK.out]; rw [h1, h2, h3, h4']; rfl
              have hn2 : Hid (∀ j, j < k + 1 → badAt l j = false) := Lib.hid (fun j hj => by
                by_cases e : j = k
                · rw [e]; exact hb
                · exact hn.out j (by omega))
              clear hb hn
              clear g1 g2 g3
              go_wp2
              go_quiet (fail)
              go_wp2
              have hlt := HLT.out
              go_roundw
              case rel => exact ⟨k + 1, by omega, by go_num, hn2, (Kr.alloc _).drewN _⟩
              case measure => simp [intOf]; omega
            · have h0 : 0 < k := by simp at h4; omega
              have h4' : decide (0 < k) = true := by simpa using h0
              have e2 := HP.out h0
              generalize hq : (rngAt l (k - 1)).hi = q at *
              obtain ⟨m, rfl⟩ : ∃ m, k = m + 1 := ⟨k - 1, by omega⟩
              rw [show m + 1 - 1 = m by omega] at e2 hq
              have hw1 : IntKind.i64.wrap (lo - 1) = lo - 1 := IntWalk.i64_in _ (by omega)
              have hw2 : IntKind.i64.wrap ((m : Int) + 1 - 1) = (m : Int) := by rw [show (m : Int) + 1 - 1 = m by omega]; exact IntWalk.i64_in _ (by omega)
              have hw3 : IntKind.i64.wrap (m : Int) = (m : Int) := IntWalk.i64_in _ (by omega)
              have hbl : b < wr.heap.size := World.block_lt_of_cell? wr _ e2
              have hk1 : (0 : Int) ≤ (m : Int) := by omega
              have hk2 : (m : Int) < (l.length : Int) := by omega
              cases h5 : decide (lo - 1 ≤ q)
              · clear g1 g2 g3
                have hb : badAt l (m + 1) = false := by rw [HBK.out]; rw [h1, h2, h3, h4', h5]; rfl
                have hn2 : Hid (∀ j, j < m + 1 + 1 → badAt l j = false) := Lib.hid (fun j hj => by
                  by_cases e : j = m + 1
                  · rw [e]; exact hb
                  · exact hn.out j (by omega))
                clear hb hn
                go_wp2
                go_quiet (fail)
                go_wp2
                have hlt := HLT.out
                go_roundw
                case rel => exact ⟨m + 1 + 1, by omega, by go_num, hn2, (Kr.alloc _).drewN _⟩
                case measure => simp [intOf]; omega
              · clear g1 g2 g3
                have hb : badAt l (m + 1) = true := by rw [HBK.out]; rw [h1, h2, h3, h4', h5]; rfl
                have hF : rmay l = false := by
                  simp only [rmay, Bool.not_eq_false', List.any_eq_true, List.mem_range]
                  exact ⟨m + 1, HLT.out, hb⟩
                clear hb
                go_wp2
                go_quiet (fail)
                go_wp2
                go_ret
                exact ⟨by rw [hF]; rfl, (Kr.alloc _).drewN _⟩
          · skip
            have hb : badAt l k = true := by rw [HBK.out]; rw [h1, h2, h3]; rfl
            have hF : rmay l = false := by
              simp only [rmay, Bool.not_eq_false', List.any_eq_true, List.mem_range]
              exact ⟨k, HLT.out, hb⟩
            clear hb
            go_wp2
            go_quiet (fail)
            go_wp2
            go_ret
            exact ⟨by rw [hF]; rfl, (Kr.alloc _).drewN _⟩
        · skip
          have hb : badAt l k = true := by rw [HBK.out]; rw [h1, h2]; rfl
          have hF : rmay l = false := by
            simp only [rmay, Bool.not_eq_false', List.any_eq_true, List.mem_range]
            exact ⟨k, HLT.out, hb⟩
          clear hb
          go_wp2
          go_quiet (fail)
          go_wp2
          go_ret
          exact ⟨by rw [hF]; rfl, (Kr.alloc _).drewN _⟩
      · skip
        have hb : badAt l k = true := by rw [HBK.out]; rw [h1]; rfl
        have hF : rmay l = false := by
          simp only [rmay, Bool.not_eq_false', List.any_eq_true, List.mem_range]
          exact ⟨k, HLT.out, hb⟩
        clear hb
        go_wp2
        go_quiet (fail)
        go_wp2
        go_ret
        exact ⟨by rw [hF]; rfl, (Kr.alloc _).drewN _⟩
    · have hmay : rmay l = true := by
        simp only [rmay, Bool.not_eq_true', List.any_eq_false, List.mem_range]
        intro j hj
        simp [hn.out j (by omega)]
      go_wp2
      go_ret
      exact ⟨by rw [hmay]; rfl, Kr⟩
end Go.Proofs.YtmfjddhckblbhaaGreatDoor
