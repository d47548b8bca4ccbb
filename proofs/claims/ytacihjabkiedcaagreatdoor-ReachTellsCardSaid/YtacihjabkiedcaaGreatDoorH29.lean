/- Slices of ranges are put together: Grow, Concat; whether a number is of some range: has. -/
import Derived.Test.YtacihjabkiedcaaGreatDoorH16
set_option linter.unusedVariables false
set_option linter.unusedSimpArgs false
namespace Go.Proofs.YtacihjabkiedcaaGreatDoor
open Go Go.RowKit Go.MapKept

/-- Ranges as an element. -/
def RngsRow (S : List Nat) (w : World) (l : List Rng) (row : Array Value) : Prop := ∃ A C, row = #[.slice A l.length C] ∧ SlOf RngRow S w 2 (.slice A l.length C) l
theorem rngsRow_stab : Stab RngsRow := by
  rintro S T S' w w' x row ⟨A, C, h1, h2⟩ K hT hS
  exact ⟨A, C, h1, SlOf.move h2 rngRow_stab (by omega) K hT hS⟩
theorem rngRow_one : OneC RngRow := by
  intro S w x row h u hu
  rw [show row = _ from h] at hu
  simp at hu
  rcases hu with rfl | rfl <;> rfl
def lensG {α : Type} (l : List (List α)) : Nat := (l.map List.length).sum
theorem lensG_take {α : Type} (l : List (List α)) (k : Nat) (h : k < l.length) : lensG (l.take (k + 1)) = lensG (l.take k) + l[k].length := by
  unfold lensG
  rw [List.take_succ_eq_append_getElem h]
  simp only [List.map_append, List.sum_append, List.map_cons, List.map_nil, List.sum_cons, List.sum_nil, Nat.add_zero]
theorem lensG_le {α : Type} (l : List (List α)) : ∀ k, lensG (l.take k) ≤ lensG l := by
  intro k
  unfold lensG
  conv => rhs; rw [← List.take_append_drop k l]
  simp only [List.map_append, List.sum_append]
  omega
theorem flatten_lenG {α : Type} (l : List (List α)) : l.flatten.length = lensG l := by simp [lensG, List.length_flatten]
set_option maxRecDepth 20000 in
set_option maxHeartbeats 1000000 in
theorem growR_any (n : Nat) (hn : n ≤ 1000000) (w : World) :
    Calls Tryz.prog 136 #[.slice none 0 0, .int .i64 n] w fun e w' => (∃ v, e = .returned v ∧ OwnL RngRow [] w' w.heap.size 42 2 v [] ∧ (0 < n → ∃ g cap, v = .slice (some ⟨g, 0, none⟩) 0 cap ∧ n ≤ cap)) ∧ Keep [] w w' := by
  obtain ⟨i0, hi0, hz0, hz1, hz2⟩ := info_parts info_rng
  by_cases h0 : 0 < n
  · have h0' : (0 : Int) < (n : Int) := by omega
    have hb : n * 16 ≤ 281474976710656 := by omega
    have hcap := grownCap_ge w n 0 42
    have hcm := grownCap_le_maxLen w n 0 42 (by unfold maxLen; omega)
    have hrun := fun ty => Lib.run_append_nil_zeros w 35 3 ty 42 i0 _ .i64 .i64 Tryz.underlying35 Tryz.underlying3 hi0 hz0 n h0 (by omega) (by omega) (by rw [hz2]; exact hb)
    have hown : (w.drew.alloc (.cells (Builtin.zeroCells (Value.agg #[.int .i64 0, .int .i64 0]).cells n ++ Builtin.zeroCells (Value.agg #[.int .i64 0, .int .i64 0]).cells (grownCap w n 0 42 - n)) 42)).ownsRow w.heap.size 42 2 (.slice (some ⟨w.heap.size, 0, none⟩) 0 (grownCap w n 0 42)) 0 [] := by
      refine ⟨rfl, .inr ⟨w.heap.size, _, _, rfl, Nat.le_refl _, heap_alloc_new w.drew _, by omega, hcm, ?_, by simp⟩⟩
      have e : (Value.agg #[.int .i64 0, .int .i64 0]).cells.size = 2 := rfl
      rw [Array.size_append, size_zeroCells, size_zeroCells, e, ← Nat.add_mul]
      congr 1
      omega
    have KD := ((Keep.refl [] w).drew).alloc (.cells (Builtin.zeroCells (Value.agg #[.int .i64 0, .int .i64 0]).cells n ++ Builtin.zeroCells (Value.agg #[.int .i64 0, .int .i64 0]).cells (grownCap w n 0 42 - n)) 42)
    have HO := Lib.hid hown
    have HR := Lib.hid hrun
    have HK := Lib.hid KD
    clear hown hrun KD
    generalize grownCap w n 0 42 = cap at HO HR HK hcap hcm
    generalize (w.drew.alloc (.cells (Builtin.zeroCells (Value.agg #[.int .i64 0, .int .i64 0]).cells n ++ Builtin.zeroCells (Value.agg #[.int .i64 0, .int .i64 0]).cells (cap - n)) 42)) = W at HO HR HK
    unfold maxLen at hcm
    go_enter Tryz.func136, Tryz.ntmps136
    go_wp2_with (at_builtin; refine Lib.wpList_append_run w rfl _ _ 35 3 rfl (.slice none 0 0) (.int .i64 n) rfl rfl _ _ (HR.out _) ?_)
    go_ret
    exact ⟨⟨_, rfl, ⟨[], rfl, HO.out, fun i hi => absurd hi (by simp)⟩, fun _ => ⟨_, _, rfl, hcap⟩⟩, HK.out⟩
  · obtain rfl : n = 0 := by omega
    go_enter Tryz.func136, Tryz.ntmps136
    go_wp2
    go_ret
    exact ⟨⟨_, rfl, OwnL.nil _ _ _ _ _, fun h => absurd h (by omega)⟩, Keep.refl _ _⟩
set_option maxRecDepth 20000 in
set_option maxHeartbeats 2000000 in
theorem concatR_any (S : List Nat) (v : Value) (l : List (List Rng)) (w : World) (H : SlOf RngsRow S w 1 v l) (hN : lensG l ≤ 1000000) (hS : ∀ b ∈ S, b < w.heap.size) :
    Calls Tryz.prog 106 #[v] w fun e w' => (∃ v', e = .returned v' ∧ SlOf RngRow S w' 2 v' l.flatten ∧ ∀ b ∈ ownB v', w.heap.size ≤ b) ∧ Keep [] w w' := by
  obtain ⟨A, C, rfl, hm, hr⟩ := SlOf.at H
  obtain ⟨iR, hiR, _, _, _⟩ := info_parts info_rng
  have hml := hm.1
  go_enter Tryz.func106, Tryz.ntmps106
  go_wp2
  go_loop [3, 11] (fun sz i => ∃ k : Nat, k ≤ l.length ∧ i = .int .i64 k ∧ sz = .int .i64 (lensG (l.take k) : Nat)) (fun _ i => l.length - (intOf i).toNat)
  case atStart => exact ⟨0, by omega, rfl, by simp [lensG]⟩
  case round =>
    obtain ⟨k, hk, rfl, rfl⟩ := hrel
    have hl1 := lensG_le l k
    by_cases hlt : k < l.length
    · have hlt' : (k : Int) < (l.length : Int) := by omega
      have hl2 := lensG_le l (k + 1)
      have hlk := lensG_take l k hlt
      have hlk2 : lensG (l.take k) + l[k].length ≤ 1000000 := by omega
      have HLK := Lib.hid hlk; clear hlk hl2
      have HLT := Lib.hid hlt
      obtain ⟨b, o, rfl, hb, hc⟩ := hr (by omega)
      obtain ⟨row, hz, hcell, hR⟩ := hc k hlt
      obtain ⟨A2, C2, rfl, hR2⟩ := hR
      have e0 := hcell 0 (by omega)
      clear hc hr hcell hz H
      simp at e0
      go_wp2
      go_round
      case rel => exact ⟨k + 1, by have := HLT.out; omega, by go_num, by rw [HLK.out]; go_num⟩
      case measure => simp [intOf]; have := HLT.out; omega
    · obtain rfl : k = l.length := by omega
      rw [List.take_length]
      clear hl1
      have HR := Lib.hid hr; clear hr
      have HH := Lib.hid H; clear H
      go_wp2_with fail
      refine (growR_any (lensG l) hN w).mono ?_
      rintro e w1 ⟨⟨v1, rfl, hO1, hroom⟩, K1⟩
      have hT0 : Keep [] w w1 ∧ OwnL RngRow S w1 w.heap.size 42 2 v1 (l.take 0).flatten ∧ (0 < lensG l → ∃ g cap, v1 = .slice (some ⟨g, 0, none⟩) (l.take 0).flatten.length cap ∧ lensG l ≤ cap) := ⟨K1, by
        obtain ⟨rows, h1, h2, h3⟩ := hO1
        exact ⟨rows, h1, h2, fun i hi => absurd hi (by simp)⟩, hroom⟩
      have HT0 := Lib.hid hT0
      clear hT0 hO1 hroom K1
      go_wp2
      go_loopw [6, 27] (fun vk i wr => ∃ k : Nat, k ≤ l.length ∧ i = .int .i64 k ∧ Keep [] w wr ∧ OwnL RngRow S wr w.heap.size 42 2 vk (l.take k).flatten ∧ (0 < lensG l → ∃ g cap, vk = .slice (some ⟨g, 0, none⟩) (l.take k).flatten.length cap ∧ lensG l ≤ cap)) (fun _ i _ => l.length - (intOf i).toNat)
      case atStart => exact ⟨0, by omega, rfl, HT0.out⟩
      case round =>
        clear HT0
        obtain ⟨k, hk, rfl, K2, hO2, hroom2⟩ := hrel
        by_cases hlt : k < l.length
        · have hlt' : (k : Int) < (l.length : Int) := by omega
          have HLT := Lib.hid hlt
          have hl2 := lensG_le l (k + 1)
          have hlk := lensG_take l k hlt
          have htk : (l.take (k + 1)).flatten = (l.take k).flatten ++ l[k] := by rw [List.take_succ_eq_append_getElem hlt, List.flatten_append]; simp only [List.flatten_cons, List.flatten_nil, List.append_nil]; rfl
          have HTK := Lib.hid htk; clear htk
          have hfl := flatten_lenG (l.take k)
          obtain ⟨b, o, rfl, hb, hc⟩ := HR.out (by omega)
          obtain ⟨row, hz, hcell, hR⟩ := hc k hlt
          obtain ⟨A2, C2, rfl, hR2⟩ := hR
          have e0 := hcell 0 (by omega)
          simp at e0
          have e0 := K2.cell e0 (by simp)
          have hlow := hO2.base
          have hR3 : SlOf RngRow (ownB u6 ++ S) wr 2 (.slice A2 l[k].length C2) l[k] := SlOf.move hR2 rngRow_stab (by omega) K2 (by simp) (fun x hx => by
            rcases List.mem_append.1 hx with h | h
            · exact .inr (hlow x h).1
            · exact .inl h)
          clear hc hcell hz hR2
          obtain ⟨A4, C4, hv4⟩ := hO2.slice
          subst hv4
          obtain ⟨rows2, hs2, hlr2, hel2⟩ := hR3
          generalize l[k] = lk at e0 hs2 hlr2 hel2 HTK hlk
          have hlk2 : (l.take k).flatten.length + lk.length ≤ lensG l := by omega
          clear hlk hl2 hfl
          generalize (l.take k).flatten = acc at hO2 hroom2 HTK hlk2
          by_cases h0 : lk.length = 0
          · obtain rfl : lk = [] := List.eq_nil_of_length_eq_zero h0
            have hcap : acc.length ≤ C4 := by
              obtain ⟨rows, h1, h2, h3⟩ := hO2
              rcases h2.2 with ⟨_, h4⟩ | ⟨g, cap, cur, hv, _, _, h4, _⟩
              · omega
              · simp only [Value.slice.injEq] at hv; omega
            have hrun := fun w ty => run_append_none' (ty := ty) Tryz.underlying35 hiR w A4 acc.length C4 A2 C2 hcap
            have HRUN := Lib.hid hrun
            have HFIN : Hid (OwnL RngRow S wr w.heap.size 42 2 (.slice A4 acc.length C4) (l.take (k + 1)).flatten ∧ (0 < lensG l → ∃ g cap, (Value.slice A4 acc.length C4) = .slice (some ⟨g, 0, none⟩) (l.take (k + 1)).flatten.length cap ∧ lensG l ≤ cap)) := Lib.hid (by rw [HTK.out, List.append_nil]; exact ⟨hO2, hroom2⟩)
            clear hrun hs2 hlr2 hel2 hroom2 hO2 h0
            go_wp2_with (at_builtin; refine Lib.wpList_append_run wr rfl _ _ 35 35 rfl (.slice A4 acc.length C4) (.slice A2 0 C2) rfl rfl _ _ (HRUN.out _ _) ?_)
            go_roundw
            case rel => exact ⟨k + 1, by have := HLT.out; omega, by go_num, K2, HFIN.out⟩
            case measure => simp [intOf]; have := HLT.out; omega
          · obtain ⟨g, cap, hv, hcap⟩ := hroom2 (by omega)
            simp only [Value.slice.injEq, true_and] at hv
            obtain ⟨rfl, rfl⟩ := hv
            obtain ⟨rows, hlr, hown, hel⟩ := hO2
            have hsz2 : rows2.length = lk.length := hlr2
            rw [← hsz2] at h0 e0
            have hs2' := hs2
            obtain ⟨a5, c5, hv5, hm5, hr5⟩ := hs2'
            rw [← hsz2] at hv5 hs2
            simp only [Value.slice.injEq, true_and] at hv5
            obtain ⟨rfl, rfl⟩ := hv5
            obtain ⟨b5, o5, rfl, hb5, hc5⟩ := hr5 (Nat.pos_of_ne_zero h0)
            have hrs : ∀ i (h : i < rows2.length), rows2[i].size = 2 := fun i hi => (hc5 i hi).1
            have hnews := Sl.news (by omega) hs2
            have hone : ∀ u ∈ rows2.flatMap Array.toList, u.oneCell' = true := fun u hu => by
              obtain ⟨x, hx, hu⟩ := List.mem_flatMap.1 hu
              obtain ⟨i, hi, rfl⟩ := List.getElem_of_mem hx
              exact rngRow_one _ _ _ _ (hel2 i (by omega) hi) u hu
            have hnl := flat_len 2 rows2 hrs
            rw [hsz2] at hnl
            have HSZ := Lib.hid hsz2
            obtain ⟨i0, hi0, hz0, hz1, hz2⟩ := info_parts info_rng
            have HS := Lib.hid hnews
            have HONE := Lib.hid hone
            have HNL := Lib.hid hnl
            have HEL := Lib.hid hel
            have HEL2 := Lib.hid hel2
            have HRS := Lib.hid hrs
            clear hnews hone hnl hel hel2 hrs hroom2 hr5 hc5 hs2
            rw [hsz2] at e0
            clear hsz2
            go_wp2_with (at_builtin; go_loud (refine wpList_append_fits wr rfl _ _ 35 rfl w.heap.size 42 i0 2 Tryz.underlying35 hi0 hz1 g acc.length C4 _ rfl hown ⟨b5, o5, none⟩ lk.length _ (rows2.flatMap Array.toList) rfl HNL.out HS.out HONE.out (by omega) ?_); intro w5 O5 G5)
            have hvl : rows2.length = lk.length := HSZ.out
            have KG := Keep.ofGrown (v := .slice (some ⟨g, 0, none⟩) acc.length C4) G5
            have hO5 := OwnL.appendL (S := S) (v := .slice (some ⟨g, 0, none⟩) acc.length C4) rows hlr HEL.out rngRow_stab rows2 hvl (fun i hi hi' => ⟨HRS.out i hi', HEL2.out i hi hi'⟩) O5 G5 (.inl rfl)
            have hacc : (l.take (k + 1)).flatten = acc ++ lk := HTK.out
            have HFIN : Hid (OwnL RngRow S w5 w.heap.size 42 2 (.slice (some ⟨g, 0, none⟩) (acc.length + lk.length) C4) (l.take (k + 1)).flatten ∧ (0 < lensG l → ∃ g' cap', (Value.slice (some ⟨g, 0, none⟩) (acc.length + lk.length) C4) = .slice (some ⟨g', 0, none⟩) (l.take (k + 1)).flatten.length cap' ∧ lensG l ≤ cap')) := Lib.hid (by
              rw [hacc]
              exact ⟨hO5, fun _ => ⟨g, C4, by rw [List.length_append], hcap⟩⟩)
            have K5 := K2.then KG (fun b hb => .inr (hlow b hb).1)
            clear O5 G5 KG hO5 hown hacc
            go_wp2
            go_roundw
            case rel => exact ⟨k + 1, by have := HLT.out; omega, by go_num, K5, HFIN.out⟩
            case measure => simp [intOf]; have := HLT.out; omega
        · obtain rfl : k = l.length := by omega
          rw [List.take_length] at hO2
          have hlow := hO2.base
          have hrd : SlOf RngRow S wr 2 u6 l.flatten := hO2.read rngRow_stab (fun b hb => .inl hb) (fun b hb hb' => by have := (hlow b hb).1; have := hS b hb'; omega)
          have HRD := Lib.hid hrd
          clear hrd hroom2
          go_wp2
          go_ret
          exact ⟨⟨_, rfl, HRD.out, fun b hb => (hlow b hb).1⟩, K2⟩
set_option maxHeartbeats 2000000 in
theorem setIndex_any (S : List Nat) (v : Value) (l : List (Rng)) (g : Nat) (cap : Array Value) (pr : Rng → Bool) (w : World) (H : SlOf RngRow S w 2 v l) (hp : Pred RngRow S w g cap (fun row => .agg row) pr) :
    Calls Tryz.prog 153 #[v, .func (.func g) #[] cap] w fun e w' => (∃ i : Int, e = .returned (.int .i64 i) ∧ decide (0 ≤ i) = l.any pr) ∧ Keep [] w w' := by
  obtain ⟨hg, hp⟩ := hp
  obtain ⟨A, C, rfl, hm, hr⟩ := SlOf.at H
  go_enter Tryz.func153, Tryz.ntmps153
  go_wp2
  go_loopw [5, 8] (fun _ i wr => ∃ k : Nat, k ≤ l.length ∧ i = .int .i64 k ∧ Hid (∀ j (hj : j < k) (hl : j < l.length), pr l[j] = false) ∧ Keep [] w wr) (fun _ i _ => l.length - (intOf i).toNat)
  case atStart => exact ⟨0, by omega, rfl, Lib.hid (fun j hj => by omega), Keep.refl _ _⟩
  case round =>
    obtain ⟨k, hk, rfl, hn, Kr⟩ := hrel
    by_cases hlt : k < l.length
    · have hlt' : (k : Int) < (l.length : Int) := by omega
      have HW : SlOf RngRow S wr 2 (.slice A l.length C) l := SlOf.move H rngRow_stab (by omega) Kr (by simp) (fun x hx => .inl hx)
      obtain ⟨A2, C2, hv, _, hr2⟩ := SlOf.at HW
      simp only [Value.slice.injEq, true_and] at hv
      obtain ⟨rfl, rfl⟩ := hv
      obtain ⟨b, o, rfl, hb, hc⟩ := hr2 (by omega)
      obtain ⟨row, hz, hcell, hR⟩ := hc k hlt
      have hR' := hR
      have hR3 : True := trivial
      subst hR'
      have e0 := hcell 0 (by omega)
      have e1 := hcell 1 (by omega)
      have hcall := hp l[k] _ wr Kr hR
      clear hr hr2 hc hcell hp HW hR hR3 H
      simp at e0 e1
      have HLT := Lib.hid hlt
      go_wp2
      refine hcall.mono ?_
      rintro e w2 ⟨rfl, K2⟩
      have hlt := HLT.out
      cases hq : pr l[k]
      · have hn2 : Hid (∀ j (hj : j < k + 1) (hl : j < l.length), pr l[j] = false) := Lib.hid (fun j hj hl => by
          by_cases e : j = k
          · subst e; exact hq
          · exact hn.out j (by omega) hl)
        clear e0 e1 hcall hn
        go_wp2
        go_roundw
        case rel => exact ⟨k + 1, by omega, by go_num, hn2, Kr.trans K2⟩
        case measure => simp [intOf]; omega
      · have hany : l.any pr = true := List.any_eq_true.2 ⟨l[k], List.getElem_mem _, hq⟩
        clear e0 e1 hcall hn
        go_wp2
        go_ret
        exact ⟨⟨k, rfl, by rw [hany]; simp⟩, Kr.trans K2⟩
    · have hany : l.any pr = false := by
        rw [List.any_eq_false]
        intro x hx
        obtain ⟨j, hj, rfl⟩ := List.getElem_of_mem hx
        simp [hn.out j (by omega) hj]
      go_wp2
      go_ret
      exact ⟨⟨-1, rfl, by rw [hany]; rfl⟩, Kr⟩
set_option maxHeartbeats 2000000 in
theorem setContains_any (S : List Nat) (v : Value) (l : List (Rng)) (g : Nat) (cap : Array Value) (pr : Rng → Bool) (w : World) (H : SlOf RngRow S w 2 v l) (hp : Pred RngRow S w g cap (fun row => .agg row) pr) :
    Calls Tryz.prog 133 #[v, .func (.func g) #[] cap] w fun e w' => e = .returned (.bool (l.any pr)) ∧ Keep [] w w' := by
  go_enter Tryz.func133, Tryz.ntmps133
  go_wp2_with fail
  refine (setIndex_any S v l g cap pr w H hp).mono ?_
  rintro e w1 ⟨⟨i, rfl, hi⟩, K⟩
  go_wp2
  go_ret
  exact ⟨by rw [← hi]; rfl, K⟩

/-- Is a number of one range? -/
def inR (n : Int) (r : Rng) : Bool := decide (r.lo ≤ n) && decide (n ≤ r.hi)
/-- Is a number of some? -/
def hasR (l : List Rng) (n : Int) : Bool := l.any (inR n)
set_option maxHeartbeats 2000000 in
theorem has1_any (nb : Nat) (n : Int) (S : List Nat) (r : Rng) (row : Array Value) (w : World) (h0 : w.cell? ⟨nb, 0, none⟩ = some (.int .i64 n)) (H : RngRow S w r row) :
    Calls Tryz.prog 134 #[.agg row, .pointer (some ⟨nb, 0, none⟩)] w fun e w' => e = .returned (.bool (inR n r)) ∧ Keep [] w w' := by
  have hlt : nb < w.heap.size := World.block_lt_of_cell? w _ h0
  rw [show row = _ from H]
  obtain ⟨lo, hi⟩ := r
  have hr : inR n ⟨lo, hi⟩ = (decide (lo ≤ n) && decide (n ≤ hi)) := rfl
  rw [hr]
  clear hr H
  cases h1 : decide (lo ≤ n) with
  | true =>
    cases h2 : decide (n ≤ hi)
    all_goals
      go_enter Tryz.func134, Tryz.ntmps134
      go_wp2
      first | (go_ret; exact ⟨rfl, (Keep.refl _ _).alloc _⟩) | (go_quiet (fail); go_wp2; go_ret; exact ⟨rfl, ((Keep.refl _ _).alloc _).drewN _⟩)
  | false =>
    go_enter Tryz.func134, Tryz.ntmps134
    go_wp2
    first | (go_ret; exact ⟨rfl, (Keep.refl _ _).alloc _⟩) | (go_quiet (fail); go_wp2; go_ret; exact ⟨rfl, ((Keep.refl _ _).alloc _).drewN _⟩)
set_option maxHeartbeats 2000000 in
theorem has_any (S : List Nat) (A : Option Addr) (m C : Nat) (l : List Rng) (n : Int) (w : World) (H : SlOf RngRow S w 2 (.slice A m C) l) :
    Calls Tryz.prog 103 #[.slice A m C, .int .i64 n] w fun e w' => e = .returned (.bool (hasR l n)) ∧ Keep [] w w' := by
  have K0 := (Keep.refl [] w).alloc (.cells #[.int .i64 n] 3)
  have B0 := Blk.new w #[.int .i64 n] 3
  have hp : Pred RngRow S _ 134 #[.pointer (some ⟨w.heap.size, 0, none⟩)] (fun row => .agg row) (inR n) :=
    ⟨fun _ _ => by kernel_rfl, fun r row w' K h => has1_any w.heap.size n S r row w' ((B0.keep K (by simp)).cell 0) h⟩
  have HC := Lib.hid (setContains_any S (.slice A m C) l _ _ _ _ (SlOf.move H rngRow_stab (by omega) K0 (by simp) (fun x hx => .inl hx)) hp)
  have hmf : ∀ (fn : Fn) (first cap : Array Value) (w : World), (Instr.makeFunc fn first cap).run Tryz.prog w = .ok (.func fn first cap) w := fun _ _ _ _ => rfl
  clear hp H B0
  go_enter Tryz.func103, Tryz.ntmps103
  go_wp2_with fail
  refine HC.out.mono ?_
  rintro e w1 ⟨rfl, K1⟩
  go_wp2
  go_ret
  exact ⟨rfl, K0.trans K1⟩
end Go.Proofs.YtacihjabkiedcaaGreatDoor
