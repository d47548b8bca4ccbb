/- Slices of symbols are put together. -/
import Derived.Test.YtkminfdblimiiaaGreatDoorJ13
import Derived.Lib.AppendZeros
import Derived.OwnWalk
import Derived.StillTailTactics
import Derived.Test.YtkminfdblimiiaaGreatDoorJ7
import Derived.Laws.MakeOwn
set_option linter.unusedVariables false
set_option linter.unusedSimpArgs false
namespace Go.Proofs.YtkminfdblimiiaaGreatDoor
open Go Go.RowKit Go.MapKept

theorem run_append_none (w : World) (ty : TypeId) (A : Option Addr) (n cap : Nat) (B : Option Addr) (c : Nat) (h : n ≤ cap) :
    (Builtin.append_ #[43, 43] ty #[.slice A n cap, .slice B 0 c]).run Tryz.prog w = .ok (.slice A n cap) w := by
  obtain ⟨i0, hi0, hz0, hz1, hz2⟩ := info_parts info_sym
  cases A <;> cases B <;> simp [Builtin.append_, run_underlying Tryz.underlying43, sizeOf, typeInfo, hi0, h, Builtin.lenOf, Builtin.firstCells, loadCells, loadCellsFrom, storeCells]
set_option maxRecDepth 20000 in
set_option maxHeartbeats 1000000 in
theorem grow_any (n : Nat) (hn : n ≤ 1000000) (w : World) :
    Calls Tryz.prog 49 #[.slice none 0 0, .int .i64 n] w fun e w' => (∃ v, e = .returned v ∧ OwnL SymRow [] w' w.heap.size 45 3 v [] ∧ (0 < n → ∃ g cap, v = .slice (some ⟨g, 0, none⟩) 0 cap ∧ n ≤ cap)) ∧ Keep [] w w' := by
  obtain ⟨i0, hi0, hz0, hz1, hz2⟩ := info_parts info_sym
  by_cases h0 : 0 < n
  · have h0' : (0 : Int) < (n : Int) := by omega
    have hb : n * 40 ≤ 281474976710656 := by omega
    have hcap := grownCap_ge w n 0 45
    have hcm := grownCap_le_maxLen w n 0 45 (by unfold maxLen; omega)
    have hrun := fun ty => Lib.run_append_nil_zeros w 43 3 ty 45 i0 _ .i64 .i64 Tryz.underlying43 Tryz.underlying3 hi0 hz0 n h0 (by omega) (by omega) (by rw [hz2]; exact hb)
    have hown : (w.drew.alloc (.cells (Builtin.zeroCells (Value.agg #[.int .i64 0, .slice none 0 0, .int .i64 0]).cells n ++ Builtin.zeroCells (Value.agg #[.int .i64 0, .slice none 0 0, .int .i64 0]).cells (grownCap w n 0 45 - n)) 45)).ownsRow w.heap.size 45 3 (.slice (some ⟨w.heap.size, 0, none⟩) 0 (grownCap w n 0 45)) 0 [] := by
      refine ⟨rfl, .inr ⟨w.heap.size, _, _, rfl, Nat.le_refl _, heap_alloc_new w.drew _, by omega, hcm, ?_, by simp⟩⟩
      have e : (Value.agg #[.int .i64 0, .slice none 0 0, .int .i64 0]).cells.size = 3 := rfl
      rw [Array.size_append, size_zeroCells, size_zeroCells, e, ← Nat.add_mul]
      congr 1
      omega
    have KD := ((Keep.refl [] w).drew).alloc (.cells (Builtin.zeroCells (Value.agg #[.int .i64 0, .slice none 0 0, .int .i64 0]).cells n ++ Builtin.zeroCells (Value.agg #[.int .i64 0, .slice none 0 0, .int .i64 0]).cells (grownCap w n 0 45 - n)) 45)
    have HO := Lib.hid hown
    have HR := Lib.hid hrun
    have HK := Lib.hid KD
    clear hown hrun KD
    generalize grownCap w n 0 45 = cap at HO HR HK hcap hcm
    generalize (w.drew.alloc (.cells (Builtin.zeroCells (Value.agg #[.int .i64 0, .slice none 0 0, .int .i64 0]).cells n ++ Builtin.zeroCells (Value.agg #[.int .i64 0, .slice none 0 0, .int .i64 0]).cells (cap - n)) 45)) = W at HO HR HK
    unfold maxLen at hcm
    go_enter Tryz.func49, Tryz.ntmps49
    go_wp2_with (at_builtin; refine Lib.wpList_append_run w rfl _ _ 43 3 rfl (.slice none 0 0) (.int .i64 n) rfl rfl _ _ (HR.out _) ?_)
    go_ret
    exact ⟨⟨_, rfl, ⟨[], rfl, HO.out, fun i hi => absurd hi (by simp)⟩, fun _ => ⟨_, _, rfl, hcap⟩⟩, HK.out⟩
  · obtain rfl : n = 0 := by omega
    go_enter Tryz.func49, Tryz.ntmps49
    go_wp2
    go_ret
    exact ⟨⟨_, rfl, OwnL.nil _ _ _ _ _, fun h => absurd h (by omega)⟩, Keep.refl _ _⟩
end Go.Proofs.YtkminfdblimiiaaGreatDoor
namespace Go.Proofs.YtkminfdblimiiaaGreatDoor
open Go Go.RowKit Go.MapKept

/-- Behind an append of several elements. -/
theorem OwnL.appendL {α : Type} {R : List Nat → World → α → Array Value → Prop} {S : List Nat} {w w' : World} {base : Nat} {E : TypeId} {k g cap : Nat} {v : Value} {xs ys : List α} (rows : List (Array Value)) (h1 : rows.length = xs.length)
    (h3 : ∀ i (h : i < xs.length) (h' : i < rows.length), rows[i].size = k ∧ R (ownB v ++ S) w xs[i] rows[i]) (st : Stab R) (rows2 : List (Array Value)) (h2 : rows2.length = ys.length) (h4 : ∀ i (h : i < ys.length) (h' : i < rows2.length), rows2[i].size = k ∧ R (ownB v ++ S) w ys[i] rows2[i])
    (ho : w'.ownsRow base E k (.slice (some ⟨g, 0, none⟩) (xs.length + ys.length) cap) (xs.length + ys.length) (rows.flatMap Array.toList ++ rows2.flatMap Array.toList)) (hg : w.grownBy w' v.ownBlock) (hw : v.ownBlock = some g ∨ g = w.heap.size) :
    OwnL R S w' base E k (.slice (some ⟨g, 0, none⟩) (xs.length + ys.length) cap) (xs ++ ys) := by
  have K : Keep (ownB v) w w' := ⟨hg.os, hg.tape, hg.output, hg.size, fun b hb hs => hg.block b hb (fun e => hs (by simp [ownB, ← e]))⟩
  have hS : ∀ b ∈ ownB (.slice (some ⟨g, 0, none⟩) (xs.length + ys.length) cap) ++ S, b ∈ ownB v ++ S ∨ w.heap.size ≤ b := by
    intro b hb
    rcases List.mem_append.1 hb with hb | hb
    · have : b = g := by simpa [ownB, Value.ownBlock, eq_comm] using hb
      subst this
      rcases hw with hw | hw
      · exact .inl (by simp [ownB, hw])
      · exact .inr (by omega)
    · exact .inl (by simp [hb])
  have hT : ∀ b ∈ ownB v, b ∈ ownB v ++ S ∨ w.heap.size ≤ b := fun b hb => .inl (by simp [hb])
  refine ⟨rows ++ rows2, by simp [h1, h2], ?_, fun i hi hi' => ?_⟩
  · rw [List.length_append, List.flatMap_append]
    exact ho
  · by_cases e : i < rows.length
    · have e2 : (xs ++ ys)[i] = xs[i]'(by omega) := List.getElem_append_left (by omega)
      have e3 : (rows ++ rows2)[i] = rows[i] := List.getElem_append_left e
      rw [e2, e3]
      exact ⟨(h3 i (by omega) e).1, st _ _ _ _ _ _ _ (h3 i (by omega) e).2 K hT hS⟩
    · have hl : i - rows.length < ys.length := by simp at hi; omega
      have e2 : (xs ++ ys)[i] = ys[i - rows.length] := by rw [List.getElem_append_right (by omega)]; simp only [h1]
      have e3 : (rows ++ rows2)[i] = rows2[i - rows.length]'(by omega) := List.getElem_append_right (by omega)
      rw [e2, e3]
      exact ⟨(h4 _ hl (by omega)).1, st _ _ _ _ _ _ _ (h4 _ hl (by omega)).2 K hT hS⟩
def lens (l : List (List SymS)) : Nat := (l.map List.length).sum
theorem lens_take (l : List (List SymS)) (k : Nat) (h : k < l.length) : lens (l.take (k + 1)) = lens (l.take k) + l[k].length := by
  unfold lens
  rw [List.take_succ_eq_append_getElem h]
  simp only [List.map_append, List.sum_append, List.map_cons, List.map_nil, List.sum_cons, List.sum_nil, Nat.add_zero]
theorem lens_le (l : List (List SymS)) : ∀ k, lens (l.take k) ≤ lens l := by
  intro k
  unfold lens
  conv => rhs; rw [← List.take_append_drop k l]
  simp only [List.map_append, List.sum_append]
  omega
theorem flatten_len (l : List (List SymS)) : l.flatten.length = lens l := by simp [lens, List.length_flatten]

set_option maxRecDepth 20000 in
set_option maxHeartbeats 2000000 in
theorem concat_any (S : List Nat) (v : Value) (l : List (List SymS)) (w : World) (H : Alts S w v l) (hN : lens l ≤ 1000000) (hS : ∀ b ∈ S, b < w.heap.size) :
    Calls Tryz.prog 39 #[v] w fun e w' => (∃ v', e = .returned v' ∧ Syms S w' v' l.flatten ∧ ∀ b ∈ ownB v', w.heap.size ≤ b) ∧ Keep [] w w' := by
  obtain ⟨A, C, rfl, hm, hr⟩ := SlOf.at H
  have hml := hm.1
  go_enter Tryz.func39, Tryz.ntmps39
  go_wp2
  go_loop [3, 11] (fun sz i => ∃ k : Nat, k ≤ l.length ∧ i = .int .i64 k ∧ sz = .int .i64 (lens (l.take k) : Nat)) (fun _ i => l.length - (intOf i).toNat)
  case atStart => exact ⟨0, by omega, rfl, by simp [lens]⟩
  case round =>
    obtain ⟨k, hk, rfl, rfl⟩ := hrel
    have hl1 := lens_le l k
    by_cases hlt : k < l.length
    · have hlt' : (k : Int) < (l.length : Int) := by omega
      have hl2 := lens_le l (k + 1)
      have hlk := lens_take l k hlt
      have hlk2 : lens (l.take k) + l[k].length ≤ 1000000 := by omega
      have HLK := Lib.hid hlk; clear hlk hl2
      have HLT := Lib.hid hlt
      obtain ⟨b, o, rfl, hb, hc⟩ := hr (by omega)
      obtain ⟨row, hz, hcell, hR⟩ := hc k hlt
      obtain ⟨A2, C2, rfl, hR2⟩ := hR
      have e0 := hcell 0 (by omega)
      clear hc hr hcell hz H
      simp at e0
      go_wp2
      go_round
      case rel => exact ⟨k + 1, by have := HLT.out; omega, by go_num, by rw [HLK.out]; go_num⟩
      case measure => simp [intOf]; have := HLT.out; omega
    · obtain rfl : k = l.length := by omega
      rw [List.take_length]
      clear hl1
      have HR := Lib.hid hr; clear hr
      have HH := Lib.hid H; clear H
      go_wp2_with fail
      refine (grow_any (lens l) hN w).mono ?_
      rintro e w1 ⟨⟨v1, rfl, hO1, hroom⟩, K1⟩
      have hT0 : Keep [] w w1 ∧ OwnL SymRow S w1 w.heap.size 45 3 v1 (l.take 0).flatten ∧ (0 < lens l → ∃ g cap, v1 = .slice (some ⟨g, 0, none⟩) (l.take 0).flatten.length cap ∧ lens l ≤ cap) := ⟨K1, by
        obtain ⟨rows, h1, h2, h3⟩ := hO1
        exact ⟨rows, h1, h2, fun i hi => absurd hi (by simp)⟩, hroom⟩
      have HT0 := Lib.hid hT0
      clear hT0 hO1 hroom K1
      go_wp2
      go_loopw [6, 27] (fun vk i wr => ∃ k : Nat, k ≤ l.length ∧ i = .int .i64 k ∧ Keep [] w wr ∧ OwnL SymRow S wr w.heap.size 45 3 vk (l.take k).flatten ∧ (0 < lens l → ∃ g cap, vk = .slice (some ⟨g, 0, none⟩) (l.take k).flatten.length cap ∧ lens l ≤ cap)) (fun _ i _ => l.length - (intOf i).toNat)
      case atStart => exact ⟨0, by omega, rfl, HT0.out⟩
      case round =>
        clear HT0
        obtain ⟨k, hk, rfl, K2, hO2, hroom2⟩ := hrel
        by_cases hlt : k < l.length
        · have hlt' : (k : Int) < (l.length : Int) := by omega
          have HLT := Lib.hid hlt
          have hl2 := lens_le l (k + 1)
          have hlk := lens_take l k hlt
          have htk : (l.take (k + 1)).flatten = (l.take k).flatten ++ l[k] := by rw [List.take_succ_eq_append_getElem hlt, List.flatten_append]; simp only [List.flatten_cons, List.flatten_nil, List.append_nil]; rfl
          have HTK := Lib.hid htk; clear htk
          have hfl := flatten_len (l.take k)
          obtain ⟨b, o, rfl, hb, hc⟩ := HR.out (by omega)
          obtain ⟨row, hz, hcell, hR⟩ := hc k hlt
          obtain ⟨A2, C2, rfl, hR2⟩ := hR
          have e0 := hcell 0 (by omega)
          simp at e0
          have e0 := K2.cell e0 (by simp)
          have hlow := hO2.base
          have hR3 : Syms (ownB u6 ++ S) wr (.slice A2 l[k].length C2) l[k] := SlOf.move hR2 symRow_stab (by omega) K2 (by simp) (fun x hx => by
            rcases List.mem_append.1 hx with h | h
            · exact .inr (hlow x h).1
            · exact .inl h)
          clear hc hcell hz hR2
          obtain ⟨A4, C4, hv4⟩ := hO2.slice
          subst hv4
          obtain ⟨rows2, hs2, hlr2, hel2⟩ := hR3
          generalize l[k] = lk at e0 hs2 hlr2 hel2 HTK hlk
          have hlk2 : (l.take k).flatten.length + lk.length ≤ lens l := by omega
          clear hlk hl2 hfl
          generalize (l.take k).flatten = acc at hO2 hroom2 HTK hlk2
          by_cases h0 : lk.length = 0
          · obtain rfl : lk = [] := List.eq_nil_of_length_eq_zero h0
            have hcap : acc.length ≤ C4 := by
              obtain ⟨rows, h1, h2, h3⟩ := hO2
              rcases h2.2 with ⟨_, h4⟩ | ⟨g, cap, cur, hv, _, _, h4, _⟩
              · omega
              · simp only [Value.slice.injEq] at hv; omega
            have hrun := fun w ty => run_append_none w ty A4 acc.length C4 A2 C2 hcap
            have HRUN := Lib.hid hrun
            have HFIN : Hid (OwnL SymRow S wr w.heap.size 45 3 (.slice A4 acc.length C4) (l.take (k + 1)).flatten ∧ (0 < lens l → ∃ g cap, (Value.slice A4 acc.length C4) = .slice (some ⟨g, 0, none⟩) (l.take (k + 1)).flatten.length cap ∧ lens l ≤ cap)) := Lib.hid (by rw [HTK.out, List.append_nil]; exact ⟨hO2, hroom2⟩)
            clear hrun hs2 hlr2 hel2 hroom2 hO2 h0
            go_wp2_with (at_builtin; refine Lib.wpList_append_run wr rfl _ _ 43 43 rfl (.slice A4 acc.length C4) (.slice A2 0 C2) rfl rfl _ _ (HRUN.out _ _) ?_)
            go_roundw
            case rel => exact ⟨k + 1, by have := HLT.out; omega, by go_num, K2, HFIN.out⟩
            case measure => simp [intOf]; have := HLT.out; omega
          · obtain ⟨g, cap, hv, hcap⟩ := hroom2 (by omega)
            simp only [Value.slice.injEq, true_and] at hv
            obtain ⟨rfl, rfl⟩ := hv
            obtain ⟨rows, hlr, hown, hel⟩ := hO2
            have hsz2 : rows2.length = lk.length := hlr2
            rw [← hsz2] at h0 e0
            have hs2' := hs2
            obtain ⟨a5, c5, hv5, hm5, hr5⟩ := hs2'
            rw [← hsz2] at hv5 hs2
            simp only [Value.slice.injEq, true_and] at hv5
            obtain ⟨rfl, rfl⟩ := hv5
            obtain ⟨b5, o5, rfl, hb5, hc5⟩ := hr5 (Nat.pos_of_ne_zero h0)
            have hrs : ∀ i (h : i < rows2.length), rows2[i].size = 3 := fun i hi => (hc5 i hi).1
            have hnews := Sl.news (by omega) hs2
            have hone : ∀ u ∈ rows2.flatMap Array.toList, u.oneCell' = true := fun u hu => by
              obtain ⟨x, hx, hu⟩ := List.mem_flatMap.1 hu
              obtain ⟨i, hi, rfl⟩ := List.getElem_of_mem hx
              obtain ⟨A6, C6, hrow, _⟩ := hel2 i (by omega) hi
              rw [hrow] at hu
              simp at hu
              rcases hu with rfl | rfl | rfl <;> rfl
            have hnl := flat_len 3 rows2 hrs
            rw [hsz2] at hnl
            have HSZ := Lib.hid hsz2
            obtain ⟨i0, hi0, hz0, hz1, hz2⟩ := info_parts info_sym
            have HS := Lib.hid hnews
            have HONE := Lib.hid hone
            have HNL := Lib.hid hnl
            have HEL := Lib.hid hel
            have HEL2 := Lib.hid hel2
            have HRS := Lib.hid hrs
            clear hnews hone hnl hel hel2 hrs hroom2 hr5 hc5 hs2
            rw [hsz2] at e0
            clear hsz2
            go_wp2_with (at_builtin; go_loud (refine wpList_append_fits wr rfl _ _ 43 rfl w.heap.size 45 i0 3 Tryz.underlying43 hi0 hz1 g acc.length C4 _ rfl hown ⟨b5, o5, none⟩ lk.length _ (rows2.flatMap Array.toList) rfl HNL.out HS.out HONE.out (by omega) ?_); intro w5 O5 G5)
            have hvl : rows2.length = lk.length := HSZ.out
            have KG := Keep.ofGrown (v := .slice (some ⟨g, 0, none⟩) acc.length C4) G5
            have hO5 := OwnL.appendL (S := S) (v := .slice (some ⟨g, 0, none⟩) acc.length C4) rows hlr HEL.out symRow_stab rows2 hvl (fun i hi hi' => ⟨HRS.out i hi', HEL2.out i hi hi'⟩) O5 G5 (.inl rfl)
            have hacc : (l.take (k + 1)).flatten = acc ++ lk := HTK.out
            have HFIN : Hid (OwnL SymRow S w5 w.heap.size 45 3 (.slice (some ⟨g, 0, none⟩) (acc.length + lk.length) C4) (l.take (k + 1)).flatten ∧ (0 < lens l → ∃ g' cap', (Value.slice (some ⟨g, 0, none⟩) (acc.length + lk.length) C4) = .slice (some ⟨g', 0, none⟩) (l.take (k + 1)).flatten.length cap' ∧ lens l ≤ cap')) := Lib.hid (by
              rw [hacc]
              exact ⟨hO5, fun _ => ⟨g, C4, by rw [List.length_append], hcap⟩⟩)
            have K5 := K2.then KG (fun b hb => .inr (hlow b hb).1)
            clear O5 G5 KG hO5 hown hacc
            go_wp2
            go_roundw
            case rel => exact ⟨k + 1, by have := HLT.out; omega, by go_num, K5, HFIN.out⟩
            case measure => simp [intOf]; have := HLT.out; omega
        · obtain rfl : k = l.length := by omega
          rw [List.take_length] at hO2
          have hlow := hO2.base
          have hrd : Syms S wr u6 l.flatten := hO2.read symRow_stab (fun b hb => .inl hb) (fun b hb hb' => by have := (hlow b hb).1; have := hS b hb'; omega)
          have HRD := Lib.hid hrd
          clear hrd hroom2
          go_wp2
          go_ret
          exact ⟨⟨_, rfl, HRD.out, fun b hb => (hlow b hb).1⟩, K2⟩
end Go.Proofs.YtkminfdblimiiaaGreatDoor
namespace Go.Proofs.YtkminfdblimiiaaGreatDoor
open Go Go.RowKit Go.MapKept

def boolC (bs : List Bool) : Array Value := (bs.map Value.bool).toArray
theorem boolC_at (bs : List Bool) (i : Nat) (h : i < bs.length) : (boolC bs)[i]? = some (.bool bs[i]) := by simp [boolC, h]
theorem boolC_set (bs : List Bool) (i : Nat) (b : Bool) : (boolC bs).setIfInBounds i (.bool b) = boolC (bs.set i b) := by
  apply Array.ext'
  simp [boolC, List.map_set]
def addI (l : List Int) (x : Int) : List Int := if x ∈ l then l else l ++ [x]
/-- What one symbol turns. -/
def lookF (q : List Bool × List Int) (s : SymS) : List Bool × List Int := if s.k = 2 ∧ q.1[s.n.toNat]? = some false then (q.1.set s.n.toNat true, addI q.2 s.n) else q
theorem lookF_len (q : List Bool × List Int) (s : SymS) : (lookF q s).1.length = q.1.length := by
  unfold lookF
  split <;> simp
theorem lookFold_len (l : List SymS) : ∀ q : List Bool × List Int, (l.foldl lookF q).1.length = q.1.length := by
  induction l with
  | nil => intro q; rfl
  | cons s l ih => intro q; rw [List.foldl_cons, ih, lookF_len]
theorem foldl_take {α β : Type} (f : β → α → β) (b : β) (l : List α) (k : Nat) (h : k < l.length) : (l.take (k + 1)).foldl f b = f ((l.take k).foldl f b) l[k] := by
  rw [List.take_succ_eq_append_getElem h, List.foldl_append]
  rfl

set_option maxRecDepth 20000 in
set_option maxHeartbeats 4000000 in
theorem look_any (S : List Nat) (tb gb ob rb mb cap k : Nat) (A K : Option Addr) (n C m D : Nat) (ps : List ProdS) (out : List Bool) (todo : List Int) (w : World) (hk : k < ps.length) (hn : ps.length ≤ 1000000) (hcat : ∀ p ∈ ps, lens p.a ≤ 1000000)
    (hsym : ∀ p ∈ ps, ∀ a ∈ p.a, ∀ s ∈ a, s.k = 2 → 0 ≤ s.n ∧ s.n < out.length) (hol : out.length ≤ 1000000) (hS : ∀ b ∈ S, b < w.heap.size) (hrS : rb ∈ S) (hmS : mb ∈ S)
    (BT : Blk w tb #[.map (some mb)] 58) (BG : Blk w gb #[.slice A ps.length C, .slice K m D] 25) (BO : Blk w ob #[.slice (some ⟨rb, 0, none⟩) out.length cap] 39) (BR : Blk w rb (boolC out) 4) (HS : SetI w mb todo) (hne : rb ≠ tb ∧ rb ≠ gb ∧ rb ≠ ob)
    (HP : Prods S w (.slice A ps.length C) ps) :
    Calls Tryz.prog 38 #[.int .i64 k, .pointer (some ⟨tb, 0, none⟩), .pointer (some ⟨gb, 0, none⟩), .pointer (some ⟨ob, 0, none⟩)] w fun e w' => e = .returned (.tuple #[]) ∧ Blk w' rb (boolC (ps[k].a.flatten.foldl lookF (out, todo.erase (k : Int))).1) 4 ∧ SetI w' mb (ps[k].a.flatten.foldl lookF (out, todo.erase (k : Int))).2 ∧ Keep [rb, mb] w w' := by
  have hmr : mb ≠ rb := fun e => by
    subst e
    obtain ⟨es, clk, h1, _⟩ := HS
    unfold MapB at h1
    unfold Blk at BR
    rw [h1] at BR
    cases BR
  have hmt : mb ≠ tb := fun e => by
    subst e
    obtain ⟨es, clk, h1, _⟩ := HS
    unfold MapB at h1
    unfold Blk at BT
    rw [h1] at BT
    cases BT
  have hmg : mb ≠ gb := fun e => by
    subst e
    obtain ⟨es, clk, h1, _⟩ := HS
    unfold MapB at h1
    unfold Blk at BG
    rw [h1] at BG
    cases BG
  have hmo : mb ≠ ob := fun e => by
    subst e
    obtain ⟨es, clk, h1, _⟩ := HS
    unfold MapB at h1
    unfold Blk at BO
    rw [h1] at BO
    cases BO
  obtain ⟨w1, hdel, HS1, K1⟩ := set_del HS (k : Int) 0
  have BT1 := BT.keep K1 (by simpa using Ne.symm hmt)
  have BG1 := BG.keep K1 (by simpa using Ne.symm hmg)
  have BO1 := BO.keep K1 (by simpa using Ne.symm hmo)
  have BR1 := BR.keep K1 (by simpa using Ne.symm hmr)
  have HP1 : Prods S w1 (.slice A ps.length C) ps := SlOf.move HP prodRow_stab (by omega) K1 (fun x hx => .inl (by simp at hx; subst hx; exact hmS)) (fun x hx => .inl hx)
  have hP2 := HP1
  obtain ⟨_, _, hv, hlen, hr⟩ := SlOf.at hP2
  simp only [Value.slice.injEq, true_and] at hv
  obtain ⟨rfl, rfl⟩ := hv
  obtain ⟨b, o, rfl, hb, hc⟩ := hr (by omega)
  obtain ⟨prow, hz, hcell, hR⟩ := hc k hk
  have hsk : ∀ s ∈ ps[k].a.flatten, s.k = 2 → 0 ≤ s.n ∧ s.n < out.length := fun s hs => by
    obtain ⟨a, ha, hs⟩ := List.mem_flatten.1 hs
    exact hsym _ (List.getElem_mem _) a ha s hs
  have hlk := hcat _ (List.getElem_mem hk)
  obtain ⟨A2, C2, N2, F2, rfl, hR2, hR3⟩ := hR
  have e0 := hcell 0 (by omega)
  simp at e0
  generalize ps[k].a = al at e0 hR2 hsk hlk ⊢
  have t0 := BT.cell 0
  have g0 := BG1.cell 0
  have hkl : (k : Int) < (ps.length : Int) := by omega
  have hcall := concat_any S _ al w1 hR2 hlk (fun b hb => Nat.lt_of_lt_of_le (hS b hb) K1.size)
  have HC := Lib.hid hcall
  clear hcell hc hr hz hR2 hR3 hcall hsym hcat
  go_enter Tryz.func38, Tryz.ntmps38
  go_wp2_with fail
  refine HC.out.mono ?_
  rintro e w2 ⟨⟨v2, rfl, hsy, hlow⟩, K2⟩
  clear HC hdel HP hP2 HP1
  have BT2 := BT1.keep K2 (by simp)
  have BO2 := BO1.keep K2 (by simp)
  have BR2 := BR1.keep K2 (by simp)
  have HS2 := HS1.keep K2 (by simp)
  have K12 := (K1.mono (S' := [rb, mb]) (by simp)).trans (K2.mono (by simp))
  have hfl := flatten_len al
  have hT0 : Keep [rb, mb] w2 w2 ∧ Blk w2 rb (boolC ((al.flatten.take 0).foldl lookF (out, todo.erase (k : Int))).1) 4 ∧ SetI w2 mb ((al.flatten.take 0).foldl lookF (out, todo.erase (k : Int))).2 := ⟨Keep.refl _ _, BR2, HS2⟩
  have HT0 := Lib.hid hT0
  have hfl2 : al.flatten.length ≤ 1000000 := by omega
  generalize hfe : al.flatten = fl at hsy hsk hfl2 HT0
  have HFE := Lib.hid hfe; clear hfe
  obtain ⟨A4, C4, hv4, _, _⟩ := SlOf.at hsy
  subst hv4
  have HK := Lib.hid (⟨hne, hmr, hmt, hmo⟩ : (rb ≠ tb ∧ rb ≠ gb ∧ rb ≠ ob) ∧ mb ≠ rb ∧ mb ≠ tb ∧ mb ≠ ob)
  clear hT0 BT BG BO BR HS BT1 BG1 BO1 BR1 HS1 BR2 HS2 t0 g0 e0 hfl hlk hne hmr hmt hmo hmg
  have HSK := Lib.hid hsk; clear hsk
  go_wp2
  go_loopw [17] (fun i wr => ∃ j : Nat, j ≤ fl.length ∧ i = .int .i64 j ∧ Keep [rb, mb] w2 wr ∧ Blk wr rb (boolC ((fl.take j).foldl lookF (out, todo.erase (k : Int))).1) 4 ∧ SetI wr mb ((fl.take j).foldl lookF (out, todo.erase (k : Int))).2) (fun i _ => fl.length - (intOf i).toNat)
  case atStart => exact ⟨0, by omega, rfl, HT0.out⟩
  case round =>
    clear HT0
    obtain ⟨j, hj, rfl, Kr, BRr, HSr⟩ := hrel
    by_cases hlt : j < fl.length
    · have hlt' : (j : Int) < (fl.length : Int) := by omega
      have HLT := Lib.hid hlt
      have hsy3 : Syms S wr (.slice A4 fl.length C4) fl := SlOf.move hsy symRow_stab (by omega) Kr (fun x hx => .inl (by simp at hx; rcases hx with rfl | rfl <;> assumption)) (fun x hx => .inl hx)
      obtain ⟨_, _, hv, _, hr⟩ := SlOf.at hsy3
      simp only [Value.slice.injEq, true_and] at hv
      obtain ⟨rfl, rfl⟩ := hv
      obtain ⟨b5, o5, rfl, hb5, hc5⟩ := hr (by omega)
      obtain ⟨srow, hz, hcell, hR⟩ := hc5 j hlt
      obtain ⟨A6, C6, rfl, _⟩ := hR
      have e0 := hcell 0 (by omega)
      have e1 := hcell 1 (by omega)
      have e2 := hcell 2 (by omega)
      simp at e0 e1 e2
      have hsn := HSK.out fl[j] (List.getElem_mem _)
      have HTK : Hid ((fl.take (j + 1)).foldl lookF (out, todo.erase (k : Int)) = lookF ((fl.take j).foldl lookF (out, todo.erase (k : Int))) fl[j]) := Lib.hid (foldl_take _ _ _ _ hlt)
      have hql := lookFold_len (fl.take j) (out, todo.erase (k : Int))
      generalize (fl.take j).foldl lookF (out, todo.erase (k : Int)) = q at BRr HSr HTK hql
      obtain ⟨q1, q2⟩ := q
      generalize fl[j] = s at e0 e1 e2 hsn HTK
      simp only at BRr HSr hql
      have HQL := Lib.hid hql; clear hql
      obtain ⟨⟨n1, n2, n3⟩, n4, n5, n6⟩ := HK.out
      have BTr := BT2.keep Kr (by simp; exact ⟨Ne.symm n1, Ne.symm n5⟩)
      have BOr := BO2.keep Kr (by simp; exact ⟨Ne.symm n3, Ne.symm n6⟩)
      clear hcell hc5 hr hz hsy3
      obtain ⟨sk, sr, sn0⟩ := s
      simp only at e0 e1 e2 hsn
      by_cases h2 : sk = 2
      · subst h2
        obtain ⟨hs0, hs1⟩ := hsn rfl
        obtain ⟨sn, rfl⟩ : ∃ sn : Nat, sn0 = sn := ⟨sn0.toNat, by omega⟩
        have hlq : sn < q1.length := by have := HQL.out; omega
        have hsno : sn < out.length := by omega
        have hsno' : (sn : Int) < (out.length : Int) := by omega
        clear hsn hs0 hs1
        have KA := (Keep.refl [] wr).alloc (.cells #[.int .i64 2, .slice A6 sr.length C6, .int .i64 sn] 45)
        have BRa := BRr.keep KA (by simp)
        have HSa := HSr.keep KA (by simp)
        have BTa := BTr.keep KA (by simp)
        have BOa := BOr.keep KA (by simp)
        have o0 := BOa.cell 0
        have r0 := BRa.cell sn
        rw [boolC_at _ _ hlq] at r0
        cases hq : q1[sn] with
        | true =>
          rw [hq] at r0
          have HFIN : Hid (Keep [rb, mb] w2 (wr.alloc (.cells #[.int .i64 2, .slice A6 sr.length C6, .int .i64 sn] 45)) ∧ Blk (wr.alloc (.cells #[.int .i64 2, .slice A6 sr.length C6, .int .i64 sn] 45)) rb (boolC ((fl.take (j + 1)).foldl lookF (out, todo.erase (k : Int))).1) 4 ∧ SetI (wr.alloc (.cells #[.int .i64 2, .slice A6 sr.length C6, .int .i64 sn] 45)) mb ((fl.take (j + 1)).foldl lookF (out, todo.erase (k : Int))).2) := Lib.hid (by
            rw [HTK.out, lookF, if_neg (by simp [hlq, hq])]
            exact ⟨Kr.trans (KA.mono (by simp)), BRa, HSa⟩)
          clear hq
          go_wp2
          go_roundw
          case rel => exact ⟨j + 1, by have := HLT.out; omega, by go_num, HFIN.out⟩
          case measure => simp [intOf]; have := HLT.out; omega
        | false =>
          rw [hq] at r0
          have HQ := Lib.hid hq; clear hq
          have t0 := BTa.cell 0
          have KS := ((Keep.refl [rb, mb] wr).setCell (p := ⟨rb, sn, none⟩) (by simp) (.bool true)).alloc (.cells #[.int .i64 2, .slice A6 sr.length C6, .int .i64 sn] 45)
          have BRs : Blk ((wr.setCell ⟨rb, sn, none⟩ (.bool true)).alloc (.cells #[.int .i64 2, .slice A6 sr.length C6, .int .i64 sn] 45)) rb (boolC (q1.set sn true)) 4 := by rw [← boolC_set]; exact (BRr.set sn (.bool true)).alloc _
          have HSs : SetI ((wr.setCell ⟨rb, sn, none⟩ (.bool true)).alloc (.cells #[.int .i64 2, .slice A6 sr.length C6, .int .i64 sn] 45)) mb q2 := HSr.keep (((Keep.refl [rb] _).setCell (by simp) _).alloc _) (by simpa using n4)
          obtain ⟨w9, hadd, HS9, K9⟩ := set_add HSs.drew (sn : Int)
          have f0 := BRa.frozen sn
          have HFIN : Hid (Keep [rb, mb] w2 w9 ∧ Blk w9 rb (boolC ((fl.take (j + 1)).foldl lookF (out, todo.erase (k : Int))).1) 4 ∧ SetI w9 mb ((fl.take (j + 1)).foldl lookF (out, todo.erase (k : Int))).2) := Lib.hid (by
            have hq := HQ.out
            rw [HTK.out, lookF, if_pos (by simp [hlq, hq])]
            exact ⟨(Kr.trans KS.drew).trans (K9.mono (by simp)), BRs.drew.keep K9 (by simpa using Ne.symm n4), HS9⟩)
          have t1 := BTr.cell 0
          have s3 := (BTr.setOther ⟨rb, sn, none⟩ (by simp; exact fun e => n1 e.symm) (.bool true)).cell 0
          have s5 := ((BTr.setOther ⟨rb, sn, none⟩ (by simp; exact fun e => n1 e.symm) (.bool true)).alloc (.cells #[.int .i64 2, .slice A6 sr.length C6, .int .i64 sn] 45)).cell 0
          have hrlt := BRr.lt
          have BSs := (Blk.new wr #[.int .i64 2, .slice A6 sr.length C6, .int .i64 sn] 45).setOther ⟨rb, sn, none⟩ (by simp; omega) (.bool true)
          have s2 := BSs.cell 2
          have s4 := (BTa.setOther ⟨rb, sn, none⟩ (by simp; exact fun e => n1 e.symm) (.bool true)).cell 0
          clear BSs HSs BRs KS KA
          go_wp2
          go_region
          all_goals
            go_wp2
            go_roundw
            case rel => exact ⟨j + 1, by have := HLT.out; omega, by go_num, HFIN.out⟩
            case measure => simp [intOf]; have := HLT.out; omega
      · have h2b : (sk == 2) = false := by simpa using h2
        have KA := (Keep.refl [] wr).alloc (.cells #[.int .i64 sk, .slice A6 sr.length C6, .int .i64 sn0] 45)
        have BRa := BRr.keep KA (by simp)
        have HSa := HSr.keep KA (by simp)
        have HFIN : Hid (Keep [rb, mb] w2 (wr.alloc (.cells #[.int .i64 sk, .slice A6 sr.length C6, .int .i64 sn0] 45)) ∧ Blk (wr.alloc (.cells #[.int .i64 sk, .slice A6 sr.length C6, .int .i64 sn0] 45)) rb (boolC ((fl.take (j + 1)).foldl lookF (out, todo.erase (k : Int))).1) 4 ∧ SetI (wr.alloc (.cells #[.int .i64 sk, .slice A6 sr.length C6, .int .i64 sn0] 45)) mb ((fl.take (j + 1)).foldl lookF (out, todo.erase (k : Int))).2) := Lib.hid (by
          rw [HTK.out, lookF, if_neg (by simp [h2])]
          exact ⟨Kr.trans (KA.mono (by simp)), BRa, HSa⟩)
        clear h2 hsn
        go_wp2
        go_roundw
        case rel => exact ⟨j + 1, by have := HLT.out; omega, by go_num, HFIN.out⟩
        case measure => simp [intOf]; have := HLT.out; omega
    · obtain rfl : j = fl.length := by omega
      rw [List.take_length] at BRr HSr
      go_wp2
      go_end0
      exact ⟨rfl, by rw [HFE.out]; exact BRr, by rw [HFE.out]; exact HSr, K12.trans Kr⟩
end Go.Proofs.YtkminfdblimiiaaGreatDoor
namespace Go.Proofs.YtkminfdblimiiaaGreatDoor
open Go Go.RowKit Go.MapKept

def falseN (w : World) (rb : Nat) : Nat := match w.heap[rb]? with
  | some (.cells cs _ _) => cs.toList.countP (fun v => match v with | .bool false => true | _ => false)
  | _ => 0
def entN (w : World) (mb : Nat) : Nat := match w.heap[mb]? with
  | some (.map es _) => es.size
  | _ => 0
def falses (bs : List Bool) : Nat := bs.countP (fun b => !b)
theorem falseN_of {w : World} {rb : Nat} {bs : List Bool} {T : TypeId} (h : Blk w rb (boolC bs) T) : falseN w rb = falses bs := by
  unfold Blk at h
  unfold falseN
  rw [h]
  simp only [boolC, falses, List.countP_map]
  congr 1
  funext b
  cases b <;> rfl
theorem entN_of {w : World} {mb : Nat} {l : List Int} (h : SetI w mb l) : entN w mb = l.length := by
  obtain ⟨es, clk, h1, h2⟩ := h
  have h3 := congrArg List.length h2
  unfold MapB at h1
  unfold entN
  rw [h1]
  simpa using h3
def stepF (ps : List ProdS) (q : List Bool × List Int) (k : Nat) : List Bool × List Int := match ps[k]? with
  | some p => if (k : Int) ∈ q.2 then p.a.flatten.foldl lookF (q.1, q.2.erase (k : Int)) else q
  | none => q
def passF (ps : List ProdS) (k : Nat) (q : List Bool × List Int) : List Bool × List Int := (List.range k).foldl (stepF ps) q
theorem passF_succ (ps : List ProdS) (k : Nat) (q : List Bool × List Int) : passF ps (k + 1) q = stepF ps (passF ps k q) k := by
  unfold passF
  rw [List.range_succ, List.foldl_append]
  rfl
def pot (q : List Bool × List Int) : Nat := 2 * falses q.1 + q.2.length
theorem falses_set : ∀ (bs : List Bool) (i : Nat), bs[i]? = some false → falses (bs.set i true) + 1 = falses bs
  | [], i, h => by simp at h
  | b :: bs, 0, h => by
    simp at h
    subst h
    simp [falses, List.countP_cons]
  | b :: bs, i + 1, h => by
    have ih := falses_set bs i (by simpa using h)
    simp only [falses, List.set_cons_succ, List.countP_cons] at ih ⊢
    omega
theorem lookF_pot (q : List Bool × List Int) (s : SymS) : pot (lookF q s) ≤ pot q := by
  unfold lookF
  split
  · rename_i h
    have h1 := falses_set q.1 s.n.toNat h.2
    have h2 : (addI q.2 s.n).length ≤ q.2.length + 1 := by unfold addI; split <;> simp
    unfold pot
    simp only
    omega
  · exact Nat.le_refl _
theorem lookFold_pot (l : List SymS) : ∀ q, pot (l.foldl lookF q) ≤ pot q := by
  induction l with
  | nil => intro q; exact Nat.le_refl _
  | cons s l ih => intro q; exact Nat.le_trans (ih _) (lookF_pot q s)
theorem stepF_pot (ps : List ProdS) (q : List Bool × List Int) (k : Nat) : stepF ps q k = q ∨ pot (stepF ps q k) < pot q := by
  unfold stepF
  split
  · split
    · rename_i p hp hk
      right
      refine Nat.lt_of_le_of_lt (lookFold_pot _ _) ?_
      have := List.length_erase_of_mem hk
      have h0 : 0 < q.2.length := List.length_pos_of_mem hk
      unfold pot
      simp only [this]
      omega
    · exact .inl rfl
  · exact .inl rfl
theorem stepF_strict (ps : List ProdS) (q : List Bool × List Int) (k : Nat) (hk : k < ps.length) (h : (k : Int) ∈ q.2) : pot (stepF ps q k) < pot q := by
  unfold stepF
  rw [List.getElem?_eq_getElem hk]
  simp only [h, if_true]
  refine Nat.lt_of_le_of_lt (lookFold_pot _ _) ?_
  have := List.length_erase_of_mem h
  have h0 : 0 < q.2.length := List.length_pos_of_mem h
  unfold pot
  simp only [this]
  omega
theorem passF_pot (ps : List ProdS) (q : List Bool × List Int) : ∀ k, passF ps k q = q ∨ pot (passF ps k q) < pot q
  | 0 => .inl rfl
  | k + 1 => by
    rw [passF_succ]
    rcases passF_pot ps q k with h | h
    · rw [h]; exact stepF_pot ps q k
    · rcases stepF_pot ps (passF ps k q) k with h2 | h2
      · rw [h2]; exact .inr h
      · exact .inr (Nat.lt_trans h2 h)
theorem passF_strict (ps : List ProdS) (q : List Bool × List Int) (x : Nat) (hx : x < ps.length) (h : (x : Int) ∈ q.2) : ∀ k, x < k → pot (passF ps k q) < pot q
  | 0, h0 => by omega
  | k + 1, h0 => by
    rw [passF_succ]
    by_cases e : x = k
    · subst e
      rcases passF_pot ps q x with h1 | h1
      · rw [h1]; exact stepF_strict ps q x hx h
      · rcases stepF_pot ps (passF ps x q) x with h2 | h2
        · rw [h2]; exact h1
        · exact Nat.lt_trans h2 h1
    · have h1 := passF_strict ps q x hx h k (by omega)
      rcases stepF_pot ps (passF ps k q) k with h2 | h2
      · rw [h2]; exact h1
      · exact Nat.lt_trans h2 h1
/-- Who is to be looked at yet, is one of so many. -/
def OkQ (n : Nat) (q : List Bool × List Int) : Prop := q.1.length = n ∧ ∀ x ∈ q.2, 0 ≤ x ∧ x < n
theorem okQ_look {n : Nat} {q : List Bool × List Int} (h : OkQ n q) {s : SymS} (hs : s.k = 2 → 0 ≤ s.n ∧ s.n < n) : OkQ n (lookF q s) := by
  refine ⟨(lookF_len q s).trans h.1, fun x hx => ?_⟩
  unfold lookF at hx
  split at hx
  · rename_i hc
    unfold addI at hx
    split at hx
    · exact h.2 x hx
    · rcases List.mem_append.1 hx with hx | hx
      · exact h.2 x hx
      · simp at hx; subst hx; exact hs hc.1
  · exact h.2 x hx
theorem okQ_fold {n : Nat} : ∀ (l : List SymS) {q : List Bool × List Int}, OkQ n q → (∀ s ∈ l, s.k = 2 → 0 ≤ s.n ∧ s.n < n) → OkQ n (l.foldl lookF q)
  | [], q, h, _ => h
  | s :: l, q, h, hs => okQ_fold l (okQ_look h (hs s List.mem_cons_self)) (fun t ht => hs t (List.mem_cons_of_mem _ ht))
theorem okQ_step {ps : List ProdS} {n : Nat} {q : List Bool × List Int} (h : OkQ n q) (hs : ∀ p ∈ ps, ∀ a ∈ p.a, ∀ s ∈ a, s.k = 2 → 0 ≤ s.n ∧ s.n < n) (k : Nat) : OkQ n (stepF ps q k) := by
  unfold stepF
  split
  · rename_i p hp
    split
    · refine okQ_fold _ ⟨h.1, fun x hx => h.2 x (List.mem_of_mem_erase hx)⟩ (fun s hs2 => ?_)
      obtain ⟨a, ha, hs2⟩ := List.mem_flatten.1 hs2
      exact hs p (List.mem_of_getElem? hp) a ha s hs2
    · exact h
  · exact h
theorem okQ_pass {ps : List ProdS} {n : Nat} {q : List Bool × List Int} (h : OkQ n q) (hs : ∀ p ∈ ps, ∀ a ∈ p.a, ∀ s ∈ a, s.k = 2 → 0 ≤ s.n ∧ s.n < n) : ∀ k, OkQ n (passF ps k q)
  | 0 => h
  | k + 1 => by rw [passF_succ]; exact okQ_step (okQ_pass h hs k) hs k
def fromL (ps : List ProdS) : Nat → List Bool × List Int → List Bool
  | 0, q => q.1
  | f + 1, q => if q.2 = [] then q.1 else fromL ps f (passF ps ps.length q)
/-- Whom a nonterminal comes to. -/
def fromF (ps : List ProdS) (n : Int) : List Bool := fromL ps (2 * ps.length + 2) (List.replicate ps.length false, [n])
theorem lookFold_len' (l : List SymS) (q : List Bool × List Int) : (l.foldl lookF q).1.length = q.1.length := lookFold_len l q
theorem stepF_len (ps : List ProdS) (q : List Bool × List Int) (k : Nat) : (stepF ps q k).1.length = q.1.length := by
  unfold stepF
  split
  · split
    · exact lookFold_len _ _
    · rfl
  · rfl
theorem passF_len (ps : List ProdS) (q : List Bool × List Int) : ∀ k, (passF ps k q).1.length = q.1.length
  | 0 => rfl
  | k + 1 => by rw [passF_succ, stepF_len, passF_len ps q k]
theorem fromL_len (ps : List ProdS) : ∀ f q, (fromL ps f q).length = q.1.length
  | 0, q => rfl
  | f + 1, q => by
    unfold fromL
    split
    · rfl
    · rw [fromL_len ps f, passF_len]
theorem fromF_len (ps : List ProdS) (n : Int) : (fromF ps n).length = ps.length := by simp [fromF, fromL_len]
end Go.Proofs.YtkminfdblimiiaaGreatDoor
namespace Go.Proofs.YtkminfdblimiiaaGreatDoor
open Go Go.RowKit Go.MapKept

theorem gmay_sym {ps : List ProdS} (h : gmay ps = true) : ∀ p ∈ ps, ∀ a ∈ p.a, ∀ s ∈ a, s.k = 2 → 0 ≤ s.n ∧ s.n < ps.length := by
  unfold gmay at h
  simp only [Bool.and_eq_true, Bool.not_eq_true', List.any_eq_false] at h
  intro p hp a ha s hs hk
  have h1 := h.1.1 p hp
  unfold prodBad at h1
  simp only [Bool.not_eq_true, Bool.or_eq_false_iff, List.any_eq_false] at h1
  have h2 := h1.2 a ha
  unfold altOdd at h2
  simp only [Bool.not_eq_true, Bool.or_eq_false_iff, List.any_eq_false] at h2
  have h3 := h2.2 s hs
  unfold symBad at h3
  rw [if_neg (by omega), if_pos hk] at h3
  simp at h3
  omega
theorem gmay_lens {ps : List ProdS} (h : gmay ps = true) : ∀ p ∈ ps, lens p.a ≤ 1000000 := by
  unfold gmay at h
  simp only [Bool.and_eq_true, Bool.not_eq_true', List.any_eq_false] at h
  intro p hp
  have h1 := h.1.1 p hp
  unfold prodBad at h1
  simp only [Bool.not_eq_true, Bool.or_eq_false_iff, List.any_eq_false, decide_eq_false_iff_not] at h1
  have h8 : p.a.length ≤ 8 := by omega
  have h40 : ∀ a ∈ p.a, a.length ≤ 40 := fun a ha => by
    have h2 := h1.2 a ha
    unfold altOdd at h2
    simp only [Bool.not_eq_true, Bool.or_eq_false_iff, decide_eq_false_iff_not] at h2
    omega
  have : ∀ l : List (List SymS), (∀ a ∈ l, a.length ≤ 40) → lens l ≤ 40 * l.length := by
    intro l
    induction l with
    | nil => intro _; simp [lens]
    | cons a l ih =>
      intro hl
      have h1 := ih (fun b hb => hl b (List.mem_cons_of_mem _ hb))
      have h2 := hl a List.mem_cons_self
      simp only [lens, List.map_cons, List.sum_cons, List.length_cons] at h1 ⊢
      omega
  have := this p.a h40
  omega
theorem gmay_len {ps : List ProdS} (h : gmay ps = true) : 0 < ps.length ∧ ps.length ≤ 60 := by
  unfold gmay at h
  simp only [Bool.and_eq_true, decide_eq_true_eq] at h
  exact ⟨h.1.2, h.2⟩
theorem info_bool : (Tryz.prog.info? 4).map (fun i => (i.zero, i.size, i.bytes)) = some (some (.bool false), 1, 1) := by kernel_rfl
theorem make_bools (w : World) (n : Nat) (hn : n ≤ 1000000) : (Instr.makeSlice 39 (.int .i64 n) (.int .i64 n)).run Tryz.prog w = .ok (.slice (some ⟨w.heap.size, 0, none⟩) n n) (w.alloc (.cells (boolC (List.replicate n false)) 4)) := by
  obtain ⟨i0, hi0, hz0, hz1, hz2⟩ := info_parts info_bool
  have h := run_make (P := Tryz.prog) (w := w) 39 4 i0 (.bool false) Tryz.underlying39 hi0 hz0 .i64 .i64 n n (by omega) (by omega) (by rw [hz2]; omega) (by omega)
  rw [h, hz1]
  have e : madeCells (Value.bool false).cells ((n : Int).toNat * 1) = boolC (List.replicate n false) := by
    apply Array.ext'
    have h1 : (madeCells (Value.bool false).cells ((n : Int).toNat * 1)).toList = List.replicate ((n : Int).toNat * 1) (.bool false) := toList_madeCells_one _ _
    rw [h1]
    simp [boolC]
  rw [e]
  simp
/-- The head of a round of From's loops; n0: where the world stood before them. -/
def FrAt (rb mb : Nat) (w4 : World) (q : List Bool × List Int) (wr : World) : Prop := Keep [rb, mb] w4 wr ∧ Blk wr rb (boolC q.1) 4 ∧ SetI wr mb q.2
/-- What From hands back. -/
def fromR (ps : List ProdS) (n : Int) : List Bool := if gmay ps = true ∧ 0 ≤ n ∧ n < ps.length then fromF ps n else []
/-- A row of bools of the call's own, or none. -/
def BoolV (w : World) (lo : Nat) (v : Value) (bs : List Bool) : Prop := (bs = [] ∧ v = .slice none 0 0) ∨ (bs ≠ [] ∧ ∃ rb, v = .slice (some ⟨rb, 0, none⟩) bs.length bs.length ∧ Blk w rb (boolC bs) 4 ∧ lo ≤ rb)

set_option maxRecDepth 20000 in
set_option maxHeartbeats 4000000 in
theorem from_any (S : List Nat) (A K : Option Addr) (C m D : Nat) (ps : List ProdS) (n : Int) (w : World) (HP : Prods S w (.slice A ps.length C) ps) (hS : ∀ b ∈ S, b < w.heap.size) :
    Calls Tryz.prog 20 #[.agg #[.slice A ps.length C, .slice K m D], .int .i64 n] w fun e w' => (∃ v, e = .returned v ∧ BoolV w' w.heap.size v (fromR ps n)) ∧ Keep [] w w' := by
  have K0 := (Keep.refl [] w).alloc (.cells #[.slice A ps.length C, .slice K m D] 25)
  have HP0 : Prods S _ (.slice A ps.length C) ps := SlOf.move HP prodRow_stab (by omega) K0 (by simp) (fun x hx => .inl hx)
  have B0 := Blk.new w #[.slice A ps.length C, .slice K m D] 25
  have hcall := may_any S (.slice A ps.length C) (.slice K m D) ps _ HP0
  have HC := Lib.hid hcall; clear hcall
  have hb0 : BoolV w w.heap.size (.slice none 0 0) [] := .inl ⟨rfl, rfl⟩
  cases hg : gmay ps with
  | false =>
    have hr : fromR ps n = [] := by simp [fromR, hg]
    rw [hr]
    go_enter Tryz.func20, Tryz.ntmps20
    go_wp2_with fail
    refine HC.out.mono ?_
    rintro e w1 ⟨rfl, K1⟩
    rw [hg]
    go_wp2
    go_ret
    exact ⟨⟨_, rfl, .inl ⟨rfl, rfl⟩⟩, K0.trans K1⟩
  | true =>
    obtain ⟨hl0, hl1⟩ := gmay_len hg
    by_cases h0 : n < 0
    · have hr : fromR ps n = [] := by simp only [fromR]; rw [if_neg (by omega)]
      rw [hr]
      go_enter Tryz.func20, Tryz.ntmps20
      go_wp2_with fail
      refine HC.out.mono ?_
      rintro e w1 ⟨rfl, K1⟩
      rw [hg]
      go_wp2
      go_ret
      exact ⟨⟨_, rfl, .inl ⟨rfl, rfl⟩⟩, K0.trans K1⟩
    · by_cases h1 : (ps.length : Int) ≤ n
      · have hr : fromR ps n = [] := by simp only [fromR]; rw [if_neg (by omega)]
        rw [hr]
        have h0' : 0 ≤ n := by omega
        go_enter Tryz.func20, Tryz.ntmps20
        go_wp2_with fail
        refine HC.out.mono ?_
        rintro e w1 ⟨rfl, K1⟩
        rw [hg]
        have b0 := (B0.keep K1 (by simp)).cell 0
        go_wp2
        go_ret
        exact ⟨⟨_, rfl, .inl ⟨rfl, rfl⟩⟩, K0.trans K1⟩
      · have h0' : 0 ≤ n := by omega
        have h1' : n < (ps.length : Int) := by omega
        have hr : fromR ps n = fromF ps n := by simp only [fromR]; rw [if_pos ⟨hg, h0', h1'⟩]
        rw [hr]
        obtain ⟨n, rfl⟩ : ∃ k : Nat, n = k := ⟨n.toNat, by omega⟩
        have hd0 : decide ((n : Int) < 0) = false := by simp
        have hd1 : decide (ps.length ≤ n) = false := by simp; omega
        clear hr h0 h1
        go_enter Tryz.func20, Tryz.ntmps20
        go_wp2_with fail
        refine HC.out.mono ?_
        rintro e w1 ⟨rfl, K1⟩
        rw [hg]
        have B1 := B0.keep K1 (by simp)
        have b0 := B1.cell 0
        have hmk := make_bools w1 ps.length (by omega)
        have hmm := @run_makeMap Tryz.prog
        have W2s : (((w1.alloc (.cells (boolC (List.replicate ps.length false)) 4)).alloc (.cells #[.slice (some ⟨w1.heap.size, 0, none⟩) ps.length ps.length] 39)).heap.size = w1.heap.size + 1 + 1) := by simp
        have HS0 := SetI.new ((w1.alloc (.cells (boolC (List.replicate ps.length false)) 4)).alloc (.cells #[.slice (some ⟨w1.heap.size, 0, none⟩) ps.length ps.length] 39)) 0
        rw [W2s] at HS0
        clear W2s
        obtain ⟨w3, hadd, HS3, K3⟩ := set_add HS0 (n : Int)
        have BR0 := (((Blk.new w1 (boolC (List.replicate ps.length false)) 4).alloc (.cells #[.slice (some ⟨w1.heap.size, 0, none⟩) ps.length ps.length] 39)).alloc (.map #[] 0)).keep K3 (by simp; omega)
        have BO0 := ((Blk.new' (w1.alloc (.cells (boolC (List.replicate ps.length false)) 4)) #[.slice (some ⟨w1.heap.size, 0, none⟩) ps.length ps.length] 39 (b := w1.heap.size + 1) (by simp)).alloc (.map #[] 0)).keep K3 (by simp)
        have KA := ((((Keep.refl [] w1).alloc (.cells (boolC (List.replicate ps.length false)) 4)).alloc (.cells #[.slice (some ⟨w1.heap.size, 0, none⟩) ps.length ps.length] 39)).alloc (.map #[] 0)).then K3 (by simp; omega)
        have K4 := (Keep.refl [] w3).alloc (.cells #[.map (some (w1.heap.size + 1 + 1))] 58)
        have BR4 := BR0.keep K4 (by simp)
        have BO4 := BO0.keep K4 (by simp)
        have BT4 := Blk.new w3 #[.map (some (w1.heap.size + 1 + 1))] 58
        have HS4 := HS3.keep K4 (by simp)
        have K14 := KA.trans K4
        have BG4 := B1.keep K14 (by simp)
        have HP4 : Prods (w1.heap.size :: (w1.heap.size + 1 + 1) :: S) _ (.slice A ps.length C) ps := SlOf.move (S := S) (SlOf.move (S' := S) HP0 prodRow_stab (by omega) K1 (by simp) (fun x hx => .inl hx)) prodRow_stab (by omega) K14 (by simp) (fun x hx => by
          rcases List.mem_cons.1 hx with rfl | hx
          · exact .inr (Nat.le_refl _)
          · rcases List.mem_cons.1 hx with rfl | hx
            · exact .inr (by omega)
            · exact .inl hx)
        have hsz3 : w1.heap.size + 1 + 1 + 1 ≤ w3.heap.size := by have := K3.size; simp at this; exact this
        have hszw : w.heap.size < w1.heap.size := B1.lt
        have hT0 : ∃ f q, fromL ps f q = fromF ps n ∧ pot q < f ∧ OkQ ps.length q ∧ FrAt w1.heap.size (w1.heap.size + 1 + 1) (w3.alloc (.cells #[.map (some (w1.heap.size + 1 + 1))] 58)) q (w3.alloc (.cells #[.map (some (w1.heap.size + 1 + 1))] 58)) :=
          ⟨_, (List.replicate ps.length false, [(n : Int)]), rfl, by simp [pot, falses, List.countP_replicate] <;> omega, ⟨by simp, fun x hx => by simp at hx; subst hx; omega⟩, Keep.refl _ _, BR4, by simpa using HS4⟩
        have HT0 := Lib.hid hT0
        have HBT := Lib.hid BT4
        have HBO := Lib.hid BO4
        have HBG := Lib.hid BG4
        have HPP := Lib.hid HP4
        have HKK := Lib.hid (K0.trans (K1.trans K14))
        have HSS : Hid (∀ b ∈ w1.heap.size :: (w1.heap.size + 1 + 1) :: S, b < (w3.alloc (.cells #[.map (some (w1.heap.size + 1 + 1))] 58)).heap.size) := Lib.hid (fun x hx => by
          rcases List.mem_cons.1 hx with rfl | hx
          · simp <;> omega
          · rcases List.mem_cons.1 hx with rfl | hx
            · simp <;> omega
            · have := hS x hx; simp; omega)
        have hmf : ∀ (fn : Fn) (first cap : Array Value) (w : World), (Instr.makeFunc fn first cap).run Tryz.prog w = .ok (.func fn first cap) w := fun _ _ _ _ => rfl
        have HG := Lib.hid hg
        clear hT0 BT4 BO4 BG4 HP4 K14 BR4 HS4 K4 KA BO0 BR0 HS0 HS3 K3 HP0 HP K0 hg B0
        go_wp2_with fail
        clear hadd hmk hmm b0
        go_loopw [8] (fun _ wr => ∃ f q, fromL ps f q = fromF ps n ∧ pot q < f ∧ OkQ ps.length q ∧ FrAt w1.heap.size (w1.heap.size + 1 + 1) (w3.alloc (.cells #[.map (some (w1.heap.size + 1 + 1))] 58)) q wr) (fun _ wr => 2 * falseN wr w1.heap.size + entN wr (w1.heap.size + 1 + 1))
        case atStart => exact HT0.out
        case round =>
          clear HT0
          obtain ⟨f, q, hgo, hpf, hok, Kr, BRr, HSr⟩ := hrel
          have BTr := HBT.out.keep Kr (by simp; omega)
          have BOr := HBO.out.keep Kr (by simp)
          have BGr := HBG.out.keep Kr (by simp; omega)
          have t0 := BTr.cell 0
          have g0 := BGr.cell 0
          have o0 := BOr.cell 0
          have hlen := fun ty => set_len HSr ty
          obtain ⟨f, rfl⟩ : ∃ m, f = m + 1 := ⟨f - 1, by omega⟩
          by_cases hq0 : q.2 = []
          · have hq0' : q.2.length = 0 := by rw [hq0]; rfl
            rw [hq0'] at hlen
            have hres : fromF ps (n : Int) = q.1 := by rw [← hgo]; simp [fromL, hq0]
            have hql : q.1.length = ps.length := hok.1
            have HFIN : Hid (BoolV wr w.heap.size (.slice (some ⟨w1.heap.size, 0, none⟩) ps.length ps.length) (fromF ps (n : Int)) ∧ Keep [] w wr) := Lib.hid ⟨.inr ⟨by rw [hres]; intro e; rw [e] at hql; simp at hql; omega, _, by rw [hres, hql], by rw [hres]; exact BRr, by omega⟩, HKK.out.then Kr (fun x hx => by simp at hx; rcases hx with rfl | rfl <;> (right; omega))⟩
            clear hgo hok BRr HSr hq0 hres hql hpf
            go_wp2
            go_ret
            exact ⟨⟨_, rfl, HFIN.out.1⟩, HFIN.out.2⟩
          · have hql0 : 0 < q.2.length := List.length_pos_iff.2 hq0
            have hql0' : (0 : Int) < (q.2.length : Int) := by omega
            obtain ⟨x, hx⟩ := List.exists_mem_of_ne_nil _ hq0
            obtain ⟨hx0, hx1⟩ := hok.2 x hx
            obtain ⟨x, rfl⟩ : ∃ y : Nat, x = y := ⟨x.toNat, by omega⟩
            have hst := passF_strict ps q x (by omega) hx ps.length (by omega)
            have hgo2 : fromL ps f (passF ps ps.length q) = fromF ps n := by rw [← hgo]; simp [fromL, hq0]
            have hok2 := okQ_pass hok (gmay_sym HG.out) ps.length
            have hm1 : 2 * falseN wr w1.heap.size + entN wr (w1.heap.size + 1 + 1) = pot q := by rw [falseN_of BRr, entN_of HSr]; rfl
            have HHH : Hid (pot (passF ps ps.length q) < pot q ∧ pot q < f + 1 ∧ fromL ps f (passF ps ps.length q) = fromF ps n ∧ OkQ ps.length (passF ps ps.length q) ∧ OkQ ps.length q ∧ 2 * falseN wr w1.heap.size + entN wr (w1.heap.size + 1 + 1) = pot q) := Lib.hid ⟨hst, hpf, hgo2, hok2, hok, hm1⟩
            have hT1 : FrAt w1.heap.size (w1.heap.size + 1 + 1) (w3.alloc (.cells #[.map (some (w1.heap.size + 1 + 1))] 58)) (passF ps 0 q) wr := ⟨Kr, BRr, HSr⟩
            have HT1 := Lib.hid hT1
            clear hst hgo2 hok2 hm1 hT1 hpf hgo hok hq0 hx hx0 hx1 Kr BRr HSr BTr BOr BGr
            go_wp2_with fail
            clear t0 o0 hlen g0
            obtain ⟨wo, rfl⟩ : ∃ wo : World, wo = wr := ⟨_, rfl⟩
            go_loopw [8, 37] (fun _ i wr => ∃ k : Nat, k ≤ ps.length ∧ i = .int .i64 k ∧ FrAt w1.heap.size (w1.heap.size + 1 + 1) (w3.alloc (.cells #[.map (some (w1.heap.size + 1 + 1))] 58)) (passF ps k q) wr) (fun _ i _ => ps.length - (intOf i).toNat)
            case atStart => exact ⟨0, by omega, rfl, HT1.out⟩
            case round =>
              clear HT1
              obtain ⟨k, hk, rfl, Kr, BRr, HSr⟩ := hrel
              by_cases hlt : k < ps.length
              · have hlt' : (k : Int) < (ps.length : Int) := by omega
                have HLT := Lib.hid hlt
                have BTr := HBT.out.keep Kr (by simp; omega)
                have BOr := HBO.out.keep Kr (by simp)
                have BGr := HBG.out.keep Kr (by simp; omega)
                have t0 := BTr.cell 0
                have HSU : Hid (passF ps (k + 1) q = stepF ps (passF ps k q) k) := Lib.hid (passF_succ _ _ _)
                have hql : (passF ps k q).1.length = ps.length := by rw [passF_len]; exact HHH.out.2.2.2.2.1.1
                generalize passF ps k q = q' at BRr HSr HSU hql
                have hlook := set_look HSr (k : Int)
                by_cases hin : (k : Int) ∈ q'.2
                · have hdec : decide ((k : Int) ∈ q'.2) = true := by simp [hin]
                  rw [hdec] at hlook
                  have hcall := look_any (w1.heap.size :: (w1.heap.size + 1 + 1) :: S) w3.heap.size w.heap.size (w1.heap.size + 1) w1.heap.size (w1.heap.size + 1 + 1) ps.length k A K 0 C m D ps q'.1 q'.2 wr hlt (by omega) (gmay_lens HG.out) (by rw [hql]; exact gmay_sym HG.out) (by omega) (fun b hb => Nat.lt_of_lt_of_le (HSS.out b hb) Kr.size) (by simp) (by simp)
                    BTr BGr (by rw [hql]; exact BOr) BRr HSr ⟨by omega, by omega, by omega⟩ (SlOf.move HPP.out prodRow_stab (by omega) Kr (fun x hx => .inl (by simp at hx ⊢; rcases hx with h | h <;> simp [h])) (fun x hx => .inl hx))
                  have HC := Lib.hid hcall
                  have HST : Hid (stepF ps q' k = ps[k].a.flatten.foldl lookF (q'.1, q'.2.erase (k : Int))) := Lib.hid (by unfold stepF; rw [List.getElem?_eq_getElem hlt]; simp only [hin, if_true]; rfl)
                  have HKr := Lib.hid Kr
                  clear hcall hin hdec hql BTr BOr BGr BRr HSr Kr
                  go_wp2_with fail
                  refine HC.out.mono ?_
                  rintro e w5 ⟨rfl, BR5, HS5, K5⟩
                  have HFIN : Hid (FrAt w1.heap.size (w1.heap.size + 1 + 1) (w3.alloc (.cells #[.map (some (w1.heap.size + 1 + 1))] 58)) (passF ps (k + 1) q) w5) := Lib.hid ⟨HKr.out.trans K5, by rw [HSU.out, HST.out]; exact BR5, by rw [HSU.out, HST.out]; exact HS5⟩
                  clear hlook t0 HC BR5 HS5 K5
                  go_wp2
                  go_roundw
                  case rel => exact ⟨k + 1, by have := HLT.out; omega, by go_num, HFIN.out⟩
                  case measure => simp [intOf]; have := HLT.out; omega
                · have hdec : decide ((k : Int) ∈ q'.2) = false := by simp [hin]
                  rw [hdec] at hlook
                  have hst : stepF ps q' k = q' := by unfold stepF; rw [List.getElem?_eq_getElem hlt]; simp only [hin, if_false]
                  have HFIN : Hid (FrAt w1.heap.size (w1.heap.size + 1 + 1) (w3.alloc (.cells #[.map (some (w1.heap.size + 1 + 1))] 58)) (passF ps (k + 1) q) wr) := Lib.hid ⟨Kr, by rw [HSU.out, hst]; exact BRr, by rw [HSU.out, hst]; exact HSr⟩
                  clear hst hin hdec hql BTr BOr BGr BRr HSr Kr
                  go_wp2
                  go_roundw
                  case rel => exact ⟨k + 1, by have := HLT.out; omega, by go_num, HFIN.out⟩
                  case measure => simp [intOf]; have := HLT.out; omega
              · obtain rfl : k = ps.length := by omega
                obtain ⟨p1, p2, p3, p4, p5, p6⟩ := HHH.out
                have hm2 : 2 * falseN wr w1.heap.size + entN wr (w1.heap.size + 1 + 1) = pot (passF ps ps.length q) := by rw [falseN_of BRr, entN_of HSr]; rfl
                have HFIN : Hid ((∃ f q, fromL ps f q = fromF ps n ∧ pot q < f ∧ OkQ ps.length q ∧ FrAt w1.heap.size (w1.heap.size + 1 + 1) (w3.alloc (.cells #[.map (some (w1.heap.size + 1 + 1))] 58)) q wr) ∧ 2 * falseN wr w1.heap.size + entN wr (w1.heap.size + 1 + 1) < 2 * falseN wo w1.heap.size + entN wo (w1.heap.size + 1 + 1)) := Lib.hid ⟨⟨f, passF ps ps.length q, p3, by omega, p4, Kr, BRr, HSr⟩, by omega⟩
                clear p1 p2 p3 p4 p5 p6 hm2 BRr HSr Kr
                go_wp2
                exact HFIN.out
end Go.Proofs.YtkminfdblimiiaaGreatDoor
