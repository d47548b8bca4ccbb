/- Who is empty: the walk of null.of. -/
import Derived.Test.YtbpidoiellcccaaGreatDoorK18
import Derived.Maps.OwnIn
set_option linter.unusedVariables false
set_option linter.unusedSimpArgs false
namespace Go.Proofs.YtbpidoiellcccaaGreatDoor
open Go Go.RowKit Go.MapKept Go.Shelf
attribute [local go_sem] Oper.semAt_some

/-- A step that turns a block that is new since w. -/
theorem NAt.put {w W : World} {mb : Nat} {L : List Int} (h : NAt w mb L W) {l : Nat} {o : Obj} (hl : w.heap.size ≤ l) (hm : mb < w.heap.size) : NAt w mb L (W.putObj l o) := by
  obtain ⟨K, es, clk, h1, h2⟩ := h
  refine ⟨⟨K.os, K.tape, K.output, ?_, fun k hk hS => ?_⟩, es, clk, ?_, h2⟩
  · have := K.size
    simpa [World.putObj] using this
  · rw [World.putObj_heap_other (by omega)]
    exact K.block k hk hS
  · unfold MapB at h1 ⊢
    rw [World.putObj_heap_other (by omega)]
    exact h1
/-- A loop over a function whose body adds to a set that the function reads: the loop's record and the block of its deferred calls lie beside the set. -/
theorem range_set {P : Program} {n gf : Nat} {lb : Array Value} {g : Operand} {ps : Array Tmp} {assign body : Code} {Q : Exit → Act → World → Prop} {a : Act} {w : World} (mb : Nat) (hmb : mb < w.heap.size) (Lf : List Int) (a₁ : Nat → Act)
    (h1 : 1 ≤ n) (hg : a.eval g = .func (.func gf) #[] lb) (eg : ∀ args w, (callFunc gf args).run P w = .ok (.enter gf args) w) (hps : ps.size = 1) (h0 : SetI w mb [])
    (hassign : ∀ (l x : Nat) (W : World) (K : Act → World → Prop), K (a₁ x) W → assign.wpIn (Fence.wide.inRound l) (n - 1 - 1) P (Exit.then K (fun _ _ _ => False)) { tmps := (ps.zip #[Value.int .i64 x]).foldl (fun t (p, v) => t.setIfInBounds p v) a.tmps, defers := [] } W)
    (hbody : ∀ (l x : Nat) (L : List Int) (W : World), NAt w mb L W → (x : Int) ∉ L → body.wpIn (Fence.wide.inRound l) (n - 1 - 1) P (fun e _ W' => e = .normal ∧ NAt w mb (L ++ [(x : Int)]) W' ∧ Keep [mb] W W') (a₁ x) W)
    (hseq : ∀ (l : Nat) (B : World → Prop) (W : World), (∀ W W', Keep [] W W' → B W → B W') → (∀ (L : List Int) (x : Nat) (W1 : World), NAt w mb L W1 → B W1 → (x : Int) ∉ L → YieldAt Fence.wide (n - 1 - 1) P l #[.int .i64 x] W1 fun e W' => e = .returned (.bool true) ∧ NAt w mb (L ++ [(x : Int)]) W' ∧ B W') →
      NAt w mb [] W → B W → CallsIn Fence.wide (n - 1) P gf (#[.func (.yield l) #[] #[]] ++ lb) W fun e W' => (∃ v, e = .returned v) ∧ NAt w mb Lf W' ∧ B W')
    (hdone : ∀ (D : Nat) (W : World), w.heap.size ≤ D → NAt w mb Lf W → W.heap[D]? = some (.deferred (some [])) → Q .normal { a with defers := { target := .collected D, args := #[] } :: a.defers } W) :
    (Code.rangeFunc g ps assign body).wpIn Fence.wide n P Q a w := by
  refine wpIn_rangeFunc fun fn hfn => ?_
  obtain ⟨R, hR⟩ : ∃ R : LoopState → Loop, R = fun st => { state := st, pending := Option.none, fn := fn, tmps := a.tmps, params := ps, assign := assign, body := body, defers := w.heap.size } := ⟨_, rfl⟩
  obtain ⟨W1, hW1⟩ : ∃ W, W = (w.alloc (.deferred (some []))).alloc (.loop (R .ready)) := ⟨_, rfl⟩
  have b0 : W1.heap[w.heap.size + 1]? = some (.loop (R .ready)) ∧ W1.heap[w.heap.size]? = some (.deferred (some [])) := by
    rw [hW1]
    constructor
    · have := World.alloc_heap_new (w.alloc (.deferred (some []))) (.loop (R .ready))
      rwa [World.size_alloc] at this
    · exact (Below.heap_alloc _ _ _ (by simp)).trans (World.alloc_heap_new w _)
  have n0 : NAt w mb [] W1 := by
    rw [hW1]
    have k := ((Keep.refl [] w).alloc (.deferred (some []))).alloc (.loop (R .ready))
    exact ⟨k.mono (by simp), h0.keep k (by simp)⟩
  refine ⟨w.heap.size + 1, [{ target := .collected w.heap.size, args := #[] }], W1, { target := .fn (.func gf) lb, args := #[.func (.yield (w.heap.size + 1)) #[] #[]] }, W1, gf, #[.func (.yield (w.heap.size + 1)) #[] #[]] ++ lb, W1, ?_, ?_, fun _ _ => trivial, ?_, fun _ => h1, ?_⟩
  · rw [hW1, hR]
    exact run_enterLoop_outer _ _ _ _ _
  · simp only [resolve, hg]
    simp [go_sem]
  · simp [invoke, go_sem, eg]
  · refine (hseq (w.heap.size + 1) (fun W => W.heap[w.heap.size + 1]? = some (.loop (R .ready)) ∧ W.heap[w.heap.size]? = some (.deferred (some []))) W1 (fun W W' k h => ?_) ?_ n0 b0).mono ?_
    · have l1 := (Array.getElem?_eq_some_iff.1 h.1).1
      exact ⟨(k.block _ l1 (by simp)).trans h.1, (k.block _ (by omega) (by simp)).trans h.2⟩
    · rintro L x W hN ⟨hl, hk⟩ hx
      have l1 := (Array.getElem?_eq_some_iff.1 hl).1
      have hy := run_yield (P := P) (args := #[Value.int .i64 x]) hl (by rw [hR]; simp [hps])
      rw [hR] at hy
      refine ⟨fn, _, assign, body, hy, roundIn_of_wpIn hfn (hassign _ x W _ ⟨_, run_beginRound hl (by rw [hR]), ?_⟩)⟩
      have hl2 : (W.putObj (w.heap.size + 1) (.loop { R .ready with state := .busy })).heap[w.heap.size + 1]? = some (.loop { R .ready with state := .busy }) := World.putObj_heap_same l1
      have hk2 : (W.putObj (w.heap.size + 1) (.loop { R .ready with state := .busy })).heap[w.heap.size]? = some (.deferred (some [])) := (World.putObj_heap_other (by omega)).trans hk
      refine wpIn_mono (hbody _ x L _ (hN.put (by omega) hmb) hx) ?_
      rintro e a3 W3 ⟨rfl, hN3, hK3⟩
      have hl3 := (hK3.block _ (Array.getElem?_eq_some_iff.1 hl2).1 (by simp; omega)).trans hl2
      have hk3 := (hK3.block _ (Array.getElem?_eq_some_iff.1 hk2).1 (by simp; omega)).trans hk2
      have hr := run_endRound (P := P) none hl3
      refine ⟨_, _, hr, rfl, hN3.put (by omega) hmb, ?_, (World.putObj_heap_other (by omega)).trans hk3⟩
      rw [World.putObj_heap_same (Array.getElem?_eq_some_iff.1 hl3).1, hR]
      rfl
    · rintro e W2 ⟨⟨v, rfl⟩, hN, hl, hk⟩
      have he := run_endLoop (P := P) hl (by rw [hR]; simp)
      refine ⟨none, _, by rw [he, hR], hdone w.heap.size _ (Nat.le_refl _) (hN.put (by omega) hmb) ((World.putObj_heap_other (by omega)).trans hk)⟩
theorem found_any (fb : Nat) (w : World) : Calls Tryz.prog 59 #[.pointer (some ⟨fb, 0, none⟩)] w fun e w' => e = .returned (.func (.func 77) #[] #[.pointer (some ⟨w.heap.size, 0, none⟩)]) ∧ w' = w.alloc (.cells #[.pointer (some ⟨fb, 0, none⟩)] 71) := by
  have hmf : ∀ (fn : Fn) (first cap : Array Value) (w : World), (Instr.makeFunc fn first cap).run Tryz.prog w = .ok (.func fn first cap) w := fun _ _ _ _ => rfl
  go_enter Tryz.func59, Tryz.ntmps59
  go_wp2
  go_ret
  exact ⟨rfl, rfl⟩
set_option maxRecDepth 20000 in
set_option maxHeartbeats 4000000 in
theorem nullOf_any (A K : Option Addr) (C m D : Nat) (S : List Nat) (ps : List ProdS) (w : World) (HP : Prods S w (.slice A ps.length C) ps) (hS : ∀ b ∈ S, b < w.heap.size) (hps : ps.length ≤ 1000000) :
    Calls Tryz.prog 38 #[.agg #[.slice A ps.length C, .slice K m D]] w fun e w' => e = .returned (.pointer (some ⟨w.heap.size + 2, 0, none⟩)) ∧ FindAt w' (w.heap.size + 2) (w.heap.size + 1) A K ps.length C m D (emptyF ps) ∧ Keep [] w w' := by
  have hmm := @run_makeMap Tryz.prog
  refine (callsIn_wide (n := 9)).1 ?_
  refine callsIn_of_wp_marks Tryz.func38 rfl trivial ?_ rfl
  simp only [Tryz.ntmps38, List.size_toArray, List.length_cons, List.length_nil, Nat.reduceAdd, Nat.reduceSub, Array.replicate_succ, Array.replicate_zero, List.push_toArray, List.append_toArray, List.nil_append, List.cons_append]
  gi_wp2_with fail
  refine ⟨trivial, (callsIn_wide.2 (found_any _ _)).mono ?_⟩
  rintro e w5 ⟨rfl, h5⟩
  have hK5 : Keep [] w w5 := by rw [h5]; exact (((((Keep.refl [] w).alloc _).alloc _).alloc _).alloc _).alloc _
  have hSz : w5.heap.size = w.heap.size + 5 := by rw [h5]; simp
  have BF5 : Blk w5 (w.heap.size + 1 + 1) #[.slice A ps.length C, .slice K m D, .map (some (w.heap.size + 1))] 116 := by
    rw [h5]
    exact ((Blk.new' ((w.alloc (.cells #[.slice A ps.length C, .slice K m D] 25)).alloc (.map #[] 0)) _ _ (b := w.heap.size + 1 + 1) (by simp)).alloc _).alloc _
  have BX5 : Blk w5 (w.heap.size + 1 + 1 + 1) #[.pointer (some ⟨w.heap.size + 1 + 1, 0, none⟩)] 71 := by
    rw [h5]
    exact (Blk.new' (((w.alloc (.cells #[.slice A ps.length C, .slice K m D] 25)).alloc (.map #[] 0)).alloc (.cells #[.slice A ps.length C, .slice K m D, .map (some (w.heap.size + 1))] 116)) _ _ (b := w.heap.size + 1 + 1 + 1) (by simp)).alloc _
  have BQ5 : Blk w5 (w.heap.size + 1 + 1 + 1 + 1) #[.pointer (some ⟨w.heap.size + 1 + 1, 0, none⟩)] 71 := by
    rw [h5]
    exact Blk.new' _ _ _ (by simp)
  have S5 : SetI w5 (w.heap.size + 1) [] := by
    rw [h5]
    have h0 : SetI ((w.alloc (.cells #[.slice A ps.length C, .slice K m D] 25)).alloc (.map #[] 0)) (w.heap.size + 1) [] := by
      have := SetI.new (w.alloc (.cells #[.slice A ps.length C, .slice K m D] 25)) 0
      simpa using this
    exact h0.keep ((((Keep.refl [] _).alloc _).alloc _).alloc _) (by simp)
  simp only [World.size_alloc]
  clear h5
  have hP5 : Prods ((w.heap.size + 1) :: S) w5 (.slice A ps.length C) ps := SlOf.move HP prodRow_stab (by omega) hK5 (by simp) (fun x hx => by
    rcases List.mem_cons.1 hx with rfl | hx
    · exact .inr (by omega)
    · exact .inl hx)
  have HP5 := Lib.hid hP5
  have HF5 := Lib.hid BF5
  have HX5 := Lib.hid BX5
  have HQ5 := Lib.hid BQ5
  have HS5 := Lib.hid S5
  have HK5 := Lib.hid hK5
  have HSZ := Lib.hid hSz
  clear hP5 BF5 BX5 BQ5 S5 hK5 hSz HP
  gi_wp2_with fail
  refine range_set (w.heap.size + 1) (by have := HSZ.out; omega) (emptyF ps) (fun x => { tmps := #[.agg #[.slice A ps.length C, .slice K m D], .pointer (some ⟨w.heap.size, 0, none⟩), .pointer none, .pointer (some ⟨w.heap.size + 1 + 1 + 1, 0, none⟩), .int .i64 x,
    .agg #[.slice A ps.length C, .slice K m D], .map (some (w.heap.size + 1)), .agg #[.slice A ps.length C, .slice K m D, .map (some (w.heap.size + 1))], .pointer (some ⟨w.heap.size + 1 + 1, 0, none⟩), .pointer (some ⟨w.heap.size + 1 + 1, 0, none⟩),
    .func (.func 77) #[] #[.pointer (some ⟨w.heap.size + 1 + 1 + 1 + 1, 0, none⟩)], .int .i64 x, undef, undef, undef, undef, undef, undef], defers := [] }) (gf := 77) (lb := #[.pointer (some ⟨w.heap.size + 1 + 1 + 1 + 1, 0, none⟩)])
    (by omega) rfl (enters_of Tryz.func77 (by kernel_rfl) rfl) rfl HS5.out ?assign ?body ?seq ?done
  case assign =>
    intro l x W K hK
    gi_wp2
    exact hK
  case body =>
    intro l x L W hN hx
    have f0 := (HF5.out.keep hN.1 (by simp)).cell 2
    have x0 := (HX5.out.keep hN.1 (by simp; omega)).cell 0
    obtain ⟨w1, u1, s1, k1⟩ := set_add hN.2 (x : Int)
    rw [if_neg hx] at s1
    have HN1 : Hid (NAt w5 (w.heap.size + 1) (L ++ [(x : Int)]) w1 ∧ Keep [w.heap.size + 1] W w1) := Lib.hid ⟨⟨hN.1.trans k1, s1⟩, k1⟩
    clear s1 k1 hN hx
    gi_wp2
    exact HN1.out
  case seq =>
    intro l B W hB hY hN hBW
    exact found1_any 8 l (w.heap.size + 1 + 1 + 1 + 1) (w.heap.size + 1 + 1) (w.heap.size + 1) A K C m D S ps w5 HP5.out hps HQ5.out HF5.out (by omega) (by omega) B hB (by omega) (fun L x W1 h1 h2 _ h4 => hY L x W1 h1 h2 h4) W hN hBW
  case done =>
    intro Db W hD hN hK
    have x0 := (HX5.out.keep hN.1 (by simp; omega)).cell 0
    have hN2 : NAt w5 (w.heap.size + 1) (emptyF ps) (W.putObj Db (.deferred none)) := hN.put hD (by have := HSZ.out; omega)
    have HFIN : Hid (FindAt (W.putObj Db (.deferred none)) (w.heap.size + 1 + 1) (w.heap.size + 1) A K ps.length C m D (emptyF ps) ∧ Keep [] w (W.putObj Db (.deferred none))) := Lib.hid ⟨⟨HF5.out.keep hN2.1 (by simp), hN2.2, by omega⟩, HK5.out.then hN2.1 (fun x hx => by simp at hx; subst hx; right; omega)⟩
    clear hN hN2
    gi_wp2
    refine ⟨by simp, .inl ⟨_, _, rfl, run_takeDeferred hK, ?_⟩⟩
    exact ⟨_, results_tmp rfl _ _ _, rfl, HFIN.out⟩
end Go.Proofs.YtbpidoiellcccaaGreatDoor
