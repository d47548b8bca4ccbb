/- A loop over a function, with an invariant that is chosen: the law. -/
import Derived.Test.YtacihjabkiedcaaGreatDoorH21
set_option linter.unusedVariables false
set_option linter.unusedSimpArgs false
namespace Go.Proofs.YtacihjabkiedcaaGreatDoor
open Go Go.RowKit Go.MapKept Go.Shelf
attribute [local go_sem] Oper.semAt_some

/-- A loop over a function that hands on cnt times, enc 0, enc 1 ..: what holds after each is said by I, which abides what is done to the loop's own two blocks. -/
theorem range_inv {P : Program} {n gf : Nat} {lb : Array Value} {g : Operand} {ps : Array Tmp} {assign body : Code} {Q : Exit → Act → World → Prop} {a : Act} {w : World} (cnt : Nat) (enc : Nat → Array Value) (I : Nat → World → Prop) (a₁ : Nat → Act)
    (hI : ∀ k W l o, w.heap.size ≤ l → l ≤ w.heap.size + 1 → I k W → I k (W.putObj l o))
    (h1 : 1 ≤ n) (hg : a.eval g = .func (.func gf) #[] lb) (eg : ∀ args w, (callFunc gf args).run P w = .ok (.enter gf args) w) (hps : ∀ k, (enc k).size = ps.size)
    (h0 : ∀ o, I 0 ((w.alloc (.deferred (some []))).alloc o))
    (hassign : ∀ (l k : Nat) (W : World) (K : Act → World → Prop), k < cnt → K (a₁ k) W → assign.wpIn (Fence.wide.inRound l) (n - 1 - 1) P (Exit.then K (fun _ _ _ => False)) { tmps := (ps.zip (enc k)).foldl (fun t (p, v) => t.setIfInBounds p v) a.tmps, defers := [] } W)
    (hbody : ∀ (l k : Nat) (W : World), k < cnt → I k W → body.wpIn (Fence.wide.inRound l) (n - 1 - 1) P (fun e _ W' => e = .normal ∧ I (k + 1) W' ∧ ∃ T : List Nat, Keep T W W' ∧ w.heap.size ∉ T ∧ w.heap.size + 1 ∉ T) (a₁ k) W)
    (hseq : ∀ (l : Nat) (B : World → Prop) (W : World), (∀ W W', Keep [] W W' → B W → B W') → (∀ (k : Nat) (W1 : World), k < cnt → I k W1 → B W1 → YieldAt Fence.wide (n - 1 - 1) P l (enc k) W1 fun e W' => e = .returned (.bool true) ∧ I (k + 1) W' ∧ B W') →
      I 0 W → B W → CallsIn Fence.wide (n - 1) P gf (#[.func (.yield l) #[] #[]] ++ lb) W fun e W' => (∃ v, e = .returned v) ∧ I cnt W' ∧ B W')
    (hdone : ∀ (D : Nat) (W : World), w.heap.size ≤ D → I cnt W → W.heap[D]? = some (.deferred (some [])) → Q .normal { a with defers := { target := .collected D, args := #[] } :: a.defers } W) :
    (Code.rangeFunc g ps assign body).wpIn Fence.wide n P Q a w := by
  refine wpIn_rangeFunc fun fn hfn => ?_
  obtain ⟨R, hR⟩ : ∃ R : LoopState → Loop, R = fun st => { state := st, pending := Option.none, fn := fn, tmps := a.tmps, params := ps, assign := assign, body := body, defers := w.heap.size } := ⟨_, rfl⟩
  obtain ⟨W1, hW1⟩ : ∃ W, W = (w.alloc (.deferred (some []))).alloc (.loop (R .ready)) := ⟨_, rfl⟩
  have b0 : W1.heap[w.heap.size + 1]? = some (.loop (R .ready)) ∧ W1.heap[w.heap.size]? = some (.deferred (some [])) := by
    rw [hW1]
    constructor
    · have := World.alloc_heap_new (w.alloc (.deferred (some []))) (.loop (R .ready))
      rwa [World.size_alloc] at this
    · exact (Below.heap_alloc _ _ _ (by simp)).trans (World.alloc_heap_new w _)
  have n0 : I 0 W1 := by rw [hW1]; exact h0 _
  refine ⟨w.heap.size + 1, [{ target := .collected w.heap.size, args := #[] }], W1, { target := .fn (.func gf) lb, args := #[.func (.yield (w.heap.size + 1)) #[] #[]] }, W1, gf, #[.func (.yield (w.heap.size + 1)) #[] #[]] ++ lb, W1, ?_, ?_, fun _ _ => trivial, ?_, fun _ => h1, ?_⟩
  · rw [hW1, hR]
    exact run_enterLoop_outer _ _ _ _ _
  · simp only [resolve, hg]
    simp [go_sem]
  · simp [invoke, go_sem, eg]
  · refine (hseq (w.heap.size + 1) (fun W => W.heap[w.heap.size + 1]? = some (.loop (R .ready)) ∧ W.heap[w.heap.size]? = some (.deferred (some []))) W1 (fun W W' k h => ?_) ?_ n0 b0).mono ?_
    · have l1 := (Array.getElem?_eq_some_iff.1 h.1).1
      exact ⟨(k.block _ l1 (by simp)).trans h.1, (k.block _ (by omega) (by simp)).trans h.2⟩
    · rintro k W hk hN ⟨hl, hd⟩
      have l1 := (Array.getElem?_eq_some_iff.1 hl).1
      have hy := run_yield (P := P) (args := enc k) hl (by rw [hR]; exact hps k)
      rw [hR] at hy
      refine ⟨fn, _, assign, body, hy, roundIn_of_wpIn hfn (hassign _ k W _ hk ⟨_, run_beginRound hl (by rw [hR]), ?_⟩)⟩
      have hl2 : (W.putObj (w.heap.size + 1) (.loop { R .ready with state := .busy })).heap[w.heap.size + 1]? = some (.loop { R .ready with state := .busy }) := World.putObj_heap_same l1
      have hk2 : (W.putObj (w.heap.size + 1) (.loop { R .ready with state := .busy })).heap[w.heap.size]? = some (.deferred (some [])) := (World.putObj_heap_other (by omega)).trans hd
      refine wpIn_mono (hbody _ k _ hk (hI _ _ _ _ (by omega) (by omega) hN)) ?_
      rintro e a3 W3 ⟨rfl, hN3, T, hK3, hT1, hT2⟩
      have hl3 := (hK3.block _ (Array.getElem?_eq_some_iff.1 hl2).1 hT2).trans hl2
      have hk3 := (hK3.block _ (Array.getElem?_eq_some_iff.1 hk2).1 hT1).trans hk2
      have hr := run_endRound (P := P) none hl3
      refine ⟨_, _, hr, rfl, hI _ _ _ _ (by omega) (by omega) hN3, ?_, (World.putObj_heap_other (by omega)).trans hk3⟩
      rw [World.putObj_heap_same (Array.getElem?_eq_some_iff.1 hl3).1, hR]
      rfl
    · rintro e W2 ⟨⟨v, rfl⟩, hN, hl, hk⟩
      have he := run_endLoop (P := P) hl (by rw [hR]; simp)
      refine ⟨none, _, by rw [he, hR], hdone w.heap.size _ (Nat.le_refl _) (hI _ _ _ _ (by omega) (by omega) hN) ((World.putObj_heap_other (by omega)).trans hk)⟩
end Go.Proofs.YtacihjabkiedcaaGreatDoor
