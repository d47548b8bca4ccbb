/- A region that draws its order, whose first n operations come ahead of all others: what they load is not written by any of them. -/
import Derived.Test.YtbpidoiellcccaaGreatDoorK1
import Derived.OrdersHeld
import Derived.Deep.RegionHeld3
set_option linter.unusedVariables false
set_option linter.unusedSimpArgs false
namespace Go.Proofs.YtbpidoiellcccaaGreatDoor
open Go

section
variable {P : Program} {ops : Array Oper} {Q : Exit → Act → World → Prop} {md : Region.Mode} {n : Nat} {S : World → Prop}
/-- In whatever order they come up; behind each of the first n operations S holds. -/
def InPhase (P : Program) (md : Region.Mode) (ops : Array Oper) (Q : Exit → Act → World → Prop) (n : Nat) (S : World → Prop) : Nat → Array Bool → Act → World → Prop
  | 0, l, a, w => Region.ready md ops l = [] ∧ Q .normal a w
  | f + 1, l, a, w => (Region.ready md ops l = [] → Q .normal a w) ∧ ∀ j ∈ Region.ready md ops l, wpOp P ops Q j (fun a' w' => (j < n → S w') ∧ InPhase P md ops Q n S f (l.setIfInBounds j true) a' w') a w
theorem InPhase.any : ∀ {f : Nat} {l : Array Bool} {a : Act} {w : World}, InPhase P md ops Q n S f l a w → wpAny P md ops Q f l a w
  | 0, _, _, _, h => h
  | _ + 1, _, _, _, h => ⟨h.1, fun j hj => wpOp_mono (fun _ _ h' => h'.2.any) (h.2 j hj)⟩
/-- All operations from number n on wait for number i. -/
def lateAll (md : Region.Mode) (ops : Array Oper) (n i : Nat) : Bool :=
  (List.range ops.size).all fun j => decide (j < n) || match ops[j]? with
    | some o => o.after.any (fun e => Region.binds md e && e.on == i)
    | none => true
theorem late_waits {i j : Nat} {o : Oper} (h : lateAll md ops n i = true) (hj : ops[j]? = some o) (hn : n ≤ j) : ∃ e ∈ o.after, Region.binds md e = true ∧ e.on = i := by
  have h1 := List.all_eq_true.1 h j (List.mem_range.2 (Array.getElem?_eq_some_iff.1 hj).1)
  rw [hj] at h1
  have h2 : o.after.any (fun e => Region.binds md e && e.on == i) = true := by
    have : decide (j < n) = false := by simpa using hn
    simpa [this] using h1
  obtain ⟨e, he, hb⟩ := Array.any_eq_true'.1 h2
  simp only [Bool.and_eq_true, beq_iff_eq] at hb
  exact ⟨e, he, hb.1, hb.2⟩
/-- Nobody who is ready waits for who is not listed. -/
theorem ready_free {i j : Nat} {l : Array Bool} {o : Oper} (hi : l.getD i true = false) (hj : j ∈ Region.ready md ops l) (ho : ops[j]? = some o) : ∀ e ∈ o.after, Region.binds md e = true → e.on ≠ i := by
  intro e he hb hei
  obtain ⟨_, o', ho', hall⟩ := mem_ready.1 hj
  rw [ho] at ho'
  obtain rfl := Option.some.inj ho'
  have h1 := hall e he hb
  rw [hei] at h1
  by_cases hs : i < l.size
  · simp [hs] at hi h1
    rw [hi] at h1
    cases h1
  · simp [Array.getElem?_eq_none (Nat.le_of_not_lt hs)] at h1
/-- One of the first n that yields in every world that meets S is taken first. -/
theorem InPhase.ahead {i : Nat} {oi : Oper} {v : Value} (hi : ops[i]? = some oi) (hsel : ∀ (j : Nat) (o : Oper) cs b, ops[j]? = some o → o.op ≠ .select cs b) (hz : lateAll md ops n i = true)
    (hQ : ∀ c a w, Q (.panic c) (a.put oi.dst v) w → Q (.panic c) a w) (f : Nat) : ∀ (l : Array Bool) (a : Act) (w : World),
      (∀ j oj, ops[j]? = some oj → j ≠ i → l.getD j true = false → (∀ e ∈ oj.after, Region.binds md e = true → e.on ≠ i) → oi.apart ops oj = true) →
      i ∈ Region.ready md ops l → YieldsIf P ops S oi v a → S w → InPhase P md ops Q n S f (l.setIfInBounds i true) (a.put oi.dst v) w → InPhase P md ops Q n S (f + 1) l a w := by
  induction f with
  | zero =>
    intro l a w _ hr hy hS H
    refine ⟨fun h0 => absurd hr (by simp [h0]), fun j hj => ?_⟩
    by_cases e : j = i
    · exact e ▸ hy.wpOp hi hS ⟨fun _ => hS, H⟩
    · exact absurd (ready_mono hj e) (by simp [H.1])
  | succ f ih =>
    intro l a w hfree hr hy hS H
    refine ⟨fun h0 => absurd hr (by simp [h0]), fun j hj => ?_⟩
    by_cases e : j = i
    · exact e ▸ hy.wpOp hi hS ⟨fun _ => hS, H⟩
    · obtain ⟨hun, oj, hoj, _⟩ := mem_ready.1 hj
      have hno := ready_free (mem_ready.1 hr).1 hj hoj
      have hjn : j < n := by
        rcases Nat.lt_or_ge j n with h | h
        · exact h
        · obtain ⟨e', he', hb', hon⟩ := late_waits hz hoj h
          exact absurd hon (hno e' he' hb')
      have hstep := wpOp_putIf hoj (hfree j oj hoj e hun hno) (fun cs b => hsel i oi cs b hi) (fun cs b => hsel j oj cs b hoj) hQ hy (H.2 j (ready_mono hj e))
      refine wpOp_mono (fun a' w' h3 => ⟨fun _ => h3.2.1 hjn, ih (l.setIfInBounds j true) a' w' (fun k ok hk hki huk hnk => hfree k ok hk hki ?_ hnk) (ready_mono hr (Ne.symm e)) h3.1 (h3.2.1 hjn) ?_⟩) hstep
      · by_cases hjk : j = k
        · exact hjk ▸ hun
        · rwa [getD_set_ne true hjk] at huk
      · rw [Array.setIfInBounds_comm _ _ e]
        exact h3.2.2
theorem InPhase.take {i : Nat} {oi : Oper} {v : Value} {f : Nat} {l : Array Bool} {a : Act} {w : World} (hi : ops[i]? = some oi) (hs : Region.noSelect ops = true) (hf : Region.free md ops l i = true) (hr : (Region.ready md ops l).contains i = true) (hz : lateAll md ops n i = true)
    (hQ : ∀ c a w, Q (.panic c) (a.put oi.dst v) w → Q (.panic c) a w) (hw : Region.wanted oi (yielded ops a.tmps) = true) (hy : ∀ w', S w' → (execOp a.eval oi).run P w' = .ok (.value v) w') (hS : S w)
    (h : InPhase P md ops Q n S f (l.setIfInBounds i true) (a.put oi.dst v) w) : InPhase P md ops Q n S (f + 1) l a w :=
  InPhase.ahead hi (Region.noSelect_spec hs) hz hQ f l a w (Region.free_spec hi hf) (by simpa using hr) (.inl ⟨hw, hy⟩) hS h
/-- One alone is ready, of the first n. -/
theorem InPhase.one {i : Nat} {o : Oper} {f : Nat} {l : Array Bool} {a : Act} {w : World} (hr : Region.ready md ops l = [i]) (ho : ops[i]? = some o)
    (h : ∀ K : Act → World → Prop, Shut (∀ a' w', S w' → (S w' → InPhase P md ops Q n S f (l.setIfInBounds i true) a' w') → K a' w') → if Region.wanted o (yielded ops a.tmps) = true then Oper.wp P o a w K Q else K (a.put o.dst undef) w) : InPhase P md ops Q n S (f + 1) l a w :=
  ⟨fun h0 => by simp [h0] at hr, fun j hj => by
    rw [hr] at hj
    obtain rfl := List.mem_singleton.1 hj
    exact wpOp_step ho (fun K hK => h K (fun a' w' hS hW => hK a' w' ⟨fun _ => hS, hW hS⟩))⟩
/-- One alone is ready, behind the first n. -/
theorem InPhase.end {i : Nat} {o : Oper} {f : Nat} {l : Array Bool} {a : Act} {w : World} (hn : n ≤ i) (hr : Region.ready md ops l = [i]) (ho : ops[i]? = some o)
    (h : ∀ K : Act → World → Prop, Shut (∀ a' w', InPhase P md ops Q n S f (l.setIfInBounds i true) a' w' → K a' w') → if Region.wanted o (yielded ops a.tmps) = true then Oper.wp P o a w K Q else K (a.put o.dst undef) w) : InPhase P md ops Q n S (f + 1) l a w :=
  ⟨fun h0 => by simp [h0] at hr, fun j hj => by
    rw [hr] at hj
    obtain rfl := List.mem_singleton.1 hj
    exact wpOp_step ho (fun K hK => h K (fun a' w' hW => hK a' w' ⟨fun h => absurd h (by omega), hW⟩))⟩
theorem InPhase.done {l : Array Bool} {a : Act} {w : World} (hr : Region.ready md ops l = []) (h : Q .normal a w) : ∀ f, InPhase P md ops Q n S f l a w
  | 0 => ⟨hr, h⟩
  | _ + 1 => ⟨fun _ => h, by simp [hr]⟩
theorem InPhase.region {id f : Nat} {l : Array Bool} {a : Act} {w : World} (hm : P.follows .mixedOrders = true) (hf : ops.size = f) (hl : Array.replicate f false = l) (h : InPhase P .any ops Q n S f l a w.drew) : (Code.region id ops true).wp P Q a w := by
  subst hf hl
  exact wp_region_any hm h.any
end
end Go.Proofs.YtbpidoiellcccaaGreatDoor
