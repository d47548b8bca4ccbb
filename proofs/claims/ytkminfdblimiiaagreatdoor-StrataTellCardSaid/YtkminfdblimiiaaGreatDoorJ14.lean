/- A file's rules as nonterminals. -/
import Derived.Test.YtkminfdblimiiaaGreatDoorJ13
import Derived.Test.YtkminfdblimiiaaGreatDoorJ12
import Derived.Deep.RegionLaw
set_option linter.unusedVariables false
set_option linter.unusedSimpArgs false
namespace Go.Proofs.YtkminfdblimiiaaGreatDoor
open Go Go.RowKit Go.MapKept

def prod0 (r : RuleS) : ProdS := ⟨[], r.marks, r.nt⟩
/-- The nonterminals of rules, one behind the other. -/
def rulesF (part : MkS → List SymS → PartS → MkS × List SymS) (rs : List RuleS) : Nat → MkS → MkS
  | 0, st => st
  | n + 1, st => let q := rulesF part rs n st
    match rs[n]? with
    | none => q
    | some r => if q.bad = none then ruleF part q n r.e else q
def gramZ : Array Value := #[.slice none 0 0, .slice none 0 0]
/-- The head of a round of Of's first loop: n0 is where the call begins. -/
def OfAt (S0 : List Nat) (f : FileS) (A B : Option Addr) (C D : Nat) (w : World) (k : Nat) (wr : World) : Prop :=
  ∃ pvk, Keep [] w wr ∧ MkAt ((w.heap.size + 1 + 1 + 1) :: (w.heap.size + 1 + 1) :: (w.heap.size + 1) :: w.heap.size :: S0) wr (w.heap.size + 1 + 1 + 1 + 1) (w.heap.size + 1 + 1 + 1) (w.heap.size + 1 + 1) ((f.rules.take k).map RuleS.name) pvk (.slice none 0 0) ⟨(f.rules.take k).map prod0, none⟩ [] ∧
    SlOf StrRow (ownB pvk ++ ((w.heap.size + 1 + 1 + 1) :: (w.heap.size + 1 + 1) :: (w.heap.size + 1) :: w.heap.size :: S0)) wr 1 (.slice A f.keys.length C) f.keys ∧ SlOf RuleAt (ownB pvk ++ ((w.heap.size + 1 + 1 + 1) :: (w.heap.size + 1 + 1) :: (w.heap.size + 1) :: w.heap.size :: S0)) wr 9 (.slice B f.rules.length D) f.rules ∧
    Blk wr w.heap.size #[.slice A f.keys.length C, .slice B f.rules.length D] 63 ∧ Blk wr (w.heap.size + 1) gramZ 25
def ofW1 (f : FileS) (A B : Option Addr) (C D : Nat) (w : World) : World := (w.alloc (.cells #[.slice A f.keys.length C, .slice B f.rules.length D] 63)).alloc (.cells gramZ 25)
def ofW0 (f : FileS) (A B : Option Addr) (C D : Nat) (w : World) : World := ((ofW1 f A B C D w).alloc (.map #[] 0)).alloc (.cells #[.map (some (w.heap.size + 1 + 1)), .slice none 0 0, .pointer none] 98)
theorem ofW1_size (f : FileS) (A B : Option Addr) (C D : Nat) (w : World) : (ofW1 f A B C D w).heap.size = w.heap.size + 1 + 1 := by simp [ofW1]
theorem nameAt_not (x : ByteArray) : ∀ (l : List ByteArray), x ∉ l → nameAt l x = none
  | [], _ => rfl
  | y :: l, h => by
    simp only [List.mem_cons, not_or] at h
    rw [idxOf_cons, if_neg (fun e => h.1 e.symm), nameAt_not x l h.2]
    rfl
theorem nameAt_none (l : List ByteArray) (k : Nat) (hk : k < l.length) (h : l.Nodup) : nameAt (l.take k) l[k] = none := by
  apply nameAt_not
  intro hm
  obtain ⟨i, hi, he⟩ := List.getElem_of_mem hm
  rw [List.length_take] at hi
  rw [List.getElem_take] at he
  have hil : i < l.length := by omega
  have := (List.getElem?_inj (i := i) (j := k) hil h).1 (by rw [List.getElem?_eq_getElem hil, List.getElem?_eq_getElem hk, he])
  omega
theorem info_prod : (Tryz.prog.info? 29).map (fun i => (i.zero, i.size, i.bytes)) = some (some (.agg #[.slice none 0 0, .int .i64 0, .slice none 0 0]), 3, 56) := by kernel_rfl

/-- Behind an append of a nonterminal, and the store into the maker. -/
theorem MkAt.pushProd {S : List Nat} {w w5 : World} {base m mb g cap : Nat} {names : List ByteArray} {pv v : Value} {st : MkS} {l : List SymS} {x : ProdS} {row : Array Value} (h : MkAt S w base m mb names pv v st l) (rows : List (Array Value)) (hlr : rows.length = st.p.length)
    (hel : ∀ i (hi : i < st.p.length) (hi' : i < rows.length), rows[i].size = 3 ∧ ProdRow (ownB pv ++ (ownB v ++ S)) w st.p[i] rows[i]) (hx : ProdRow (ownB pv ++ (ownB v ++ S)) w x row) (hr : row.size = 3)
    (O : w5.ownsRow base 29 3 (.slice (some ⟨g, 0, none⟩) (st.p.length + 1) cap) (st.p.length + 1) (rows.flatMap Array.toList ++ row.toList)) (G : w.grownBy w5 pv.ownBlock) (W : pv.ownBlock = some g ∨ g = w.heap.size) :
    MkAt S (w5.setCell ⟨m, 1, none⟩ (.slice (some ⟨g, 0, none⟩) (st.p.length + 1) cap)) base m mb names (.slice (some ⟨g, 0, none⟩) (st.p.length + 1) cap) v { st with p := st.p ++ [x] } l ∧ Keep (m :: ownB pv) w (w5.setCell ⟨m, 1, none⟩ (.slice (some ⟨g, 0, none⟩) (st.p.length + 1) cap)) ∧
      (∀ b ∈ ownB (.slice (some ⟨g, 0, none⟩) (st.p.length + 1) cap), b ∈ ownB pv ∨ w.heap.size ≤ b) := by
  have KG := Keep.ofGrown (v := pv) G
  have hno := h.notOwn
  have hap := h.prods.apart h.syms (by decide)
  have KS := (Keep.refl [m] w5).setCell (p := ⟨m, 1, none⟩) (by simp) (.slice (some ⟨g, 0, none⟩) (st.p.length + 1) cap)
  have hnew : ∀ b ∈ ownB (.slice (some ⟨g, 0, none⟩) (st.p.length + 1) cap), b ∈ ownB pv ∨ w.heap.size ≤ b := fun b hb => by
    rcases own_new (S := []) W b (List.mem_append.2 (.inl hb)) with h | h
    · exact .inl (by simpa using h)
    · exact .inr h
  have hmm : m < w.heap.size := Nat.lt_of_lt_of_le h.mlow h.base
  have hmn : m ∉ ownB (.slice (some ⟨g, 0, none⟩) (st.p.length + 1) cap) := fun hm => by
    rcases hnew m hm with h1 | h1
    · exact hno.1 h1
    · omega
  have hml := h.map.lt
  obtain ⟨bv, hB, hbad⟩ := h.box
  have hap2 := OwnL.append rows hlr hel prodRow_stab hx hr O G W
  refine ⟨⟨⟨bv, ?_, ?_⟩, ?_, ?_, (h.map.keep KG (fun hb => ?_)).keep KS (fun hb => ?_), h.inS, h.mlow, fun x hx => ?_, ?_⟩, ?_, hnew⟩
  · have h1 := (hB.keep KG hno.1).set 1 (.slice (some ⟨g, 0, none⟩) (st.p.length + 1) cap)
    simpa using h1
  · have h1 : BadAt (ownB (.slice (some ⟨g, 0, none⟩) (st.p.length + 1) cap) ++ ownB v ++ S) w5 bv st.bad := hbad.move KG (fun x hx => .inl (by simp [hx])) (fun x hx => by
      rcases List.mem_append.1 hx with hx | hx
      · rcases List.mem_append.1 hx with hx | hx
        · rcases hnew x hx with h | h
          · exact .inl (by simp [h])
          · exact .inr h
        · exact .inl (by simp [hx])
      · exact .inl (by simp [hx]))
    exact h1.move KS (fun x hx => .inl (by simp at hx; subst hx; simp [h.inS])) (fun x hx => .inl hx)
  · have h1 := hap2.move prodRow_stab (S' := ownB v ++ S) KS (fun x hx => by simp at hx; subst hx; exact .inl ⟨by simp [h.inS], hmn⟩) (fun x hx => .inl hx)
    have e : (st.p ++ [x]).length = st.p.length + 1 := by simp
    exact h1
  · have h1 := h.syms.move symRow_stab (S' := ownB (.slice (some ⟨g, 0, none⟩) (st.p.length + 1) cap) ++ S) KG (fun x hx => .inl ⟨by simp [hx], hap x hx⟩) (fun x hx => by
      rcases List.mem_append.1 hx with hx | hx
      · rcases hnew x hx with h | h
        · exact .inl (by simp [h])
        · exact .inr h
      · exact .inl (by simp [hx]))
    exact h1.move symRow_stab KS (fun x hx => by simp at hx; subst hx; exact .inl ⟨by simp [h.inS], hno.2⟩) (fun x hx => .inl hx)
  · obtain ⟨cs, e⟩ := h.prods.type mb hb
    have e2 := h.map
    unfold MapB at e2
    rw [e] at e2
    cases e2
  · simp at hb
    subst hb
    have e2 := h.map
    unfold MapB at e2
    unfold Blk at hB
    rw [e2] at hB
    cases hB
  · exact Nat.lt_of_lt_of_le (h.low x hx) (Nat.le_trans KG.size KS.size)
  · exact Nat.le_trans h.base (Nat.le_trans KG.size KS.size)
  · exact (KG.mono (fun x hx => .inl (by simp [hx]))).trans (KS.mono (by simp))
/-- A round of Of's first loop is over. -/
theorem of_push (S0 : List Nat) (f : FileS) (A B : Option Addr) (C D : Nat) (w wr w4 w8 : World) (k : Nat) (pvk pv8 : Value) (T : List Nat) (hT : ∀ x ∈ T, x = w.heap.size + 1 + 1 + 1 ∨ x = w.heap.size + 1 + 1 ∨ x ∈ ownB pvk ∨ wr.heap.size ≤ x) (K1 : Keep [] w wr) (KT : Keep T wr w8) (hpv : ∀ b ∈ ownB pvk, w.heap.size + 1 + 1 + 1 + 1 ≤ b) (hbs : w.heap.size + 1 + 1 + 1 + 1 ≤ wr.heap.size)
    (hk : SlOf StrRow (ownB pvk ++ ((w.heap.size + 1 + 1 + 1) :: (w.heap.size + 1 + 1) :: (w.heap.size + 1) :: w.heap.size :: S0)) wr 1 (.slice A f.keys.length C) f.keys) (hr : SlOf RuleAt (ownB pvk ++ ((w.heap.size + 1 + 1 + 1) :: (w.heap.size + 1 + 1) :: (w.heap.size + 1) :: w.heap.size :: S0)) wr 9 (.slice B f.rules.length D) f.rules)
    (hF : Blk wr w.heap.size #[.slice A f.keys.length C, .slice B f.rules.length D] 63) (hG : Blk wr (w.heap.size + 1) gramZ 25) (hp8 : ∀ b ∈ ownB pv8, b ∈ ownB pvk ∨ wr.heap.size ≤ b)
    (H8 : MkAt ((w.heap.size + 1 + 1 + 1) :: (w.heap.size + 1 + 1) :: (w.heap.size + 1) :: w.heap.size :: S0) w8 (w.heap.size + 1 + 1 + 1 + 1) (w.heap.size + 1 + 1 + 1) (w.heap.size + 1 + 1) ((f.rules.take (k + 1)).map RuleS.name) pv8 (.slice none 0 0) ⟨(f.rules.take (k + 1)).map prod0, none⟩ []) : OfAt S0 f A B C D w (k + 1) w8 := by
  have hw := K1.size
  have hS : ∀ b ∈ ownB pv8 ++ ((w.heap.size + 1 + 1 + 1) :: (w.heap.size + 1 + 1) :: (w.heap.size + 1) :: w.heap.size :: S0), b ∈ ownB pvk ++ ((w.heap.size + 1 + 1 + 1) :: (w.heap.size + 1 + 1) :: (w.heap.size + 1) :: w.heap.size :: S0) ∨ wr.heap.size ≤ b := fun b hb => by
    rcases List.mem_append.1 hb with h | h
    · rcases hp8 b h with h | h
      · exact .inl (List.mem_append.2 (.inl h))
      · exact .inr h
    · exact .inl (List.mem_append.2 (.inr h))
  have hTS : ∀ b ∈ T, b ∈ ownB pvk ++ ((w.heap.size + 1 + 1 + 1) :: (w.heap.size + 1 + 1) :: (w.heap.size + 1) :: w.heap.size :: S0) ∨ wr.heap.size ≤ b := fun b hb => by
    rcases hT b hb with h | h | h | h
    · exact .inl (by simp [h])
    · exact .inl (by simp [h])
    · exact .inl (by simp [h])
    · exact .inr h
  refine ⟨pv8, K1.then KT (fun x hx => .inr ?_), H8, SlOf.move hk strRow_stab (by omega) KT hTS hS, SlOf.move hr ruleAt_stab (by omega) KT hTS hS, hF.keep KT (fun hx => ?_), hG.keep KT (fun hx => ?_)⟩
  · rcases hT x hx with h | h | h | h
    · omega
    · omega
    · have := hpv x h; omega
    · omega
  · rcases hT _ hx with h | h | h | h
    · omega
    · omega
    · have := hpv _ h; omega
    · omega
  · rcases hT _ hx with h | h | h | h
    · omega
    · omega
    · have := hpv _ h; omega
    · omega
theorem strs_fwd {S : List Nat} {w : World} {v : Value} {l : List ByteArray} (h : Strs1 S w v l) : SlOf StrRow S w 1 v l := ⟨_, h, by simp, fun i hi hi' => by rw [List.getElem_map]; rfl⟩
/-- The head of a round of Of's second loop. -/
def OfAt2 (S0 : List Nat) (d : Nat) (f : FileS) (A B : Option Addr) (C D : Nat) (w : World) (k : Nat) (wr : World) : Prop :=
  ∃ pvk, Keep [] w wr ∧ MkAt ((w.heap.size + 1 + 1 + 1) :: (w.heap.size + 1 + 1) :: (w.heap.size + 1) :: w.heap.size :: S0) wr (w.heap.size + 1 + 1 + 1 + 1) (w.heap.size + 1 + 1 + 1) (w.heap.size + 1 + 1) (f.rules.map RuleS.name) pvk (.slice none 0 0) (rulesF (pieceF (f.rules.map RuleS.name) d) f.rules k ⟨f.rules.map prod0, none⟩) [] ∧
    SlOf StrRow (ownB pvk ++ ((w.heap.size + 1 + 1 + 1) :: (w.heap.size + 1 + 1) :: (w.heap.size + 1) :: w.heap.size :: S0)) wr 1 (.slice A f.keys.length C) f.keys ∧ SlOf RuleAt (ownB pvk ++ ((w.heap.size + 1 + 1 + 1) :: (w.heap.size + 1 + 1) :: (w.heap.size + 1) :: w.heap.size :: S0)) wr 9 (.slice B f.rules.length D) f.rules ∧
    Blk wr w.heap.size #[.slice A f.keys.length C, .slice B f.rules.length D] 63 ∧ Blk wr (w.heap.size + 1) gramZ 25
structure GramS where
  p : List ProdS
  keys : List ByteArray
def GramAt (S : List Nat) (w : World) (g : GramS) (row : Array Value) : Prop := ∃ A C B D, row = #[.slice A g.p.length C, .slice B g.keys.length D] ∧ Prods S w (.slice A g.p.length C) g.p ∧ SlOf StrRow S w 1 (.slice B g.keys.length D) g.keys
theorem gramAt_stab : Stab GramAt := by
  rintro S T S' w w' x row ⟨A, C, B, D, h1, h2, h3⟩ K hT hS
  exact ⟨A, C, B, D, h1, SlOf.move h2 prodRow_stab (by omega) K hT hS, SlOf.move h3 strRow_stab (by omega) K hT hS⟩
def OfPost (S0 : List Nat) (w : World) (g : GramS) (e : Ending) (w' : World) : Prop :=
  ∃ row, e = .returned (.tuple #[.agg row, .int .i64 0, .int .i64 0]) ∧ GramAt S0 w' g row ∧ Keep [] w w'
theorem fillF_p (part : MkS → List SymS → PartS → MkS × List SymS) (hp : ∀ st l x, st.p.length ≤ (part st l x).1.p.length) (st : MkS) (n : Nat) (p : PartS) : st.p.length ≤ (fillF part st n p).p.length := by
  have h1 := altsF_p part p.l (fun x _ st l => hp st l x) (st, []) p.l.length
  have h2 := oneF_p part p.l (fun x _ st l => hp st l x) st 0
  simp only at h1
  have e : ∀ (q : MkS) (x : Err), (q.fail x).p = q.p := fun _ _ => rfl
  simp only [fillF, List.length_modify]
  repeat' split
  all_goals first
    | exact h1
    | exact h2
theorem pieceF_p (names : List ByteArray) : ∀ (d : Nat) (st : MkS) (l : List SymS) (x : PartS), st.p.length ≤ (pieceF names d st l x).1.p.length
  | 0, st, l, x => by simp [pieceF]
  | d + 1, st, l, .mk k t r ch a => by
    have ih := pieceF_p names d
    simp only [pieceF]
    split
    · split
      · exact Nat.le_refl _
      · exact Nat.le_refl _
    · split
      · exact Nat.le_refl _
      · split
        · exact Nat.le_refl _
        · split
          · exact Nat.le_refl _
          · split
            · have : ∀ (ch : List PartS) (q : MkS × List SymS), q.1.p.length ≤ (ch.foldl (fun q x => if q.1.bad = none then pieceF names d q.1 q.2 x else q) q).1.p.length := by
                intro ch
                induction ch with
                | nil => intro q; exact Nat.le_refl _
                | cons x ch ihc =>
                  intro q
                  simp only [List.foldl_cons]
                  refine Nat.le_trans ?_ (ihc _)
                  split
                  · exact ih _ _ _
                  · exact Nat.le_refl _
              exact this ch (st, l)
            · split
              · exact Nat.le_refl _
              · have h1 := fillF_p (pieceF names d) ih { st with p := st.p ++ [⟨[], 0, []⟩] } st.p.length (.mk k t r ch a)
                simp at h1
                simp only
                omega
theorem rulesF_p (names : List ByteArray) (d : Nat) (rs : List RuleS) (st : MkS) : ∀ n, st.p.length ≤ (rulesF (pieceF names d) rs n st).p.length
  | 0 => Nat.le_refl _
  | n + 1 => by
    refine Nat.le_trans (rulesF_p names d rs st n) ?_
    simp only [rulesF]
    split
    · exact Nat.le_refl _
    · split
      · exact fillF_p _ (pieceF_p names d) _ _ _
      · exact Nat.le_refl _
theorem oneF_60 (part : MkS → List SymS → PartS → MkS × List SymS) (hp : ∀ st l x, st.p.length ≤ 60 → (part st l x).1.p.length ≤ 60) (ch : List PartS) (st : MkS) (h : st.p.length ≤ 60) (i : Nat) : (oneF part st ch i).1.p.length ≤ 60 := by
  unfold oneF
  split
  · exact h
  · split
    · exact hp _ _ _ h
    · exact h
theorem altsF_60 (part : MkS → List SymS → PartS → MkS × List SymS) (hp : ∀ st l x, st.p.length ≤ 60 → (part st l x).1.p.length ≤ 60) (ch : List PartS) (r : MkS × List (List SymS)) (h : r.1.p.length ≤ 60) : ∀ n, (altsF part ch n r).1.p.length ≤ 60
  | 0 => h
  | n + 1 => oneF_60 part hp ch _ (altsF_60 part hp ch r h n) n
theorem fillF_60 (part : MkS → List SymS → PartS → MkS × List SymS) (hp : ∀ st l x, st.p.length ≤ 60 → (part st l x).1.p.length ≤ 60) (st : MkS) (h : st.p.length ≤ 60) (n : Nat) (p : PartS) : (fillF part st n p).p.length ≤ 60 := by
  have h1 := altsF_60 part hp p.l (st, []) h p.l.length
  have h2 := oneF_60 part hp p.l st h 0
  have e : ∀ (q : MkS) (x : Err), (q.fail x).p = q.p := fun _ _ => rfl
  simp only [fillF, List.length_modify]
  repeat' split
  all_goals first
    | exact h1
    | exact h2
theorem pieceF_60 (names : List ByteArray) : ∀ (d : Nat) (st : MkS) (l : List SymS) (x : PartS), st.p.length ≤ 60 → (pieceF names d st l x).1.p.length ≤ 60
  | 0, st, l, x, h => by simpa [pieceF] using h
  | d + 1, st, l, .mk k t r ch a, h => by
    have ih := pieceF_60 names d
    simp only [pieceF]
    split
    · split
      · exact h
      · exact h
    · split
      · exact h
      · split
        · exact h
        · split
          · exact h
          · split
            · have : ∀ (ch : List PartS) (q : MkS × List SymS), q.1.p.length ≤ 60 → (ch.foldl (fun q x => if q.1.bad = none then pieceF names d q.1 q.2 x else q) q).1.p.length ≤ 60 := by
                intro ch
                induction ch with
                | nil => intro q h; exact h
                | cons x ch ihc =>
                  intro q h
                  simp only [List.foldl_cons]
                  refine ihc _ ?_
                  split
                  · exact ih _ _ _ h
                  · exact h
              exact this ch (st, l) h
            · split
              · exact h
              · rename_i hc
                exact fillF_60 (pieceF names d) ih { st with p := st.p ++ [⟨[], 0, []⟩] } (by simp; omega) st.p.length (.mk k t r ch a)
theorem rulesF_60 (names : List ByteArray) (d : Nat) (rs : List RuleS) (st : MkS) (h : st.p.length ≤ 60) : ∀ n, (rulesF (pieceF names d) rs n st).p.length ≤ 60
  | 0 => h
  | n + 1 => by
    have h1 := rulesF_60 names d rs st h n
    simp only [rulesF]
    split
    · exact h1
    · split
      · exact fillF_60 _ (pieceF_60 names d) _ h1 _ _
      · exact h1
end Go.Proofs.YtkminfdblimiiaaGreatDoor
namespace Go.Proofs.YtkminfdblimiiaaGreatDoor
open Go Go.RowKit Go.MapKept

set_option maxRecDepth 20000 in
set_option maxHeartbeats 4000000 in
theorem of_any (S0 : List Nat) (d : Nat) (f : FileS) (row : Array Value) (w : World) (hS0 : ∀ b ∈ S0, b < w.heap.size) (hm : f.rules.length ≤ 60) (hm0 : 0 < f.rules.length) (hkl : f.keys.length ≤ 1000000) (H : FileAt S0 w f row) (hnd : (f.rules.map RuleS.name).Nodup) (hnt : ∀ r ∈ f.rules, r.nt.length ≤ 1000000)
    (hok : ∀ r ∈ f.rules, (altP r.e).length ≤ 1000000 ∧ ∀ x ∈ altP r.e, okF d x = true ∧ wtF d x ≤ 1000000) (hbad : (rulesF (pieceF (f.rules.map RuleS.name) d) f.rules f.rules.length ⟨f.rules.map prod0, none⟩).bad = none) :
    Calls Tryz.prog 41 #[.agg row] w (OfPost S0 w ⟨(rulesF (pieceF (f.rules.map RuleS.name) d) f.rules f.rules.length ⟨f.rules.map prod0, none⟩).p, f.keys⟩) := by
  obtain ⟨A, C, B, D, rfl, hk, hr⟩ := H
  have hmm := @run_makeMap Tryz.prog
  have K0 : Keep [] w (ofW0 f A B C D w) := ((((Keep.refl [] w).alloc _).alloc _).alloc _).alloc _
  have BF : Blk (ofW0 f A B C D w) w.heap.size #[.slice A f.keys.length C, .slice B f.rules.length D] 63 := (((Blk.new w _ _).alloc _).alloc _).alloc _
  have BG : Blk (ofW0 f A B C D w) (w.heap.size + 1) gramZ 25 := ((Blk.new' (w.alloc (.cells #[.slice A f.keys.length C, .slice B f.rules.length D] 63)) gramZ 25 (b := w.heap.size + 1) (by simp)).alloc _).alloc _
  have BM : MapB (ofW0 f A B C D w) (w.heap.size + 1 + 1) (nameE []) 0 := by
    have h := (MapB.new (ofW1 f A B C D w) #[] 0).alloc (.cells #[.map (some (w.heap.size + 1 + 1)), .slice none 0 0, .pointer none] 98)
    rw [ofW1_size] at h
    exact h
  have BK : Blk (ofW0 f A B C D w) (w.heap.size + 1 + 1 + 1) #[.map (some (w.heap.size + 1 + 1)), .slice none 0 0, .pointer none] 98 := Blk.new' ((ofW1 f A B C D w).alloc (.map #[] 0)) _ _ (by simp [ofW1_size])
  have hT0 : OfAt S0 f A B C D w 0 (ofW0 f A B C D w) := ⟨.slice none 0 0, K0, ⟨⟨_, BK, rfl⟩, OwnL.nil _ _ _ _ _, OwnL.nil _ _ _ _ _, BM, by simp, by simp, fun x hx => by rcases List.mem_cons.1 hx with h | hx; (simp [ofW0, ofW1_size]; omega); rcases List.mem_cons.1 hx with h | hx; (simp [ofW0, ofW1_size]; omega); rcases List.mem_cons.1 hx with h | hx; (simp [ofW0, ofW1_size]; omega); rcases List.mem_cons.1 hx with h | hx; (simp [ofW0, ofW1_size]; omega); (have := hS0 x hx; simp [ofW0, ofW1_size]; omega), by simp [ofW0, ofW1_size]⟩,
    SlOf.move hk strRow_stab (by omega) K0 (by simp) (fun x hx => by simp [ownB, Value.ownBlock] at hx; rcases hx with h | h | h | h | h; (right; omega); (right; omega); (right; omega); (right; omega); exact .inl h), SlOf.move hr ruleAt_stab (by omega) K0 (by simp) (fun x hx => by simp [ownB, Value.ownBlock] at hx; rcases hx with h | h | h | h | h; (right; omega); (right; omega); (right; omega); (right; omega); exact .inl h), BF, BG⟩
  have HT0 := Lib.hid hT0; clear hT0 BM BK BF BG K0 hk hr
  have HND := Lib.hid hnd; clear hnd
  have HNT := Lib.hid hnt; clear hnt
  have HOK := Lib.hid hok; clear hok
  have HBAD := Lib.hid hbad; clear hbad
  go_enter Tryz.func41, Tryz.ntmps41
  go_wp2
  go_loopw [18] (fun i wr => ∃ k : Nat, k ≤ f.rules.length ∧ i = .int .i64 k ∧ OfAt S0 f A B C D w k wr) (fun i _ => f.rules.length - (intOf i).toNat)
  case atStart => exact ⟨0, by omega, rfl, HT0.out⟩
  case round =>
    obtain ⟨k, hk, rfl, pvk, K1, H1, hk1, hr1, BF, BG⟩ := hrel
    clear HT0
    by_cases hlt : k < f.rules.length
    · have hlt' : (k : Int) < (f.rules.length : Int) := by omega
      have HLT := Lib.hid hlt
      have hr1' := hr1
      obtain ⟨_, _, hveq, _, hc2⟩ := SlOf.at hr1'
      simp only [Value.slice.injEq, true_and] at hveq
      obtain ⟨rfl, rfl⟩ := hveq
      obtain ⟨b, o, rfl, hb, hc⟩ := hc2 (by omega)
      obtain ⟨prow, hz, hcell, hR⟩ := hc k hlt
      have hR' := hR
      obtain ⟨k', t', A', n', C', B', m', D', a', N', x', F', rfl, hpart, hrng⟩ := hR'
      have hrng' := hrng
      obtain ⟨_, _, hv, _⟩ := hrng'
      simp only [Value.slice.injEq, List.length_map] at hv
      obtain ⟨rfl, rfl, rfl⟩ := hv
      have e0 := hcell 0 (by omega)
      have e1 := hcell 1 (by omega)
      have e2 := hcell 2 (by omega)
      have e3 := hcell 3 (by omega)
      have e4 := hcell 4 (by omega)
      have e5 := hcell 5 (by omega)
      have e6 := hcell 6 (by omega)
      have e7 := hcell 7 (by omega)
      have e8 := hcell 8 (by omega)
      clear hcell hc2 hc hr1' hz
      simp at e0 e1 e2 e3 e4 e5 e6 e7 e8
      have hna : nameAt ((f.rules.take k).map RuleS.name) f.rules[k].name = none := by
        have := nameAt_none (f.rules.map RuleS.name) k (by simpa using hlt) HND.out
        rw [List.getElem_map] at this
        rw [List.map_take]; exact this
      have hnt1 := HNT.out f.rules[k] (List.getElem_mem _)
      have htk : f.rules.take (k + 1) = f.rules.take k ++ [f.rules[k]] := List.take_succ_eq_append_getElem hlt
      have hnl : ((f.rules.take k).map RuleS.name).length = k := by simp; omega
      generalize f.rules[k] = rk at e0 e1 e2 e3 e4 e5 e6 e7 e8 hna hnt1 htk hpart hrng hR
      generalize hnm : (f.rules.take k).map RuleS.name = names at H1 hna hnl
      have HNM := Lib.hid hnm; clear hnm
      have HTK := Lib.hid htk; clear htk
      have H1base := Lib.hid H1.base
      have KA := (Keep.refl [] wr).alloc (.cells #[.string rk.name, .int .i64 rk.marks, .int .i64 k', .string t', .slice A' n' C', .slice B' m' D', .int .i64 a', .slice N' rk.nt.length F', .int .i64 rk.a] 92)
      have H2 := H1.keep KA
      have BR := Blk.new wr #[.string rk.name, .int .i64 rk.marks, .int .i64 k', .string t', .slice A' n' C', .slice B' m' D', .int .i64 a', .slice N' rk.nt.length F', .int .i64 rk.a] 92
      have H2b := H2.box
      obtain ⟨bv, hB, hbv⟩ := H2b
      have hbv : bv = .pointer none := hbv
      subst hbv
      have c0 := hB.cell 0
      have hlk : ∀ n, (Instr.lookup 95 (.map (some (w.heap.size + 1 + 1))) (.string rk.name) true).run Tryz.prog (World.drewN (wr.alloc (.cells #[.string rk.name, .int .i64 rk.marks, .int .i64 k', .string t', .slice A' n' C', .slice B' m' D', .int .i64 a', .slice N' rk.nt.length F', .int .i64 rk.a] 92)) n) = .ok (.tuple #[.int .i64 0, .bool false]) (World.drewN (wr.alloc (.cells #[.string rk.name, .int .i64 rk.marks, .int .i64 k', .string t', .slice A' n' C', .slice B' m' D', .int .i64 a', .slice N' rk.nt.length F', .int .i64 rk.a] 92)) n) := fun n => by
        have := name_look (World.drewN _ n) (w.heap.size + 1 + 1) names _ rk.name (H2.map.drewN n)
        rw [hna] at this
        exact this
      go_wp2
      go_quiet (fail)
      have H3 := H2.keep ((Keep.refl [] _).drewN nq)
      have BR3 := BR.drewN nq
      have KW := KA.drewN nq
      have hR3 := ruleAt_stab _ _ _ _ _ _ _ hR KW (by simp) (fun x hx => .inl hx)
      have hrng3 : Rngs _ _ (.slice N' rk.nt.length F') rk.nt := Sl.move hrng (by omega) KW (by simp) (fun x hx => .inl hx)
      clear H2 hB BR KA H1 hR hrng hpart c0 hlk e0 e1 e2 e3 e4 e5 e6 e7 e8
      go_wp2
      generalize World.drewN _ nq = W3 at H3 BR3 KW hR3 hrng3 ⊢
      have H3b := H3.box
      obtain ⟨bv, hB, hbv⟩ := H3b
      have hbv : bv = .pointer none := hbv
      subst hbv
      have c0 := hB.cell 0
      have r0 := BR3.cell 0
      go_still_tail 7, (by kernel_rfl)
      obtain ⟨W4, hmu, hM4, K4⟩ := nupd W3.drew (w.heap.size + 1 + 1) names rk.name H3.map hna
      rw [hnl] at hmu
      have H4 := (H3.keep ((Keep.refl [] _).drew)).named hM4 K4 (by simp) (by omega)
      have hlr := BR3.lt
      have hwr := K1.size
      have hsz3 := KW.size
      have BR4 := BR3.drew.keep K4 (by have := H3.base; have := H3.map.lt; have h2 := H3.map; simp; intro e; rw [e] at BR3; unfold Blk at BR3; unfold MapB at h2; rw [h2] at BR3; cases BR3)
      have hrng4 : Rngs _ _ (.slice N' rk.nt.length F') rk.nt := Sl.move hrng3 (by omega) ((((Keep.refl [] W3).drew).mono (S' := [w.heap.size + 1 + 1]) (by simp)).trans K4) (fun x hx => .inl (by simp at hx; simp [hx])) (fun x hx => .inl hx)
      have HK1 := Lib.hid hk1
      have HR1 := Lib.hid hr1
      have KW4 := ((KW.drew).mono (S' := [w.heap.size + 1 + 1]) (by simp)).trans K4
      clear c0 r0 hB
      go_wp2_with fail
      clear hmu
      have hN4 : (names ++ [rk.name]).length ≤ 61 := by simp; omega
      have hcall := rngClone_any _ (.slice N' rk.nt.length F') rk.nt W4.drew (Sl.move hrng4 (by omega) ((Keep.refl [] W4).drew) (by simp) (fun x hx => .inl hx)) hnt1
      have HC := Lib.hid hcall; clear hcall
      have B4 := BR4.drew
      have r1 := B4.cell 1
      have r3 := B4.cell 3
      have r7 := B4.cell 7
      have H4b := H4.box
      obtain ⟨bv4, hB4, hbv4⟩ := H4b
      have hbv4 : bv4 = .pointer none := hbv4
      subst hbv4
      have m1 := hB4.drew.cell 1
      have hlk1 : ((f.rules.take k).map prod0).length = k := by simp; omega
      generalize hps : (f.rules.take k).map prod0 = ps at H4 hlk1
      have HPS := Lib.hid hps; clear hps
      have hlk2 : ps.length ≤ 60 := by omega
      have HLK1 := Lib.hid hlk1; clear hlk1
      have HNL := Lib.hid hnl; clear hnl
      obtain ⟨A8, C8, hv8⟩ := H4.prods.slice
      subst hv8
      have hbs := H4.base
      obtain ⟨i0, hi0, hz0, hz1, hz2⟩ := info_parts info_prod
      go_wp2
      go_region_law (first
        | (go_simp; go_at_call 54; refine HC.out.mono ?_; rintro e W5 ⟨⟨A9, C9, rfl, hA9⟩, K5⟩; have H5 := (H4.keep ((Keep.refl [] _).drew)).keep K5; have BM5 := (hB4.drew).keep K5 (by simp); have m5 := BM5.cell; have l5 := BM5.lt; have f5 := BM5.frozen; have B5 := B4.keep K5 (by simp); have r5 := B5.cell; obtain ⟨rows, hlr5, hown, hel⟩ := H5.prods; have hsz5 := K5.size; dsimp only)
        | (refine step_append_lies _ (by rfl) _ _ _ (by rfl) (w.heap.size + 1 + 1 + 1 + 1) 29 i0 (.agg #[.slice none 0 0, .int .i64 0, .slice none 0 0]) 3 56 Tryz.underlying22 hi0 hz0 hz1 hz2 rfl (by omega) (.slice A8 ps.length C8) ps.length _ (by rfl) (hown.alloc _) ⟨W5.heap.size, 0, none⟩ 1 1 [.slice none 0 0, .int .i64 rk.marks, .slice A9 rk.nt.length C9] (by rfl) rfl (World.news_of_block (Blk.new' _ #[.slice none 0 0, .int .i64 rk.marks, .slice A9 rk.nt.length C9] _ rfl)) (by simp [Value.oneCell']) (by decide) (by unfold maxLen; omega) (by omega) (by simp; simp at hsz5; omega) _ rfl ?_; intro g cap w7 O7 G7 W7 L7; have BM7 := Blk.grown (BM5.alloc _) G7 (fun e => by have := (H4.prods.base _ (mem_own e)).1; omega); have cM7 := BM7.cell; have fM7 := BM7.frozen))
      all_goals
        have K67 := (Keep.refl [] W5).alloc (.cells #[.slice none 0 0, .int .i64 rk.marks, .slice A9 rk.nt.length C9] 29)
        have hx5 : ProdRow (ownB (.slice A8 ps.length C8) ++ (ownB (.slice none 0 0) ++ ((w.heap.size + 1 + 1 + 1) :: (w.heap.size + 1 + 1) :: (w.heap.size + 1) :: w.heap.size :: S0))) W5 (prod0 rk) #[.slice none 0 0, .int .i64 rk.marks, .slice A9 rk.nt.length C9] :=
          ⟨none, 0, A9, C9, rfl, SlOf.nil _ _ _, hA9 _ (fun b hb => H4.all b (by simp [ownB, Value.ownBlock] at hb ⊢; exact hb))⟩
        obtain ⟨H8, K8, hp8⟩ := (H5.keep K67).pushProd rows hlr5 (fun i hi hi' => ⟨(hel i hi hi').1, prodRow_stab _ _ _ _ _ _ _ (hel i hi hi').2 K67 (by simp) (fun x hx => .inl hx)⟩) (prodRow_stab _ _ _ _ _ _ _ hx5 K67 (by simp) (fun x hx => .inl hx)) rfl O7 G7 W7
        have hTK := HTK.out
        have KT : Keep ((w.heap.size + 1 + 1 + 1) :: (w.heap.size + 1 + 1) :: ownB (.slice A8 ps.length C8)) wr (w7.setCell ⟨w.heap.size + 1 + 1 + 1, 1, none⟩ (.slice (some ⟨g, 0, none⟩) (ps.length + 1) cap)) :=
          ((((KW4.drew).mono (by simp)).trans (K5.mono (by simp))).trans (K67.mono (by simp))).trans (K8.mono (fun x hx => .inl (by simp at hx ⊢; rcases hx with h | h <;> simp [h])))
        have hfin := of_push S0 f A (some ⟨b, o, none⟩) C D w wr W4 _ k (.slice A8 ps.length C8) (.slice (some ⟨g, 0, none⟩) (ps.length + 1) cap) _ (fun x hx => by simp at hx; rcases hx with h | h | h <;> simp [h]) K1 KT (fun b hb => (H4.prods.base b hb).1) (by have h1 := H1base.out; exact h1) HK1.out HR1.out BF BG (fun b hb => by
            rcases hp8 b hb with h | h
            · exact .inl h
            · exact .inr (by have h1 := KW4.size; have h2 := K5.size; simp at h h2; omega)) (by
            rw [hTK, List.map_append, List.map_append, HNM.out, HPS.out]
            exact H8)
        have HFIN := Lib.hid hfin
        clear hfin KT H8 K8 hx5 K67 hTK hp8 O7 G7 W7 L7 hel hown
        go_wp2
        go_roundw
        case rel => exact ⟨k + 1, by have := HLT.out; omega, by go_num, HFIN.out⟩
        case measure => simp [intOf]; have := HLT.out; omega
    · obtain rfl : k = f.rules.length := by omega
      rw [List.take_length] at H1
      have hT2 : OfAt2 S0 d f A B C D w 0 wr := ⟨pvk, K1, H1, hk1, hr1, BF, BG⟩
      have HT2 := Lib.hid hT2; clear hT2
      have b1 := BF.cell 1
      clear H1 hk1 hr1
      have hm0' : ((f.rules.length : Int) == 0) = false := beq_eq_false_iff_ne.2 (by omega)
      have hm60' : decide ((60 : Int) < (f.rules.length : Int)) = false := by simp; omega
      go_wp2
      go_loopw [74] (fun i wr => ∃ k : Nat, k ≤ f.rules.length ∧ i = .int .i64 k ∧ OfAt2 S0 d f A B C D w k wr) (fun i _ => f.rules.length - (intOf i).toNat)
      case atStart => exact ⟨0, by omega, rfl, HT2.out⟩
      case round =>
        clear HT2 BF BG b1 K1
        obtain ⟨k, hk, rfl, pvk, K1, H1, hk1, hr1, BF, BG⟩ := hrel
        by_cases hlt : k < f.rules.length
        · have hlt' : (k : Int) < (f.rules.length : Int) := by omega
          have HLT := Lib.hid hlt
          have HQS : Hid (rulesF (pieceF (f.rules.map RuleS.name) d) f.rules (k + 1) ⟨f.rules.map prod0, none⟩ = if (rulesF (pieceF (f.rules.map RuleS.name) d) f.rules k ⟨f.rules.map prod0, none⟩).bad = none then ruleF (pieceF (f.rules.map RuleS.name) d) (rulesF (pieceF (f.rules.map RuleS.name) d) f.rules k ⟨f.rules.map prod0, none⟩) k f.rules[k].e else rulesF (pieceF (f.rules.map RuleS.name) d) f.rules k ⟨f.rules.map prod0, none⟩) := Lib.hid (by
            simp only [rulesF]; rw [List.getElem?_eq_getElem hlt]; rfl)
          have hpn := rulesF_p (f.rules.map RuleS.name) d f.rules ⟨f.rules.map prod0, none⟩ k
          rw [List.length_map] at hpn
          have hp60 := rulesF_60 (f.rules.map RuleS.name) d f.rules ⟨f.rules.map prod0, none⟩ (by simpa using hm) k
          have hok1 := HOK.out f.rules[k] (List.getElem_mem _)
          have hr1' := hr1
          obtain ⟨_, _, hveq, _, hc2⟩ := SlOf.at hr1'
          simp only [Value.slice.injEq, true_and] at hveq
          obtain ⟨rfl, rfl⟩ := hveq
          obtain ⟨b, o, rfl, hb, hc⟩ := hc2 (by omega)
          obtain ⟨prow, hz, hcell, hR⟩ := hc k hlt
          have hR' := hR
          obtain ⟨k', t', A', n', C', B', m', D', a', N', x', F', rfl, hpart, hrng⟩ := hR'
          have e0 := hcell 0 (by omega)
          have e1 := hcell 1 (by omega)
          have e2 := hcell 2 (by omega)
          have e3 := hcell 3 (by omega)
          have e4 := hcell 4 (by omega)
          have e5 := hcell 5 (by omega)
          have e6 := hcell 6 (by omega)
          have e7 := hcell 7 (by omega)
          have e8 := hcell 8 (by omega)
          clear hcell hc2 hc hr1' hz hR hrng
          simp at e0 e1 e2 e3 e4 e5 e6 e7 e8
          generalize f.rules[k] = rk at e0 e1 e2 e3 e4 e5 e6 e7 e8 hpart hok1 HQS
          generalize hq : rulesF (pieceF (f.rules.map RuleS.name) d) f.rules k ⟨f.rules.map prod0, none⟩ = q at H1 HQS hpn hp60
          clear hq
          have KA := (Keep.refl [] wr).alloc (.cells #[.string rk.name, .int .i64 rk.marks, .int .i64 k', .string t', .slice A' n' C', .slice B' m' D', .int .i64 a', .slice N' x' F', .int .i64 rk.a] 92)
          have H2 := H1.keep KA
          have hk2 := SlOf.move (S' := ownB pvk ++ ((w.heap.size + 1 + 1 + 1) :: (w.heap.size + 1 + 1) :: (w.heap.size + 1) :: w.heap.size :: S0)) hk1 strRow_stab (by omega) KA (by simp) (fun x hx => .inl hx)
          have hr2 := SlOf.move (S' := ownB pvk ++ ((w.heap.size + 1 + 1 + 1) :: (w.heap.size + 1 + 1) :: (w.heap.size + 1) :: w.heap.size :: S0)) hr1 ruleAt_stab (by omega) KA (by simp) (fun x hx => .inl hx)
          have HK2 := Lib.hid hk2
          have HR2 := Lib.hid hr2
          have BF2 := BF.keep KA (by simp)
          have BG2 := BG.keep KA (by simp)
          have H2b := H2.box
          obtain ⟨bv, hB, hbv⟩ := H2b
          have c2 := hB.cell 2
          have c2' : (wr.alloc (.cells #[.string rk.name, .int .i64 rk.marks, .int .i64 k', .string t', .slice A' n' C', .slice B' m' D', .int .i64 a', .slice N' x' F', .int .i64 rk.a] 92)).cell? ⟨w.heap.size + 1 + 1 + 1, 2, none⟩ = some bv := c2
          clear c2 hk2 hr2
          cases hbd : q.bad with
          | some x =>
            rw [hbd] at hbv
            obtain ⟨bb, rfl, _, _⟩ := hbv
            have hqq : ∀ (b : Nat) (w : World), (binOp .eql 96 (.pointer (some ⟨b, 0, none⟩)) (.pointer none)).run Tryz.prog w = .ok (.bool false) w := fun _ _ => by kernel_rfl
            have HBD := Lib.hid hbd; clear hbd
            have hfin : OfAt2 S0 d f A (some ⟨b, o, none⟩) C D w (k + 1) (wr.alloc (.cells #[.string rk.name, .int .i64 rk.marks, .int .i64 k', .string t', .slice A' n' C', .slice B' m' D', .int .i64 a', .slice N' x' F', .int .i64 rk.a] 92)) :=
              ⟨pvk, K1.trans KA, by rw [HQS.out, if_neg (by rw [HBD.out]; simp)]; exact H2, HK2.out, HR2.out, BF2, BG2⟩
            have HFIN := Lib.hid hfin; clear hfin
            go_wp2
            go_roundw
            case rel => exact ⟨k + 1, by have := HLT.out; omega, by go_num, HFIN.out⟩
            case measure => simp [intOf]; have := HLT.out; omega
          | none =>
            rw [hbd] at hbv
            have hbv : bv = .pointer none := hbv
            subst hbv
            have hqq : ∀ (w : World), (binOp .eql 96 (.pointer none) (.pointer none)).run Tryz.prog w = .ok (.bool true) w := fun _ => by kernel_rfl
            have HBD := Lib.hid hbd; clear hbd
            have hcall := frule_any _ _ _ _ _ pvk q d k rk.e _ _ (by omega) (by omega) hok1.1 (fun x _ st l => pieceF_p _ d st l x) (fun S x hx => piece_ok S _ _ _ _ d x (hok1.2 x hx).1) (fun x hx => (hok1.2 x hx).2) H2 (partAt_stab _ _ _ _ _ _ _ hpart KA (by simp) (fun x hx => .inl hx))
            have HC := Lib.hid hcall; clear hcall hok1 hpart
            go_wp2_with fail
            refine HC.out.mono ?_
            rintro e w3 ⟨K3, pv3, rfl, H3, hp3⟩
            have hT3 : ∀ x ∈ (w.heap.size + 1 + 1 + 1) :: ownB pvk, x ∈ ownB pvk ++ ((w.heap.size + 1 + 1 + 1) :: (w.heap.size + 1 + 1) :: (w.heap.size + 1) :: w.heap.size :: S0) ∨ (wr.alloc (.cells #[.string rk.name, .int .i64 rk.marks, .int .i64 k', .string t', .slice A' n' C', .slice B' m' D', .int .i64 a', .slice N' x' F', .int .i64 rk.a] 92)).heap.size ≤ x := fun x hx => .inl (by simp at hx ⊢; rcases hx with h | h <;> simp [h])
            have hS3 : ∀ x ∈ ownB pv3 ++ ((w.heap.size + 1 + 1 + 1) :: (w.heap.size + 1 + 1) :: (w.heap.size + 1) :: w.heap.size :: S0), x ∈ ownB pvk ++ ((w.heap.size + 1 + 1 + 1) :: (w.heap.size + 1 + 1) :: (w.heap.size + 1) :: w.heap.size :: S0) ∨ (wr.alloc (.cells #[.string rk.name, .int .i64 rk.marks, .int .i64 k', .string t', .slice A' n' C', .slice B' m' D', .int .i64 a', .slice N' x' F', .int .i64 rk.a] 92)).heap.size ≤ x := fun x hx => by
              rcases List.mem_append.1 hx with h | h
              · rcases hp3 x h with h | h
                · exact .inl (List.mem_append.2 (.inl h))
                · exact .inr h
              · exact .inl (List.mem_append.2 (.inr h))
            have hpb := fun b hb => (H2.prods.base b hb).1
            have hfin : OfAt2 S0 d f A (some ⟨b, o, none⟩) C D w (k + 1) w3 :=
              ⟨pv3, (K1.trans KA).then K3 (fun x hx => .inr (by rcases List.mem_cons.1 hx with h | h; omega; have := hpb x h; omega)), by rw [HQS.out, if_pos HBD.out]; exact H3, SlOf.move HK2.out strRow_stab (by omega) K3 hT3 hS3, SlOf.move HR2.out ruleAt_stab (by omega) K3 hT3 hS3,
                BF2.keep K3 (fun hx => by rcases List.mem_cons.1 hx with h | h; omega; have := hpb _ h; omega), BG2.keep K3 (fun hx => by rcases List.mem_cons.1 hx with h | h; omega; have := hpb _ h; omega)⟩
            have HFIN := Lib.hid hfin; clear hfin
            clear hT3 hS3 hpb
            go_wp2
            go_roundw
            case rel => exact ⟨k + 1, by have := HLT.out; omega, by go_num, HFIN.out⟩
            case measure => simp [intOf]; have := HLT.out; omega
        · obtain rfl : k = f.rules.length := by omega
          have HBq := HBAD.out
          have HG60 := rulesF_60 (f.rules.map RuleS.name) d f.rules ⟨f.rules.map prod0, none⟩ (by simpa using hm) f.rules.length
          generalize hq : rulesF (pieceF (f.rules.map RuleS.name) d) f.rules f.rules.length ⟨f.rules.map prod0, none⟩ = q at H1 HBq HG60
          have HQ := Lib.hid hq; clear hq
          obtain ⟨bv, hB, hbv⟩ := H1.box
          rw [HBq] at hbv
          have hbv : bv = .pointer none := hbv
          subst hbv
          clear HBq
          have hqq : ∀ (w : World), (binOp .neq 96 (.pointer none) (.pointer none)).run Tryz.prog w = .ok (.bool false) w := fun _ => by kernel_rfl
          have c1 := hB.cell 1
          have c2 := hB.cell 2
          have c2' : wr.cell? ⟨w.heap.size + 1 + 1 + 1, 2, none⟩ = some (.pointer none) := c2
          have b0 := BF.cell 0
          clear c2 hr1
          have hcall := strClone_any _ _ f.keys wr.drew (strs_back (SlOf.move hk1 strRow_stab (by omega) ((Keep.refl [] wr).drew) (by simp) (fun x hx => .inl hx))) hkl
          have HC := Lib.hid hcall; clear hcall hk1
          have hSl : ∀ b ∈ S0, b < wr.heap.size := fun b hb => Nat.lt_of_lt_of_le (hS0 b hb) K1.size
          obtain ⟨Ap, Cp, hpv⟩ := H1.prods.slice
          subst hpv
          go_wp2
          go_region_law (first
            | (go_simp; go_at_call 56; refine HC.out.mono ?_; rintro e W5 ⟨⟨A9, C9, rfl, hA9⟩, K5⟩; have BM5 := (hB.drew).keep K5 (by simp); have m5 := BM5.cell; have l5 := BM5.lt; have f5 := BM5.frozen; have B5 := (BF.drew).keep K5 (by simp); have r5 := B5.cell; have G5 := (BG.drew).keep K5 (by simp); unfold gramZ at G5; have g5 := G5.cell; have gf5 := G5.frozen; have gl5 := G5.lt; dsimp only))
          all_goals
            have KD := ((Keep.refl [] wr).drew).trans K5
            have KS := ((Keep.refl [w.heap.size + 1] W5).setCell (p := ⟨w.heap.size + 1, 0, none⟩) (by simp) (.slice (Ap) q.p.length Cp)).setCell (p := ⟨w.heap.size + 1, 1, none⟩) (by simp) (.slice A9 f.keys.length C9)
            have hlo : ∀ b ∈ ownB (.slice Ap q.p.length Cp), w.heap.size ≤ b := fun b hb => by have := (H1.prods.base b hb).1; omega
            have hP : Prods ((w.heap.size + 1) :: S0) W5 (.slice Ap q.p.length Cp) q.p := SlOf.move (S := (w.heap.size + 1) :: S0) (H1.prods.read prodRow_stab (fun b hb => .inl (by simp [ownB, Value.ownBlock] at hb ⊢; rcases hb with h | h <;> simp [h])) (fun b hb hb' => by
              have h1 := (H1.prods.base b hb).1
              rcases List.mem_cons.1 hb' with h | h
              · omega
              · have := hS0 b h; omega)) prodRow_stab (by omega) KD (by simp) (fun x hx => .inl hx)
            have hP2 : Prods S0 _ (.slice Ap q.p.length Cp) q.p := SlOf.move hP prodRow_stab (by omega) KS (fun x hx => .inl (by simp at hx; simp [hx])) (fun x hx => .inl (by simp [hx]))
            have hK2 : SlOf StrRow S0 _ 1 (.slice A9 f.keys.length C9) f.keys := SlOf.move (S := (w.heap.size + 1) :: S0) (strs_fwd (hA9 _ (fun b hb => by
              have hw := K1.size
              have hl := BG.lt
              rcases List.mem_cons.1 hb with h | h
              · simp; omega
              · have := hSl b h; simpa using this))) strRow_stab (by omega) KS (fun x hx => .inl (by simp at hx; simp [hx])) (fun x hx => .inl (by simp [hx]))
            have KF := (K1.trans KD).then KS (fun x hx => .inr (by simp at hx; omega))
            have BGF : Blk ((W5.setCell ⟨w.heap.size + 1, 0, none⟩ (.slice Ap q.p.length Cp)).setCell ⟨w.heap.size + 1, 1, none⟩ (.slice A9 f.keys.length C9)) (w.heap.size + 1) #[.slice Ap q.p.length Cp, .slice A9 f.keys.length C9] 25 := by simpa using (G5.set 0 (.slice Ap q.p.length Cp)).set 1 (.slice A9 f.keys.length C9)
            have cF := BGF.cell
            have CF := Lib.hid cF
            have HP2 := Lib.hid hP2
            have HK2 := Lib.hid hK2
            have HKF := Lib.hid KF
            clear cF BGF KF hK2 hP2 hP hlo KS KD
            go_wp2
            have cF := CF.out
            exact bodyPost_ret (v := .tuple #[.agg #[.slice Ap q.p.length Cp, .slice A9 f.keys.length C9], .int .i64 0, .int .i64 0]) (by simp [results, Tryz.results41, go_sem, cF]) rfl ⟨_, rfl, by rw [HQ.out]; exact ⟨_, _, _, _, rfl, HP2.out, HK2.out⟩, HKF.out⟩
end Go.Proofs.YtkminfdblimiiaaGreatDoor
namespace Go.Proofs.YtkminfdblimiiaaGreatDoor
open Go Go.RowKit Go.MapKept

/-- What a known file comes to. -/
structure OfOK (d : Nat) (f : FileS) (g : GramS) : Prop where
  len : f.rules.length ≤ 60 ∧ 0 < f.rules.length ∧ f.keys.length ≤ 1000000
  nodup : (f.rules.map RuleS.name).Nodup
  nt : ∀ r ∈ f.rules, r.nt.length ≤ 1000000
  ok : ∀ r ∈ f.rules, (altP r.e).length ≤ 1000000 ∧ ∀ x ∈ altP r.e, okF d x = true ∧ wtF d x ≤ 1000000
  res : rulesF (pieceF (f.rules.map RuleS.name) d) f.rules f.rules.length ⟨f.rules.map prod0, none⟩ = ⟨g.p, none⟩
  keys : g.keys = f.keys
theorem of_known (S0 : List Nat) (d : Nat) (f : FileS) (g : GramS) (row : Array Value) (w : World) (h : OfOK d f g) (hS0 : ∀ b ∈ S0, b < w.heap.size) (H : FileAt S0 w f row) :
    Calls Tryz.prog 41 #[.agg row] w (OfPost S0 w g) := by
  have h1 := of_any S0 d f row w hS0 h.len.1 h.len.2.1 h.len.2.2 H h.nodup h.nt h.ok (by rw [h.res])
  rw [h.res] at h1
  obtain ⟨gp, gk⟩ := g
  have hk : gk = f.keys := h.keys
  subst hk
  exact h1
def okFile (d : Nat) (f : FileS) : Bool := f.rules.all fun r => decide ((altP r.e).length ≤ 1000000) && (altP r.e).all fun x => okF d x && decide (wtF d x ≤ 1000000)
theorem okFile_of {d : Nat} {f : FileS} (h : okFile d f = true) : ∀ r ∈ f.rules, (altP r.e).length ≤ 1000000 ∧ ∀ x ∈ altP r.e, okF d x = true ∧ wtF d x ≤ 1000000 := by
  intro r hr
  have h1 := List.all_eq_true.1 h r hr
  simp only [Bool.and_eq_true, decide_eq_true_eq, List.all_eq_true] at h1
  exact h1
/-- Text s is read as file f, of which g is made. -/
structure TextOK (d : Nat) (s : ByteArray) (f : FileS) (g : GramS) : Prop where
  size : s.size ≤ 3000
  no1 : s.data.toList.all (fun b => b.toNat != 91) = true
  no2 : s.data.toList.all (fun b => b.toNat != 60) = true
  lex : (lexR cN cN s (s.size + 1) 0 []).2.2 = 0
  parse : parseR s.size (lexR cN cN s (s.size + 1) 0 []).1 = .ok f
  of : OfOK d f g
end Go.Proofs.YtkminfdblimiiaaGreatDoor
namespace Go.Proofs.YtkminfdblimiiaaGreatDoor
open Go Go.RowKit Go.MapKept

set_option maxHeartbeats 2000000 in
theorem text12_any (d : Nat) (s : ByteArray) (f : FileS) (g : GramS) (h : TextOK d s f g) (w : World) :
    Calls Tryz.prog 21 #[.string s] w fun e w' => (∃ row, e = .returned (.agg row) ∧ GramAt [] w' g row) ∧ Keep [] w w' := by
  have K0 := (Keep.refl [] w).alloc (.cells gramZ 25)
  have B0 := Blk.new w gramZ 25
  have hf := file_known [w.heap.size] s f (w.alloc (.cells gramZ 25)) (by simp) h.size h.no1 h.no2 h.lex h.parse
  have HF := Lib.hid hf; clear hf
  have HO := fun row w hS H => of_known [w.heap.size] d f g row w h.of hS H
  have HOF := Lib.hid h.of
  clear h HO
  unfold gramZ at HF K0 B0
  go_enter Tryz.func21, Tryz.ntmps21
  go_wp2_with fail
  refine HF.out.mono ?_
  rintro e w1 ⟨K1, row, rfl, hfile⟩
  clear HF
  obtain ⟨A1, C1, D1, E1, rfl, hk1, hr1⟩ := hfile
  have B1 := B0.keep K1 (by simp)
  have KF := (Keep.refl [] w1).alloc (.cells #[.slice A1 f.keys.length C1, .slice D1 f.rules.length E1] 63)
  have hcall := of_known [w.heap.size] d f g #[.slice A1 f.keys.length C1, .slice D1 f.rules.length E1] _ HOF.out (fun b hb => by have := B1.lt; simp at hb; subst hb; simp; omega) ⟨_, _, _, _, rfl, SlOf.move hk1 strRow_stab (by omega) KF (by simp) (fun x hx => .inl hx), SlOf.move hr1 ruleAt_stab (by omega) KF (by simp) (fun x hx => .inl hx)⟩
  have HC := Lib.hid hcall; clear hcall hk1 hr1
  have hmv : ∀ (x y z : Value) (w : World), (Instr.extract (.tuple #[x, y, z]) 0).run Tryz.prog w = .ok x w := fun _ _ _ _ => rfl
  go_wp2_with fail
  refine HC.out.mono ?_
  rintro e w2 ⟨row2, rfl, hg, K2⟩
  clear HC
  obtain ⟨A2, C2, D2, E2, rfl, hP, hK⟩ := hg
  have B2 := (B1.keep KF (by simp)).keep K2 (by simp)
  have c2 := B2.cell
  have f2 := B2.frozen
  have l2 := B2.lt
  have KS := (((Keep.refl [w.heap.size] w2).setCell (p := ⟨w.heap.size, 0, none⟩) (by simp) (.slice A2 g.p.length C2)).setCell (p := ⟨w.heap.size, 1, none⟩) (by simp) (.slice D2 g.keys.length E2)).alloc (.cells #[.slice A2 g.p.length C2, .slice D2 g.keys.length E2] 25)
  have BF : Blk (((w2.setCell ⟨w.heap.size, 0, none⟩ (.slice A2 g.p.length C2)).setCell ⟨w.heap.size, 1, none⟩ (.slice D2 g.keys.length E2)).alloc (.cells #[.slice A2 g.p.length C2, .slice D2 g.keys.length E2] 25)) w.heap.size #[.slice A2 g.p.length C2, .slice D2 g.keys.length E2] 25 := by simpa using ((B2.set 0 (.slice A2 g.p.length C2)).set 1 (.slice D2 g.keys.length E2)).alloc _
  have cF := BF.cell
  have CF := Lib.hid cF
  have hfin : GramAt [] (((w2.setCell ⟨w.heap.size, 0, none⟩ (.slice A2 g.p.length C2)).setCell ⟨w.heap.size, 1, none⟩ (.slice D2 g.keys.length E2)).alloc (.cells #[.slice A2 g.p.length C2, .slice D2 g.keys.length E2] 25)) g #[.slice A2 g.p.length C2, .slice D2 g.keys.length E2] :=
    ⟨_, _, _, _, rfl, SlOf.move hP prodRow_stab (by omega) KS (fun x hx => .inl hx) (by simp), SlOf.move hK strRow_stab (by omega) KS (fun x hx => .inl hx) (by simp)⟩
  have HFIN := Lib.hid hfin
  have HK := Lib.hid ((((K0.trans K1).trans KF).trans K2).then KS (fun x hx => by simp at hx; subst hx; exact .inr (Nat.le_refl _)))
  clear cF hfin KS BF
  go_wp2
  have cF := CF.out
  exact bodyPost_ret (v := .agg #[.slice A2 g.p.length C2, .slice D2 g.keys.length E2]) (by simp [results, Tryz.results21, go_sem, cF]) rfl ⟨⟨_, rfl, HFIN.out⟩, HK.out⟩
end Go.Proofs.YtkminfdblimiiaaGreatDoor
