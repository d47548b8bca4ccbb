/- The reference's words: who is empty, by as many rounds as there are nonterminals: the plain law. -/
import Derived.Test.YtbpidoiellcccaaGreatDoorK27
import Derived.Test.YtbpidoiellcccaaGreatDoorK28
set_option linter.unusedVariables false
set_option linter.unusedSimpArgs false
namespace Go.Proofs.YtbpidoiellcccaaGreatDoor
open Go Go.RowKit Go.MapKept

/-- A symbol that is a nonterminal of which it is told that it is empty. -/
def okB (bs : List Bool) (s : SymS) : Bool := decide (s.k = 2) && decide (0 ≤ s.n) && bs.getD s.n.toNat false
def onlyB (bs : List Bool) (l : List SymS) : Bool := l.all (okB bs)
def rA (p : ProdS) (i : Nat) (bs : List Bool) (j : Nat) : List Bool := match p.a[j]? with
  | some a => bs.set i (bs.getD i false || onlyB bs a)
  | none => bs
def rAs (p : ProdS) (i : Nat) (bs : List Bool) (j : Nat) : List Bool := (List.range j).foldl (rA p i) bs
def rP (ps : List ProdS) (bs : List Bool) (i : Nat) : List Bool := match ps[i]? with
  | some p => rAs p i bs p.a.length
  | none => bs
def rPs (ps : List ProdS) (bs : List Bool) (i : Nat) : List Bool := (List.range i).foldl (rP ps) bs
def rN (ps : List ProdS) : Nat → List Bool
  | 0 => List.replicate ps.length false
  | k + 1 => rPs ps (rN ps k) ps.length
theorem rAs_succ (p : ProdS) (i : Nat) (bs : List Bool) (j : Nat) : rAs p i bs (j + 1) = rA p i (rAs p i bs j) j := by
  unfold rAs
  rw [List.range_succ, List.foldl_append]
  rfl
theorem rPs_succ (ps : List ProdS) (bs : List Bool) (i : Nat) : rPs ps bs (i + 1) = rP ps (rPs ps bs i) i := by
  unfold rPs
  rw [List.range_succ, List.foldl_append]
  rfl
theorem rA_len (p : ProdS) (i : Nat) (bs : List Bool) (j : Nat) : (rA p i bs j).length = bs.length := by
  unfold rA
  split <;> simp
theorem rAs_len (p : ProdS) (i : Nat) (bs : List Bool) : ∀ j, (rAs p i bs j).length = bs.length
  | 0 => rfl
  | j + 1 => by rw [rAs_succ, rA_len, rAs_len p i bs j]
theorem rP_len (ps : List ProdS) (bs : List Bool) (i : Nat) : (rP ps bs i).length = bs.length := by
  unfold rP
  split
  · exact rAs_len _ _ _ _
  · rfl
theorem rPs_len (ps : List ProdS) (bs : List Bool) : ∀ i, (rPs ps bs i).length = bs.length
  | 0 => rfl
  | i + 1 => by rw [rPs_succ, rP_len, rPs_len ps bs i]
theorem rN_len (ps : List ProdS) : ∀ k, (rN ps k).length = ps.length
  | 0 => by simp [rN]
  | k + 1 => by rw [rN, rPs_len, rN_len ps k]
/-- Nothing turns, and it is closed there; or fewer are false. -/
theorem rA_either (p : ProdS) (i : Nat) (bs : List Bool) (j : Nat) (hi : i < bs.length) : (rA p i bs j = bs ∧ ∀ a, p.a[j]? = some a → onlyB bs a = true → bs[i]? = some true) ∨ falses (rA p i bs j) < falses bs := by
  unfold rA
  split
  · rename_i a ha
    have hg : bs.getD i false = bs[i] := by simp [hi]
    rw [hg]
    cases hb : bs[i] with
    | true =>
      left
      refine ⟨?_, fun _ _ _ => by rw [List.getElem?_eq_getElem hi, hb]⟩
      simp only [Bool.true_or]
      exact List.ext_getElem (by simp) (fun k h1 h2 => by rw [List.getElem_set]; split <;> simp_all)
    | false =>
      simp only [Bool.false_or]
      cases ho : onlyB bs a with
      | false =>
        left
        refine ⟨List.ext_getElem (by simp) (fun k h1 h2 => by rw [List.getElem_set]; split <;> simp_all), fun a' ha' h => ?_⟩
        rw [ha] at ha'
        obtain rfl := Option.some.inj ha'
        rw [ho] at h; cases h
      | true =>
        right
        have := falses_set bs i (by rw [List.getElem?_eq_getElem hi, hb])
        omega
  · rename_i ha
    exact .inl ⟨rfl, fun a' ha' => by rw [ha] at ha'; cases ha'⟩
theorem rAs_either (p : ProdS) (i : Nat) (bs : List Bool) (hi : i < bs.length) : ∀ k, (rAs p i bs k = bs ∧ ∀ j, j < k → ∀ a, p.a[j]? = some a → onlyB bs a = true → bs[i]? = some true) ∨ falses (rAs p i bs k) < falses bs
  | 0 => .inl ⟨rfl, fun j hj => by omega⟩
  | k + 1 => by
    rw [rAs_succ]
    rcases rAs_either p i bs hi k with ⟨h1, h2⟩ | h
    · rw [h1]
      rcases rA_either p i bs k hi with ⟨h3, h4⟩ | h
      · refine .inl ⟨h3, fun j hj a ha => ?_⟩
        by_cases e : j = k
        · subst e; exact h4 a ha
        · exact h2 j (by omega) a ha
      · exact .inr h
    · rcases rA_either p i (rAs p i bs k) k (by rw [rAs_len]; exact hi) with ⟨h3, _⟩ | h3
      · rw [h3]; exact .inr h
      · exact .inr (by omega)
def ClosedTo (ps : List ProdS) (bs : List Bool) (n : Nat) : Prop := ∀ i, i < n → ∀ p, ps[i]? = some p → ∀ a ∈ p.a, onlyB bs a = true → bs[i]? = some true
theorem rPs_either (ps : List ProdS) (bs : List Bool) (hl : bs.length = ps.length) : ∀ n, (rPs ps bs n = bs ∧ ClosedTo ps bs n) ∨ falses (rPs ps bs n) < falses bs
  | 0 => .inl ⟨rfl, fun i hi => by omega⟩
  | n + 1 => by
    rw [rPs_succ]
    have key : ∀ cs : List Bool, cs.length = ps.length → (rP ps cs n = cs ∧ ∀ p, ps[n]? = some p → ∀ a ∈ p.a, onlyB cs a = true → cs[n]? = some true) ∨ falses (rP ps cs n) < falses cs := by
      intro cs hcl
      unfold rP
      split
      · rename_i p hp
        have hn : n < ps.length := (List.getElem?_eq_some_iff.1 hp).1
        rcases rAs_either p n cs (by omega) p.a.length with ⟨h1, h2⟩ | h
        · refine .inl ⟨h1, fun p' hp' a ha => ?_⟩
          rw [hp] at hp'
          obtain rfl := Option.some.inj hp'
          obtain ⟨j, hj, rfl⟩ := List.getElem_of_mem ha
          exact h2 j hj _ (List.getElem?_eq_getElem hj)
        · exact .inr h
      · rename_i hp
        exact .inl ⟨rfl, fun p' hp' => by rw [hp] at hp'; cases hp'⟩
    rcases rPs_either ps bs hl n with ⟨h1, h2⟩ | h
    · rw [h1]
      rcases key bs hl with ⟨h3, h4⟩ | h
      · refine .inl ⟨h3, fun i hi => ?_⟩
        by_cases e : i = n
        · subst e; exact h4
        · exact h2 i (by omega)
      · exact .inr h
    · rcases key (rPs ps bs n) (by rw [rPs_len, hl]) with ⟨h3, _⟩ | h3
      · rw [h3]; exact .inr h
      · exact .inr (by omega)
theorem rN_either (ps : List ProdS) : ∀ k, ClosedTo ps (rN ps k) ps.length ∨ falses (rN ps k) + k ≤ ps.length
  | 0 => .inr (by simp [rN, falses, List.countP_replicate])
  | k + 1 => by
    rw [rN]
    rcases rPs_either ps (rN ps k) (rN_len ps k) ps.length with ⟨h1, h2⟩ | h
    · rw [h1]; exact .inl h2
    · rcases rN_either ps k with h2 | h2
      · -- closed: then nothing turns
        left
        have hfix : ∀ n, n ≤ ps.length → rPs ps (rN ps k) n = rN ps k := by
          intro n
          induction n with
          | zero => intro _; rfl
          | succ n ih =>
            intro hn
            rw [rPs_succ, ih (by omega)]
            unfold rP
            rw [List.getElem?_eq_getElem (by omega : n < ps.length)]
            simp only
            have hall : ∀ j, rAs ps[n] n (rN ps k) j = rN ps k := by
              intro j
              induction j with
              | zero => rfl
              | succ j ihj =>
                rw [rAs_succ, ihj]
                rcases rA_either ps[n] n (rN ps k) j (by rw [rN_len]; omega) with ⟨h3, _⟩ | h3
                · exact h3
                · exfalso
                  unfold rA at h3
                  split at h3
                  · rename_i a ha
                    have hi : n < (rN ps k).length := by rw [rN_len]; omega
                    have hm : a ∈ ps[n].a := List.mem_of_getElem? ha
                    have hb : (rN ps k).getD n false = true ∨ onlyB (rN ps k) a = false := by
                      cases ho : onlyB (rN ps k) a with
                      | false => exact .inr rfl
                      | true =>
                        left
                        have := h2 n (by omega) _ (List.getElem?_eq_getElem (by omega)) a hm ho
                        simp [List.getD, this]
                    have hset : (rN ps k).set n ((rN ps k).getD n false || onlyB (rN ps k) a) = rN ps k := by
                      refine List.ext_getElem (by simp) (fun q h4 h5 => ?_)
                      rw [List.getElem_set]
                      split
                      · rename_i e
                        subst e
                        have hgd : (rN ps k).getD n false = (rN ps k)[n] := by simp [hi]
                        rcases hb with hb | hb
                        · rw [hb]; rw [hgd] at hb; rw [hb]; rfl
                        · rw [hb, Bool.or_false, hgd]
                      · rfl
                    rw [hset] at h3
                    omega
                  · omega
            exact hall _
        rw [hfix _ (Nat.le_refl _)]
        exact h2
      · exact .inr (by omega)
theorem rN_closed (ps : List ProdS) : ClosedTo ps (rN ps ps.length) ps.length := by
  rcases rN_either ps ps.length with h | h
  · exact h
  · intro i hi p hp a ha _
    have h0 : falses (rN ps ps.length) = 0 := by omega
    have hil : i < (rN ps ps.length).length := by rw [rN_len]; exact hi
    have : (rN ps ps.length)[i] = true := by
      unfold falses at h0
      rw [List.countP_eq_zero] at h0
      have := h0 _ (List.getElem_mem hil)
      simpa using this
    rw [List.getElem?_eq_getElem hil, this]
def Told (ps : List ProdS) (bs : List Bool) : Prop := ∀ i : Nat, bs[i]? = some true → Emp ps i
theorem onlyB_told {ps : List ProdS} {bs : List Bool} (h : Told ps bs) {a : List SymS} (ho : onlyB bs a = true) : ∀ s ∈ a, s.k = 2 ∧ Emp ps s.n := by
  intro s hs
  have h1 := List.all_eq_true.1 ho s hs
  unfold okB at h1
  simp only [Bool.and_eq_true, decide_eq_true_eq] at h1
  obtain ⟨⟨h2, h3⟩, h4⟩ := h1
  refine ⟨h2, ?_⟩
  have h5 : bs[s.n.toNat]? = some true := by
    rw [List.getD_eq_getElem?_getD] at h4
    cases hq : bs[s.n.toNat]? with
    | none => rw [hq] at h4; simp at h4
    | some b => rw [hq] at h4; simp at h4; rw [h4]
  have := h _ h5
  rwa [Int.toNat_of_nonneg h3] at this
theorem told_rA {ps : List ProdS} {bs : List Bool} (h : Told ps bs) {i : Nat} {p : ProdS} (hp : ps[i]? = some p) (j : Nat) : Told ps (rA p i bs j) := by
  unfold rA
  split
  · rename_i a ha
    intro q hq
    rw [List.getElem?_set] at hq
    split at hq
    · rename_i e
      subst e
      split at hq
      · rename_i hil
        simp only [Option.some.injEq, Bool.or_eq_true] at hq
        rcases hq with hq | hq
        · exact h _ (by rw [List.getD_eq_getElem?_getD, List.getElem?_eq_getElem hil] at hq; rw [List.getElem?_eq_getElem hil]; simpa using hq)
        · exact emp_clo ps _ p hp a (List.mem_of_getElem? ha) (onlyB_told h hq)
      · cases hq
    · exact h q hq
  · exact h
theorem told_rAs {ps : List ProdS} {bs : List Bool} (h : Told ps bs) {i : Nat} {p : ProdS} (hp : ps[i]? = some p) : ∀ j, Told ps (rAs p i bs j)
  | 0 => h
  | j + 1 => by rw [rAs_succ]; exact told_rA (told_rAs h hp j) hp j
theorem told_rPs {ps : List ProdS} {bs : List Bool} (h : Told ps bs) : ∀ i, Told ps (rPs ps bs i)
  | 0 => h
  | i + 1 => by
    rw [rPs_succ]
    unfold rP
    split
    · rename_i p hp
      exact told_rAs (told_rPs h i) hp _
    · exact told_rPs h i
theorem told_rN (ps : List ProdS) : ∀ k, Told ps (rN ps k)
  | 0 => fun i hi => by
    simp only [rN, List.getElem?_replicate] at hi
    split at hi <;> cases hi
  | k + 1 => told_rPs (told_rN ps k) _
theorem rN_bl (ps : List ProdS) : rN ps ps.length = bl ps.length (emptyF ps) := by
  refine List.ext_getElem (by rw [rN_len]; simp [bl]) (fun i h1 h2 => ?_)
  have hi : i < ps.length := by rw [rN_len] at h1; exact h1
  have hr : (bl ps.length (emptyF ps))[i] = decide ((i : Int) ∈ emptyF ps) := by simp [bl]
  rw [hr, Bool.eq_iff_iff, decide_eq_true_eq, mem_emptyF]
  constructor
  · intro h
    exact told_rN ps _ i (by rw [List.getElem?_eq_getElem h1, h])
  · intro h
    have := h (fun x => ∃ j : Nat, x = j ∧ (rN ps ps.length)[j]? = some true) (fun k p hp a ha hs => ?_)
    · obtain ⟨j, e, hj⟩ := this
      obtain rfl : i = j := by omega
      rw [List.getElem?_eq_getElem h1] at hj
      exact Option.some.inj hj
    · have hk : k < ps.length := (List.getElem?_eq_some_iff.1 hp).1
      refine ⟨k, rfl, rN_closed ps k hk p hp a ha (List.all_eq_true.2 fun s hs' => ?_)⟩
      obtain ⟨h2, j, e, hj⟩ := hs s hs'
      simp [okB, h2, e, hj]
theorem onlyB_bl (ps : List ProdS) (l : List SymS) : onlyB (bl ps.length (emptyF ps)) l = onlyF (emptyF ps) l := by
  rw [Bool.eq_iff_iff, onlyF_iff]
  unfold onlyB
  rw [List.all_eq_true]
  have key : ∀ x : Int, (0 ≤ x ∧ (bl ps.length (emptyF ps)).getD x.toNat false = true) ↔ x ∈ emptyF ps := by
    intro x
    constructor
    · rintro ⟨h0, h1⟩
      rw [List.getD_eq_getElem?_getD] at h1
      by_cases hl : x.toNat < ps.length
      · rw [bl_at _ _ _ hl] at h1
        simp at h1
        rwa [show max x 0 = x by omega] at h1
      · rw [List.getElem?_eq_none (by simp [bl]; omega)] at h1
        simp at h1
    · intro h
      obtain ⟨h0, h1⟩ := (emptyF_fine ps).2 x h
      refine ⟨h0, ?_⟩
      rw [List.getD_eq_getElem?_getD, bl_at _ _ _ (by omega)]
      simp [show max x 0 = x by omega, h]
  constructor
  · intro h s hs
    have h1 := h s hs
    unfold okB at h1
    simp only [Bool.and_eq_true, decide_eq_true_eq] at h1
    exact ⟨h1.1.1, (key s.n).1 ⟨h1.1.2, h1.2⟩⟩
  · intro h s hs
    have h1 := h s hs
    have h2 := (key s.n).2 h1.2
    unfold okB
    simp only [Bool.and_eq_true, decide_eq_true_eq]
    exact ⟨⟨h1.1, h2.1⟩, h2.2⟩
end Go.Proofs.YtbpidoiellcccaaGreatDoor
namespace Go.Proofs.YtbpidoiellcccaaGreatDoor
open Go Go.RowKit Go.MapKept

/-- These bools stand there. -/
def BsAt (w : World) (V : Option Addr) (bs : List Bool) : Prop := 0 < bs.length → ∃ b, V = some ⟨b, 0, none⟩ ∧ ∀ i (h : i < bs.length), w.cell? ⟨b, i, none⟩ = some (.bool bs[i])
theorem BsAt.keep {w w' : World} {V : Option Addr} {bs : List Bool} (h : BsAt w V bs) (K : Keep [] w w') : BsAt w' V bs := fun h0 => by
  obtain ⟨b, rfl, hc⟩ := h h0
  exact ⟨b, rfl, fun i hi => Keep.cell (T := []) K (hc i hi) (by simp)⟩
theorem BsAt.of_blk {w : World} {b : Nat} {bs : List Bool} {T : TypeId} (B : Blk w b (boolC bs) T) : BsAt w (some ⟨b, 0, none⟩) bs := fun _ => ⟨b, rfl, fun i hi => by rw [B.cell, boolC_at _ _ hi]⟩
theorem onlyB_bad {bs : List Bool} {l : List SymS} {k : Nat} (hk : k < l.length) (h : okB bs l[k] = false) : onlyB bs l = false := by
  unfold onlyB
  rw [List.all_eq_false]
  exact ⟨_, List.getElem_mem hk, by simp [h]⟩
theorem onlyB_good {bs : List Bool} {l : List SymS} (h : ∀ j (hj : j < l.length), okB bs l[j] = true) : onlyB bs l = true := by
  unfold onlyB
  rw [List.all_eq_true]
  intro x hx
  obtain ⟨j, hj, rfl⟩ := List.getElem_of_mem hx
  exact h j hj
set_option maxRecDepth 20000 in
set_option maxHeartbeats 4000000 in
theorem only9_any (S : List Nat) (A V : Option Addr) (C F : Nat) (bs : List Bool) (l : List SymS) (w : World) (HB : BsAt w V bs) (H : Syms S w (.slice A l.length C) l) :
    Calls Tryz.prog 75 #[.slice V bs.length F, .slice A l.length C] w fun e w' => e = .returned (.bool (onlyB bs l)) ∧ w' = w := by
  have hm := (SlOf.len H).2.1
  have HH := Lib.hid H
  have HBB := Lib.hid HB
  obtain ⟨r, hr⟩ : ∃ r, r = onlyB bs l := ⟨_, rfl⟩
  rw [← hr]
  have HRES := Lib.hid hr
  clear H HB hr
  go_enter Tryz.func75, Tryz.ntmps75
  go_wp2
  go_loop [5] (fun i => ∃ k : Nat, k ≤ l.length ∧ i = .int .i64 k ∧ Hid (∀ j (h : j < l.length), j < k → okB bs l[j] = true)) (fun i => l.length - (intOf i).toNat)
  case atStart => exact ⟨0, by omega, rfl, Lib.hid (fun j h h' => by omega)⟩
  case round =>
    obtain ⟨k, hk, rfl, hn⟩ := hrel
    by_cases hlt : k < l.length
    · have hlt' : (k : Int) < (l.length : Int) := by omega
      have HLT := Lib.hid hlt
      obtain ⟨b, o, A2, C2, rfl, _, s0, _, s2, _⟩ := Syms.pick HH.out k hlt
      have HBAD := Lib.hid (fun (h : okB bs l[k] = false) => (by rw [HRES.out]; exact onlyB_bad hlt h : r = false))
      have HGO := Lib.hid (fun (h : okB bs l[k] = true) => (fun j hj hjk => by
        by_cases e : j = k
        · subst e; exact h
        · exact hn.out j hj (by omega) : ∀ j (h : j < l.length), j < k + 1 → okB bs l[j] = true))
      generalize l[k] = s at s0 s2 HBAD HGO
      obtain ⟨sk, sr, sn⟩ := s
      simp only at s0 s2
      clear hn
      by_cases h2 : sk = 2
      · subst h2
        by_cases h0 : sn < 0
        · have HF := Lib.hid (HBAD.out (by simp [okB]; omega))
          have hd : decide (sn < 0) = true := by simpa using h0
          clear HGO HBAD
          go_wp2
          go_ret
          exact ⟨by rw [HF.out]; rfl, rfl⟩
        · obtain ⟨n, rfl⟩ : ∃ n : Nat, sn = n := ⟨sn.toNat, by omega⟩
          by_cases h1 : n < bs.length
          · obtain ⟨bb, rfl, hc⟩ := HBB.out (by omega)
            have q0 := hc n h1
            have hok : okB bs ⟨2, sr, n⟩ = bs[n] := by simp [okB, h1]
            have HOK := Lib.hid hok
            have h1' : (n : Int) < (bs.length : Int) := by omega
            have hd1 : decide (bs.length ≤ n) = false := by simp; omega
            have hd0 : decide ((n : Int) < 0) = false := by simp
            clear hok hc h0
            generalize bs[n] = bv at q0 HOK
            cases bv with
            | true =>
              have HN := Lib.hid (HGO.out HOK.out)
              clear HGO HBAD
              go_wp2
              go_round
              case rel => exact ⟨k + 1, by have := HLT.out; omega, by go_num, Lib.hid HN.out⟩
              case measure => simp [intOf]; have := HLT.out; omega
            | false =>
              have HF := Lib.hid (HBAD.out HOK.out)
              clear HGO HBAD
              go_wp2
              go_ret
              exact ⟨by rw [HF.out]; rfl, rfl⟩
          · have HF := Lib.hid (HBAD.out (by simp [okB, List.getElem?_eq_none (by omega : bs.length ≤ n)]))
            have hd1 : decide (bs.length ≤ n) = true := by simp; omega
            have hd1' : (bs.length : Int) ≤ (n : Int) := by omega
            have hd0 : decide ((n : Int) < 0) = false := by simp
            clear HGO HBAD h0
            go_wp2
            go_ret
            exact ⟨by rw [HF.out]; rfl, rfl⟩
      · have HF := Lib.hid (HBAD.out (by simp [okB, h2]))
        have h2b : (sk != 2) = true := by simpa using h2
        clear HGO HBAD h2
        go_wp2
        go_ret
        exact ⟨by rw [HF.out]; rfl, rfl⟩
    · obtain rfl : k = l.length := by omega
      have HF : Hid (r = true) := Lib.hid (by rw [HRES.out]; exact onlyB_good (fun j hj => hn.out j hj hj))
      clear hn
      go_wp2
      go_ret
      exact ⟨by rw [HF.out]; rfl, rfl⟩
/-- All of the reference. -/
def all9R (ps : List ProdS) : List Bool := if gmay ps = true then rN ps ps.length else []
theorem all9_eq (ps : List ProdS) : all9R ps = allR ps := by
  unfold all9R allR
  rw [rN_bl]
theorem rA_at {p : ProdS} {j : Nat} (h : j < p.a.length) (i : Nat) (bs : List Bool) : rA p i bs j = bs.set i (bs.getD i false || onlyB bs p.a[j]) := by
  unfold rA
  rw [List.getElem?_eq_getElem h]
theorem rP_at {ps : List ProdS} {n : Nat} (h : n < ps.length) (bs : List Bool) : rP ps bs n = rAs ps[n] n bs ps[n].a.length := by
  unfold rP
  rw [List.getElem?_eq_getElem h]
set_option maxRecDepth 20000 in
set_option maxHeartbeats 8000000 in
theorem all9_any (S : List Nat) (A K : Option Addr) (C m D : Nat) (ps : List ProdS) (w : World) (HP : Prods S w (.slice A ps.length C) ps) (hS : ∀ b ∈ S, b < w.heap.size) :
    Calls Tryz.prog 74 #[.agg #[.slice A ps.length C, .slice K m D]] w fun e w' => (∃ v, e = .returned v ∧ BoolV w' w.heap.size v (all9R ps)) ∧ Keep [] w w' := by
  have K0 := (Keep.refl [] w).alloc (.cells #[.slice A ps.length C, .slice K m D] 25)
  have HP0 := HP.mv0 K0
  have B0 := Blk.new w #[.slice A ps.length C, .slice K m D] 25
  have HC := Lib.hid (may8_any S A K C m D ps _ HP0)
  cases hg : gmay ps with
  | false =>
    have hr : all9R ps = [] := by simp [all9R, hg]
    rw [hr]
    go_enter Tryz.func74, Tryz.ntmps74
    go_wp2_with fail
    refine HC.out.mono ?_
    rintro e w1 ⟨rfl, K1⟩
    rw [hg]
    go_wp2
    go_ret
    exact ⟨⟨_, rfl, .inl ⟨rfl, rfl⟩⟩, K0.trans K1⟩
  | true =>
    obtain ⟨hl0, hl1⟩ := gmay_len hg
    have hr : all9R ps = rN ps ps.length := by simp [all9R, hg]
    obtain ⟨R, hR⟩ : ∃ R, R = all9R ps := ⟨_, rfl⟩
    rw [← hR]
    have HRES := Lib.hid (hR.trans hr)
    have HAL := Lib.hid (gmay_alt hg)
    have HPP := Lib.hid HP0
    have HSS := Lib.hid hS
    clear hr hR HP HP0 hS
    go_enter Tryz.func74, Tryz.ntmps74
    go_wp2_with fail
    refine HC.out.mono ?_
    rintro e w1 ⟨rfl, K1⟩
    rw [hg]
    have B1 := B0.keep K1 (by simp)
    have b0 := B1.cell 0
    have hmk := make_bools w1 ps.length (by omega)
    have KA := (Keep.refl [] w1).alloc (.cells (boolC (List.replicate ps.length false)) 4)
    have BR0 := Blk.new w1 (boolC (List.replicate ps.length false)) 4
    obtain ⟨W1, hW1⟩ : ∃ W, W = w1.alloc (.cells (boolC (List.replicate ps.length false)) 4) := ⟨_, rfl⟩
    have hszw : w.heap.size < w1.heap.size := B1.lt
    have B1' := B1.keep KA (by simp)
    have HP1 := SlOf.move (S' := w1.heap.size :: S) (HPP.out.mv0 K1) prodRow_stab (by omega) KA (by simp) (fun x hx => by
      rcases List.mem_cons.1 hx with rfl | hx
      · exact .inr (Nat.le_refl _)
      · exact .inl hx)
    have K01 := (K0.trans K1).trans KA
    rw [← hW1] at KA BR0 B1' HP1 K01
    have HW := Lib.hid hW1
    have HB1 := Lib.hid B1'
    have HPX := Lib.hid HP1
    have HK01 := Lib.hid K01
    have HT0 : Hid (Keep [w1.heap.size] W1 W1 ∧ Blk W1 w1.heap.size (boolC (rN ps 0)) 4) := Lib.hid ⟨Keep.refl _ _, BR0⟩
    clear KA BR0 B1' HP1 K01 hW1 B1 B0 K0 K1 HC HPP HSS
    go_wp2
    rw [← HW.out]
    clear b0 hmk
    go_loopw [5] (fun i wr => ∃ k : Nat, k ≤ ps.length ∧ i = .int .i64 k ∧ Keep [w1.heap.size] W1 wr ∧ Blk wr w1.heap.size (boolC (rN ps k)) 4) (fun i _ => ps.length - (intOf i).toNat)
    case atStart => exact ⟨0, by omega, rfl, HT0.out⟩
    case round =>
      clear HT0
      obtain ⟨k, hk, rfl, Kr, BRr⟩ := hrel
      have g0 := (HB1.out.keep Kr (by simp; omega)).cell 0
      by_cases hlt : k < ps.length
      · have hlt' : (k : Int) < (ps.length : Int) := by omega
        have HLT := Lib.hid hlt
        have HSU : Hid (rN ps (k + 1) = rPs ps (rN ps k) ps.length) := Lib.hid rfl
        have hql : (rN ps k).length = ps.length := rN_len ps k
        generalize rN ps k = q at BRr HSU hql
        have HT1 : Hid (Keep [w1.heap.size] W1 wr ∧ Blk wr w1.heap.size (boolC (rPs ps q 0)) 4) := Lib.hid ⟨Kr, BRr⟩
        have HQL := Lib.hid hql
        clear Kr BRr hql
        go_wp2
        clear g0
        go_loopw [6] (fun i wr => ∃ n : Nat, n ≤ ps.length ∧ i = .int .i64 n ∧ Keep [w1.heap.size] W1 wr ∧ Blk wr w1.heap.size (boolC (rPs ps q n)) 4) (fun i _ => ps.length - (intOf i).toNat)
        case atStart => exact ⟨0, by omega, rfl, HT1.out⟩
        case round =>
          clear HT1
          obtain ⟨n, hn, rfl, Kr, BRr⟩ := hrel
          have g0 := (HB1.out.keep Kr (by simp; omega)).cell 0
          by_cases hnl : n < ps.length
          · have hnl' : (n : Int) < (ps.length : Int) := by omega
            have HNL := Lib.hid hnl
            have HSN : Hid (rPs ps q (n + 1) = rAs ps[n] n (rPs ps q n) ps[n].a.length) := Lib.hid ((rPs_succ _ _ _).trans (rP_at hnl _))
            have hql : (rPs ps q n).length = ps.length := by rw [rPs_len, HQL.out]
            generalize rPs ps q n = q2 at BRr HSN hql
            have HQL2 := Lib.hid hql
            have HT2 : Hid (Keep [w1.heap.size] W1 wr ∧ Blk wr w1.heap.size (boolC (rAs ps[n] n q2 0)) 4) := Lib.hid ⟨Kr, BRr⟩
            have hal8 := (HAL.out _ (List.getElem_mem hnl)).2.1
            clear Kr BRr hql
            go_wp2
            clear g0
            obtain ⟨wo, rfl⟩ : ∃ wo : World, wo = wr := ⟨_, rfl⟩
            go_loopw [7] (fun i wr => ∃ j : Nat, j ≤ ps[n].a.length ∧ i = .int .i64 j ∧ Keep [w1.heap.size] W1 wr ∧ Blk wr w1.heap.size (boolC (rAs ps[n] n q2 j)) 4) (fun i _ => ps[n].a.length - (intOf i).toNat)
            case atStart => exact ⟨0, by omega, rfl, HT2.out⟩
            case round =>
              clear HT2
              obtain ⟨j, hj, rfl, Kr, BRr⟩ := hrel
              have g0 := (HB1.out.keep Kr (by simp; omega)).cell 0
              have HPr : Prods (w1.heap.size :: S) wr (.slice A ps.length C) ps := SlOf.move HPX.out prodRow_stab (by omega) Kr (fun x hx => .inl (by simp at hx ⊢; simp [hx])) (fun x hx => .inl hx)
              obtain ⟨bp, op, A2, C2, N2, F2, rfl, _, e0, _, _, hA, _⟩ := HPr.pick n hnl
              by_cases hjl : j < ps[n].a.length
              · have hjl' : (j : Int) < (ps[n].a.length : Int) := by omega
                have HJL := Lib.hid hjl
                obtain ⟨b2, o2, A3, C3, rfl, _, f0, hS⟩ := Alts.pick hA j hjl
                have HSJ : Hid (rAs ps[n] n q2 (j + 1) = (rAs ps[n] n q2 j).set n ((rAs ps[n] n q2 j).getD n false || onlyB (rAs ps[n] n q2 j) ps[n].a[j])) := Lib.hid ((rAs_succ _ _ _ _).trans (rA_at hjl _ _))
                have hql3 : (rAs ps[n] n q2 j).length = ps.length := by rw [rAs_len, HQL2.out]
                generalize rAs ps[n] n q2 j = q3 at BRr HSJ hql3
                generalize ps[n].a[j] = al at f0 hS HSJ
                have hn3 : n < q3.length := by omega
                have HSJ2 : Hid (rAs ps[n] n q2 (j + 1) = q3.set n (q3[n] || onlyB q3 al)) := Lib.hid (by rw [HSJ.out]; simp [hn3])
                have hca := only9_any (w1.heap.size :: S) A3 (some ⟨w1.heap.size, 0, none⟩) C3 q3.length q3 al wr (BsAt.of_blk BRr) hS
                rw [hql3] at hca
                have HCA := Lib.hid hca
                have r0 := BRr.cell n
                rw [boolC_at _ _ hn3] at r0
                have rf := BRr.frozen n
                have HFN : Hid (∀ b, Keep [w1.heap.size] W1 (wr.setCell ⟨w1.heap.size, n, none⟩ (.bool b)) ∧ Blk (wr.setCell ⟨w1.heap.size, n, none⟩ (.bool b)) w1.heap.size (boolC (q3.set n b)) 4) := Lib.hid (fun b => ⟨Kr.setCell (p := ⟨w1.heap.size, n, none⟩) (by simp) _, by rw [← boolC_set]; exact BRr.set n _⟩)
                have hlb := BRr.lt
                generalize q3[n] = bv at r0 HSJ2
                generalize onlyB q3 al = ob at HCA HSJ2
                generalize ps[n].a.length = al8 at e0 hjl' ⊢
                clear hca HSJ hS hA HPr Kr BRr hql3 hn3
                go_wp2_with fail
                refine HCA.out.mono ?_
                rintro e w5 ⟨rfl, rfl⟩
                clear HCA
                cases bv with
                | true =>
                  go_wp2
                  go_roundw
                  case rel => exact ⟨j + 1, by have := HJL.out; omega, by go_num, (HFN.out true).1, by rw [HSJ2.out]; exact (HFN.out true).2⟩
                  case measure => simp [intOf]; have := HJL.out; omega
                | false =>
                  go_wp2
                  go_roundw
                  case rel => exact ⟨j + 1, by have := HJL.out; omega, by go_num, (HFN.out ob).1, by rw [HSJ2.out]; exact (HFN.out ob).2⟩
                  case measure => simp [intOf]; have := HJL.out; omega
              · obtain rfl : j = ps[n].a.length := by omega
                have HFN : Hid (Keep [w1.heap.size] W1 wr ∧ Blk wr w1.heap.size (boolC (rPs ps q (n + 1))) 4) := Lib.hid ⟨Kr, by rw [HSN.out]; exact BRr⟩
                clear Kr BRr hA HPr
                go_wp2
                go_roundw
                case rel => exact ⟨n + 1, by have := HNL.out; omega, by go_num, HFN.out⟩
                case measure => simp [intOf]; have := HNL.out; omega
          · obtain rfl : n = ps.length := by omega
            have HFN : Hid (Keep [w1.heap.size] W1 wr ∧ Blk wr w1.heap.size (boolC (rN ps (k + 1))) 4) := Lib.hid ⟨Kr, by rw [HSU.out]; exact BRr⟩
            clear Kr BRr
            go_wp2
            go_roundw
            case rel => exact ⟨k + 1, by have := HLT.out; omega, by go_num, HFN.out⟩
            case measure => simp [intOf]; have := HLT.out; omega
      · obtain rfl : k = ps.length := by omega
        have HFN : Hid (BoolV wr w.heap.size (.slice (some ⟨w1.heap.size, 0, none⟩) ps.length ps.length) R ∧ Keep [] w wr) := Lib.hid ⟨.inr ⟨by rw [HRES.out]; intro e; have h9 := congrArg List.length e; rw [rN_len] at h9; exact absurd h9 (by simp only [List.length_nil]; omega), _, by rw [HRES.out, rN_len], by rw [HRES.out]; exact BRr, by omega⟩, HK01.out.then Kr (fun x hx => by simp at hx; subst hx; right; omega)⟩
        clear BRr Kr
        go_wp2
        go_ret
        exact ⟨⟨_, rfl, HFN.out.1⟩, HFN.out.2⟩
end Go.Proofs.YtbpidoiellcccaaGreatDoor
