/- Texts that are built: the walks of strings.Builder's WriteString, WriteByte. -/
import Derived.Test.YtmfjddhckblbhaaGreatDoorM15
import Derived.Test.YtmfjddhckblbhaaGreatDoorShelf4
import Derived.Shelf.Strings.BuilderK
import Derived.Lib.AppendStr
import Derived.Test.YtmfjddhckblbhaaGreatDoorM9
set_option linter.unusedVariables false
set_option linter.unusedSimpArgs false
namespace Go.Proofs.YtmfjddhckblbhaaGreatDoor
open Go Go.RowKit Go.MapKept
attribute [local go_sem] Oper.semAt_some

/-- A builder that the call has made, with what it holds. -/
def Bld (B b : Nat) (l : List UInt8) (w : World) : Prop := Lib.IsBuilder 101 5 B b (Lib.byteCells l) w
theorem bld_size : ∃ j, Tryz.prog.info? 101 = some j ∧ j.size = 2 := by
  have h : (Tryz.prog.info? 101).map (·.size) = some 2 := by kernel_rfl
  obtain ⟨j, hj, hs⟩ := Option.map_eq_some_iff.1 h
  exact ⟨j, hj, hs⟩
theorem bld_lies : liesAt Tryz.prog Tryz.prog.depth 101 (2 / Tryz.prog.cellsOf 101) 0 101 1 = true := by kernel_rfl
set_option maxRecDepth 100000 in
theorem copyCheck_fresh (b : Nat) (v : Value) (w : World) (hB : Blk w b #[.pointer none, v] 101) :
    Calls Tryz.prog 97 #[.pointer (some ⟨b, 0, none⟩)] w fun e w' => e = .returned (.tuple #[]) ∧ w' = w.setCell ⟨b, 0, none⟩ (.pointer (some ⟨b, 0, none⟩)) := by
  have h0 : w.cell? ⟨b, 0, none⟩ = some (.pointer none) := hB.cell 0
  have f0 := hB.frozen 0
  have hsh : w.shape? b = some (101, 2) := by
    have h := hB
    unfold Blk at h
    simp [World.shape?, h]
  obtain ⟨j, hj, hjs⟩ := bld_size
  have hc1 := Lib.run_to_unsafe (P := Tryz.prog) (src := 99) (dst := 142) w ⟨b, 0, none⟩ Tryz.underlying99 Tryz.underlying142 hj (by rw [hjs]; decide) hsh (Nat.zero_lt_succ 1)
  have hc2 := Lib.run_from_unsafe (P := Tryz.prog) (src := 142) (dst := 99) w ⟨b, 0, none⟩ Tryz.underlying142 Tryz.underlying99 hj hsh bld_lies
  have hext : (callFunc 114 #[.pointer (some ⟨b, 0, none⟩)]).run Tryz.prog w = .ok (.value (.pointer (some ⟨b, 0, none⟩))) w := by
    rw [run_callFunc_extern Tryz.func114 (by kernel_rfl) (by kernel_rfl) (by kernel_rfl) (e := Extern.AbiNoEscape.same) (by kernel_rfl)]
    rw [Lib.run_noEscape]
    rfl
  clear hj hjs hsh
  go_enter Tryz.func97, Tryz.ntmps97
  go_wp2
  go_end0
  exact ⟨rfl, rfl⟩
set_option maxRecDepth 100000 in
theorem copyCheck_used (b : Nat) (v : Value) (w : World) (hB : Blk w b #[.pointer (some ⟨b, 0, none⟩), v] 101) :
    Calls Tryz.prog 97 #[.pointer (some ⟨b, 0, none⟩)] w fun e w' => e = .returned (.tuple #[]) ∧ w' = w := by
  have h0 : w.cell? ⟨b, 0, none⟩ = some (.pointer (some ⟨b, 0, none⟩)) := hB.cell 0
  obtain ⟨j, hj, hjs⟩ := bld_size
  have hne := Lib.run_neq_ptr_same (P := Tryz.prog) w ⟨b, 0, none⟩ Tryz.underlying99 hj
  clear hj hjs
  go_enter Tryz.func97, Tryz.ntmps97
  go_wp2
  go_end0
  exact ⟨rfl, rfl⟩
theorem own_neT {w : World} {base : Nat} {n : Nat} {v : Value} {xs : List Value} (h : w.ownsRow base 5 1 v n xs) {b : Nat} {cs : Array Value} (hB : Blk w b cs 101) : v.ownBlock ≠ some b := fun e => by
  rcases h.2 with ⟨rfl, _⟩ | ⟨g, cap, cur, rfl, _, hg, _⟩
  · cases e
  · have : g = b := by simpa [Value.ownBlock] using e
    subst this
    unfold Blk at hB
    rw [hg] at hB
    simp only [Option.some.injEq, Obj.cells.injEq] at hB
    exact absurd hB.2.1 (by decide)
theorem own_set {w : World} {base : Nat} {e : TypeId} {n : Nat} {v : Value} {xs : List Value} (h : w.ownsRow base e 1 v n xs) {b : Nat} (hb : v.ownBlock ≠ some b) (j : Nat) (u : Value) : (w.setCell ⟨b, j, none⟩ u).ownsRow base e 1 v n xs := by
  refine ⟨h.1, ?_⟩
  rcases h.2 with hn | ⟨g, cap, cur, rfl, hg, hgg, rest⟩
  · exact .inl hn
  · refine .inr ⟨g, cap, cur, rfl, hg, ?_, rest⟩
    rw [Below.heap_setCell w ⟨b, j, none⟩ u g (fun e => hb (by simp [Value.ownBlock, e]))]
    exact hgg
/-- A used builder. -/
def BldU (B b : Nat) (l : List UInt8) (w : World) : Prop := Lib.BuilderAt 101 5 B b (.pointer (some ⟨b, 0, none⟩)) (Lib.byteCells l) w
theorem BldU.bld {B b : Nat} {l : List UInt8} {w : World} (h : BldU B b l w) : Bld B b l w := .inr h
/-- What a writer of a builder leaves as it was. -/
def BFr (B b : Nat) (w w' : World) : Prop := Below B w w' ∧ Lib.OthersKept 5 (some b) w w'
theorem chk_any (B b : Nat) (l : List UInt8) (w : World) (h : Bld B b l w) :
    Calls Tryz.prog 97 #[.pointer (some ⟨b, 0, none⟩)] w fun e w' => e = .returned (.tuple #[]) ∧ BldU B b l w' ∧ BFr B b w w' := by
  rcases h with h | h
  · obtain ⟨hB, v, hb, ho, hne⟩ := h
    refine (copyCheck_fresh b v w hb).mono ?_
    rintro e w' ⟨rfl, rfl⟩
    have hb2 : Blk w b #[.pointer none, v] 101 := hb
    refine ⟨rfl, ⟨hB, v, by simpa [Blk] using hb2.set 0 (.pointer (some ⟨b, 0, none⟩)), own_set ho hne 0 _, hne⟩, (Below.refl B w).setCell (p := ⟨b, 0, none⟩) hB _, (Lib.OthersKept.refl _ _ w).setCell ⟨b, 0, none⟩ rfl _⟩
  · obtain ⟨hB, v, hb, ho, hne⟩ := h
    refine (copyCheck_used b v w hb).mono ?_
    rintro e w' ⟨rfl, rfl⟩
    exact ⟨rfl, ⟨hB, v, hb, ho, hne⟩, Below.refl B _, Lib.OthersKept.refl _ _ _⟩
theorem own_row {w : World} {base : Nat} {n : Nat} {v : Value} {xs : List Value} (h : w.ownsRow base 5 1 v n xs) : (∃ A C, v = .slice A n C) ∧ ∀ g, v.ownBlock = some g → ∃ c fz, w.heap[g]? = some (.cells c 5 fz) := by
  rcases h.2 with ⟨rfl, h0⟩ | ⟨g, cap, cur, rfl, hb, hg, _⟩
  · exact ⟨⟨none, 0, by rw [h0]⟩, fun g e => by cases e⟩
  · refine ⟨⟨_, _, rfl⟩, fun g' e => ?_⟩
    have : g = g' := by simpa [Value.ownBlock] using e
    subst this
    exact ⟨_, _, hg⟩
theorem BFr.grow {B b n : Nat} {w w1 w2 : World} {v u : Value} {xs : List Value} (hF : BFr B b w w1) (hB : B ≤ b) (hlt : b < w1.heap.size) (ho : w1.ownsRow B 5 1 v n xs) (G2 : w1.grownBy w2 v.ownBlock) : BFr B b w (w2.setCell ⟨b, 1, none⟩ u) :=
  ⟨(Below.grown hF.1 G2 (by omega) (fun k hk => (ho.lt k hk).1)).setCell (p := ⟨b, 1, none⟩) hB u, (hF.2.grown G2 (own_row ho).2).setCell ⟨b, 1, none⟩ rfl u⟩
set_option maxRecDepth 100000 in
set_option maxHeartbeats 1000000 in
theorem wstr_any (B b : Nat) (l : List UInt8) (s : ByteArray) (w : World) (h : Bld B b l w) (hl : l.length + s.size ≤ 1000000000000) :
    Calls Tryz.prog 79 #[.pointer (some ⟨b, 0, none⟩), .string s] w fun e w' => e = .returned (.tuple #[.int .i64 s.size, .nilIface]) ∧ Bld B b (l ++ s.data.toList) w' ∧ BFr B b w w' := by
  obtain ⟨i0, hi0, hz0, hz1, hz2⟩ := info_parts info_u8
  go_enter Tryz.func79, Tryz.ntmps79
  go_wp2_with fail
  refine (chk_any B b l w h).mono ?_
  rintro e w1 ⟨rfl, hU, hF⟩
  obtain ⟨hBb, v, hb, ho, hne⟩ := hU
  have hBk : Blk w1 b #[.pointer (some ⟨b, 0, none⟩), v] 101 := hb
  have hlt := hBk.lt
  have c1 : w1.cell? ⟨b, 1, none⟩ = some v := hBk.cell 1
  have HH := Lib.hid (⟨hBk, ho, hne, hF⟩ : _ ∧ _ ∧ _ ∧ _)
  have hxl : (Lib.byteCells l).length = l.length := Lib.byteCells_length l
  clear hb hBk ho hne hF h
  go_wp2_with (at_builtin; refine Hid.out ?_)
  refine Lib.hid ?_
  obtain ⟨hBk, ho, hne, hF⟩ := HH.out
  refine Lib.wpList_append_own_string (P := Tryz.prog) w1 rfl _ _ 37 9 rfl B 5 i0 Tryz.underlying37 Tryz.underlying9 hi0 hz0 hz1 hz2 v _ _ rfl ho s rfl (by rw [hxl]; unfold maxLen; omega) (by rw [hxl]; omega) (by omega) ?_
  intro v' w2 O2 G2 N2
  have B2 := Blk.grown hBk G2 hne
  have HFN : Hid (Bld B b (l ++ s.data.toList) (w2.setCell ⟨b, 1, none⟩ v') ∧ BFr B b w (w2.setCell ⟨b, 1, none⟩ v')) := Lib.hid (by
    have e1 : Lib.byteCells (l ++ s.data.toList) = Lib.byteCells l ++ Lib.strCells s := by simp [Lib.byteCells, Lib.strCells]
    have e2 : (Lib.byteCells (l ++ s.data.toList)).length = (Lib.byteCells l).length + s.size := by rw [e1, List.length_append, Lib.strCells_length]
    exact ⟨.inr (Lib.BuilderAt.put hBb B2 (by rw [e1, ← e1, e2, e1]; exact O2) (by decide)), hF.grow hBb hlt ho G2⟩)
  obtain ⟨A', C', rfl⟩ := (own_row O2).1
  have c2 : w2.cell? ⟨b, 1, none⟩ = some v := B2.cell 1
  have f2 : w2.frozen? ⟨b, 1, none⟩ = false := B2.frozen 1
  clear O2 G2 N2 B2 hBk ho hne hF
  rw [hxl] at HFN
  go_wp2
  go_ret2
  exact ⟨rfl, HFN.out⟩
set_option maxRecDepth 100000 in
set_option maxHeartbeats 1000000 in
theorem wbyte_any (B b : Nat) (l : List UInt8) (c : UInt8) (w : World) (h : Bld B b l w) (hl : l.length + 1 ≤ 1000000000000) :
    Calls Tryz.prog 80 #[.pointer (some ⟨b, 0, none⟩), .int .u8 (c.toNat : Int)] w fun e w' => e = .returned .nilIface ∧ Bld B b (l ++ [c]) w' ∧ BFr B b w w' := by
  obtain ⟨i0, hi0, hz0, hz1, hz2⟩ := info_parts info_u8
  go_enter Tryz.func80, Tryz.ntmps80
  go_wp2_with fail
  refine (chk_any B b l w h).mono ?_
  rintro e w1 ⟨rfl, hU, hF⟩
  obtain ⟨hBb, v, hb, ho, hne⟩ := hU
  have hBk : Blk w1 b #[.pointer (some ⟨b, 0, none⟩), v] 101 := hb
  have hlt := hBk.lt
  have c1 : w1.cell? ⟨b, 1, none⟩ = some v := hBk.cell 1
  have HH := Lib.hid (⟨hBk, ho, hne, hF⟩ : _ ∧ _ ∧ _ ∧ _)
  have hxl : (Lib.byteCells l).length = l.length := Lib.byteCells_length l
  clear hb hBk ho hne hF h
  go_wp2_with (at_builtin; refine Hid.out ?_)
  refine Lib.hid ?_
  obtain ⟨hBk, ho, hne, hF⟩ := HH.out
  refine wpList_append_own _ rfl _ _ 37 rfl B 5 i0 (.int .u8 0) 1 1 Tryz.underlying37 hi0 hz0 hz1 hz2 rfl (by decide) v _ _ rfl (ho.alloc _) ⟨w1.heap.size, 0, none⟩ 1 1 [.int .u8 c.toNat] rfl rfl (cell_one_new _ _ _) (by simp [Value.oneCell']) (by rw [hxl]; unfold maxLen; omega) (by rw [hxl]; omega) (by simp; omega) ?_
  intro v' w2 O2 G2 N2
  have hBk1 := hBk.alloc (.cells #[.int .u8 c.toNat] 5)
  have hF1 : BFr B b w (w1.alloc (.cells #[.int .u8 c.toNat] 5)) := ⟨hF.1.alloc (by omega) _, hF.2.alloc _⟩
  have B2 := Blk.grown hBk1 G2 hne
  have HFN : Hid (Bld B b (l ++ [c]) (w2.setCell ⟨b, 1, none⟩ v') ∧ BFr B b w (w2.setCell ⟨b, 1, none⟩ v')) := Lib.hid (by
    have e1 : Lib.byteCells (l ++ [c]) = Lib.byteCells l ++ [.int .u8 c.toNat] := by simp [Lib.byteCells]
    have e2 : (Lib.byteCells (l ++ [c])).length = (Lib.byteCells l).length + 1 := by rw [e1, List.length_append]; rfl
    exact ⟨.inr (Lib.BuilderAt.put hBb B2 (by rw [e1, ← e1, e2, e1]; exact O2) (by decide)), hF1.grow hBb hBk1.lt (ho.alloc _) G2⟩)
  obtain ⟨A', C', rfl⟩ := (own_row O2).1
  have c2 : w2.cell? ⟨b, 1, none⟩ = some v := B2.cell 1
  have f2 : w2.frozen? ⟨b, 1, none⟩ = false := B2.frozen 1
  clear O2 G2 N2 B2 hBk ho hne hF hBk1 hF1
  rw [hxl] at HFN
  go_wp2
  go_ret
  exact ⟨rfl, HFN.out⟩
/-- What a builder holds, as text. -/
theorem bstr_any (B b : Nat) (l : List UInt8) (w : World) (h : Bld B b l w) :
    Calls Tryz.prog 81 #[.pointer (some ⟨b, 0, none⟩)] w fun e w' => e = .returned (.string ⟨l.toArray⟩) ∧ Below B w w' := by
  have hb : B ≤ w.heap.size := by
    rcases h with ⟨h1, v, h2, _⟩ | ⟨h1, v, h2, _⟩ <;> (have := (Array.getElem?_eq_some_iff.1 h2).1; omega)
  have X : Builder.Extra Tryz.prog Tryz.lays169_ren :=
    { sizeBuilder := by kernel_rfl, liesBuilder := by kernel_rfl, t5 := Tryz.underlying5, a5 := Tryz.isAgg5, z5 := Tryz.sizeOf5, v5 := Tryz.zeroValue5, infoByte := by kernel_rfl, cellsByte := by kernel_rfl, sizeByte := by kernel_rfl, neB5 := by decide }
  exact (Any.Builder_String_any_k Tryz.lays169 X B b l w (Lib.IsBuilderF.of h) hb).mono fun e w' ⟨h1, _, h2, _⟩ => ⟨h1, h2⟩
end Go.Proofs.YtmfjddhckblbhaaGreatDoor
namespace Go.Proofs.YtmfjddhckblbhaaGreatDoor
open Go Go.RowKit Go.MapKept
attribute [local go_sem] Oper.semAt_some

theorem Tab.keep {w w' : World} (h : Tab w) (K : Keep [] w w') (h5 : 5 < w.heap.size) : Tab w' := (World.cell?_of_block (w := w) (a := ⟨5, 15, none⟩) (K.block 5 h5 (by simp))).trans h
theorem Keep.bel {w w1 w2 : World} (K : Keep [] w w1) (h : Below w.heap.size w1 w2) : Keep [] w w2 :=
  ⟨h.os.trans K.os, h.tape.trans K.tape, h.output.trans K.output, Nat.le_trans K.size h.size, fun k hk _ => (h.block k hk).trans (K.block k hk (by simp))⟩
theorem Bld.keep {B b : Nat} {l : List UInt8} {w w' : World} (h : Bld B b l w) (K : Keep [] w w') : Bld B b l w' := by
  rcases h with ⟨h1, v, h2, h3, h4⟩ | ⟨h1, v, h2, h3, h4⟩
  · exact .inl ⟨h1, v, Blk.keep h2 K (by simp), own_keep h3 K (by simp), h4⟩
  · exact .inr ⟨h1, v, Blk.keep h2 K (by simp), own_keep h3 K (by simp), h4⟩
theorem Bld.new (w : World) : Bld w.heap.size w.heap.size [] (w.alloc (.cells #[.pointer none, .slice none 0 0] 101)) :=
  .inl ⟨Nat.le_refl _, .slice none 0 0, Blk.new w _ _, World.ownsRow_nil _ _ _ _, by simp [Value.ownBlock]⟩
theorem Bld.lt {B b : Nat} {l : List UInt8} {w : World} (h : Bld B b l w) : B ≤ b ∧ b < w.heap.size := by
  rcases h with ⟨h1, v, h2, _⟩ | ⟨h1, v, h2, _⟩
  · exact ⟨h1, (Array.getElem?_eq_some_iff.1 h2).1⟩
  · exact ⟨h1, (Array.getElem?_eq_some_iff.1 h2).1⟩
theorem BFr.blk {B b k : Nat} {w w' : World} {cs : Array Value} (h : BFr B b w w') (hB : Blk w k cs 44) (hk : k ≠ b) : Blk w' k cs 44 :=
  h.2 k _ hB (by simpa using hk) (fun c fz e => by
    simp only [Obj.cells.injEq] at e
    exact absurd e.2.1 (by decide))
/-- One range, as text. -/
def rngL (one : Nat → List UInt8) (r : Rng) : List UInt8 := one r.lo.toNat ++ (if r.lo < r.hi then 45 :: one r.hi.toNat else [])
/-- Ranges, as text. -/
def setL (one : Nat → List UInt8) (l : List Rng) : List UInt8 := l.flatMap (rngL one)
theorem setL_len (one : Nat → List UInt8) (h : ∀ n, (one n).length ≤ 9) (l : List Rng) : (setL one l).length ≤ 19 * l.length := by
  induction l with
  | nil => simp [setL]
  | cons a l ih =>
    have h1 : (rngL one a).length ≤ 19 := by
      unfold rngL
      have h2 := h a.lo.toNat
      have h3 := h a.hi.toNat
      split
      · simp; omega
      · simp; omega
    unfold setL at *
    simp only [List.flatMap_cons, List.length_append, List.length_cons]
    omega
theorem setL_succ (one : Nat → List UInt8) (l : List Rng) (k : Nat) (h : k < l.length) : setL one (l.take (k + 1)) = setL one (l.take k) ++ rngL one l[k] := by
  unfold setL
  rw [List.take_succ_eq_append_getElem h, List.flatMap_append]
  simp

set_option maxRecDepth 20000 in
set_option maxHeartbeats 4000000 in
theorem setShow_any (f N : Nat) (one : Nat → List UInt8) (hcf : ∀ args w, (callFunc f args).run Tryz.prog w = .ok (.enter f args) w) (h9 : ∀ n, (one n).length ≤ 9)
    (hf : ∀ n w, n < N → Tab w → 5 < w.heap.size → Calls Tryz.prog f #[.int .i64 (n : Int)] w fun e w' => e = .returned (.string ⟨(one n).toArray⟩) ∧ Keep [] w w')
    (A : Option Addr) (n C : Nat) (l : List Rng) (hr : ∀ r ∈ l, 0 ≤ r.lo ∧ r.lo ≤ r.hi ∧ r.hi < N) (hl : l.length ≤ 10000) (w : World) (H : SlOf RngRow [] w 2 (.slice A n C) l) (HT : Tab w) (h5 : 5 < w.heap.size) :
    Calls Tryz.prog 56 #[.slice A n C, .func (.func f) #[] #[]] w fun e w' => e = .returned (.string ⟨(setL one l).toArray⟩) ∧ Keep [] w w' := by
  obtain ⟨rfl, hm, _⟩ := SlOf.len H
  have HH := Lib.hid (⟨H, HT, h5⟩ : _ ∧ _ ∧ _)
  have HF := Lib.hid hf
  have HR := Lib.hid hr
  have HST := Lib.hid (⟨Bld.new w, (Keep.refl [] w).alloc (.cells #[.pointer none, .slice none 0 0] 101)⟩ : _ ∧ _)
  clear H HT h5 hf hr
  go_enter Tryz.func56, Tryz.ntmps56
  go_wp2
  go_loopw [7, 10] (fun _ i wr => ∃ k : Nat, k ≤ l.length ∧ i = .int .i64 k ∧ Hid (Bld w.heap.size w.heap.size (setL one (l.take k)) wr ∧ Keep [] w wr)) (fun _ i _ => l.length - (intOf i).toNat)
  case atStart => exact ⟨0, by omega, rfl, Lib.hid ⟨HST.out.1, HST.out.2⟩⟩
  case round =>
    obtain ⟨k, hk, rfl, HB⟩ := hrel
    by_cases hlt : k < l.length
    · have hlt' : (k : Int) < (l.length : Int) := by omega
      obtain ⟨ba, oa, rfl, _, e0, e1⟩ := rngSl_pick (SlOf.move HH.out.1 rngRow_stab (by omega) HB.out.2 (by simp) (fun x hx => .inl hx)) k hlt
      have HS := Lib.hid (setL_succ one l k hlt)
      obtain ⟨r0, r1, r2⟩ := HR.out l[k] (List.getElem_mem hlt)
      have hacc := setL_len one h9 (l.take k)
      have hacc2 : (setL one (l.take k)).length ≤ 190000 := by
        have : (l.take k).length ≤ 10000 := by rw [List.length_take]; omega
        omega
      generalize setL one (l.take k) = acc at HB HS hacc2
      have hrl : rngL one l[k] = one l[k].lo.toNat ++ (if l[k].lo < l[k].hi then 45 :: one l[k].hi.toNat else []) := rfl
      have HRL := Lib.hid hrl
      clear hrl hacc
      generalize rngL one l[k] = rl at HS HRL
      generalize l[k].lo = lo at e0 r0 r1 HRL
      generalize l[k].hi = hi at e1 r1 r2 HRL
      obtain ⟨lo, rfl⟩ : ∃ x : Nat, lo = x := ⟨lo.toNat, by omega⟩
      obtain ⟨hi, rfl⟩ : ∃ x : Nat, hi = x := ⟨hi.toNat, by omega⟩
      simp only [Int.toNat_natCast, Int.ofNat_lt] at HRL
      have r1' : lo ≤ hi := by omega
      have r2' : hi < N := by omega
      have KA := HB.out.2.alloc (.cells #[.int .i64 lo, .int .i64 hi] 44)
      have BA := Blk.new' wr #[.int .i64 lo, .int .i64 hi] 44 (b := wr.heap.size) rfl
      have BB := HB.out.1.keep ((Keep.refl [] wr).alloc (.cells #[.int .i64 lo, .int .i64 hi] 44))
      have HC := Lib.hid (HF.out lo _ (by omega) (HH.out.2.1.keep KA HH.out.2.2) (Nat.lt_of_lt_of_le HH.out.2.2 KA.size))
      have hbl := HB.out.1.lt
      have HX := Lib.hid (⟨KA, BA, BB⟩ : _ ∧ _ ∧ _)
      have HLT := Lib.hid hlt
      clear KA BA BB r0 r1 r2 hlt
      go_wp2_with fail
      refine HC.out.mono ?_
      rintro e w1 ⟨rfl, K1⟩
      have HX1 := Lib.hid (⟨HX.out.1.trans K1, HX.out.2.1.keep K1 (by simp), HX.out.2.2.keep K1⟩ : _ ∧ _ ∧ _)
      clear K1 HX HC e0 e1
      have h9l := h9 lo
      have h9h := h9 hi
      have HW := Lib.hid (wstr_any w.heap.size w.heap.size acc ⟨(one lo).toArray⟩ w1 HX1.out.2.2 (by simp [ByteArray.size]; omega))
      go_wp2_with fail
      refine HW.out.mono ?_
      rintro e w2 ⟨rfl, B2, F2⟩
      have HX2 := Lib.hid (⟨HX1.out.1.bel F2.1, F2.blk HX1.out.2.1 (by omega), B2⟩ : _ ∧ _ ∧ _)
      have hb := HX2.out.2.1.cell
      have hz2 := HX2.out.2.1.lt
      clear HX1 HW B2 F2
      by_cases hq : lo < hi
      · have HRL2 := Lib.hid (show rl = one lo ++ 45 :: one hi by rw [HRL.out, if_pos hq])
        have HC2 := Lib.hid (HF.out hi w2 r2' (HH.out.2.1.keep HX2.out.1 HH.out.2.2) (Nat.lt_of_lt_of_le HH.out.2.2 HX2.out.1.size))
        clear HRL
        go_wp2_with fail
        refine HC2.out.mono ?_
        rintro e w3 ⟨rfl, K3⟩
        have hs1 : (({ data := #[45] } : ByteArray) ++ { data := (one hi).toArray }).size ≤ 10 := by
          rw [show (({ data := #[45] } : ByteArray) ++ { data := (one hi).toArray }) = ⟨([45] ++ one hi).toArray⟩ from bytes_app [45] (one hi)]
          simp [ByteArray.size]; omega
        have HX3 := Lib.hid (⟨HX2.out.1.trans K3, HX2.out.2.2.keep K3⟩ : _ ∧ _)
        have HW := Lib.hid (wstr_any w.heap.size w.heap.size (acc ++ one lo) (({ data := #[45] } : ByteArray) ++ { data := (one hi).toArray }) w3 HX3.out.2 (by rw [List.length_append]; omega))
        clear K3 HX2 hb hz2 HC2
        go_wp2_with fail
        refine HW.out.mono ?_
        rintro e w4 ⟨rfl, B4, F4⟩
        have HX4 := Lib.hid (⟨HX3.out.1.bel F4.1, B4⟩ : _ ∧ _)
        clear B4 F4 HW HX3
        go_wp2
        refine ⟨⟨k + 1, by have := HLT.out; omega, by go_num, Lib.hid ⟨?_, HX4.out.1⟩⟩, by simp [intOf]; have := HLT.out; omega⟩
        rw [HS.out, HRL2.out]
        have h4 := HX4.out.2
        rw [show (({ data := #[45] } : ByteArray) ++ { data := (one hi).toArray }) = ⟨([45] ++ one hi).toArray⟩ from bytes_app [45] (one hi)] at h4
        rw [List.append_assoc] at h4
        exact h4
      · have HRL2 := Lib.hid (show rl = one lo by rw [HRL.out, if_neg hq]; simp)
        clear HRL
        go_wp2
        refine ⟨⟨k + 1, by have := HLT.out; omega, by go_num, Lib.hid ⟨?_, HX2.out.1⟩⟩, by simp [intOf]; have := HLT.out; omega⟩
        rw [HS.out, HRL2.out]
        exact HX2.out.2.2
    · obtain rfl : k = l.length := by omega
      have HBS := HB.out
      rw [List.take_length] at HBS
      have HS := Lib.hid (bstr_any _ _ _ _ HBS.1)
      have HK := Lib.hid HBS.2
      clear HBS HB
      go_wp2_with fail
      refine HS.out.mono ?_
      rintro e w1 ⟨rfl, hb1⟩
      have HK1 := Lib.hid (HK.out.bel hb1)
      clear hb1 HK HS
      go_wp2
      go_ret
      exact ⟨rfl, HK1.out⟩
end Go.Proofs.YtmfjddhckblbhaaGreatDoor
namespace Go.Proofs.YtmfjddhckblbhaaGreatDoor
open Go Go.RowKit Go.MapKept
attribute [local go_sem] Oper.semAt_some

/-- A byte, as it stands in quotes. -/
def litE (c : UInt8) : List UInt8 := if c.toNat < 32 ∨ 126 < c.toNat ∨ c.toNat = 34 ∨ c.toNat = 92 then [92, 120] ++ hxL c.toNat else [c]
def litL (l : List UInt8) : List UInt8 := l.flatMap litE
theorem litE_len (c : UInt8) : (litE c).length ≤ 4 := by
  unfold litE hxL
  split <;> simp
theorem litL_len (l : List UInt8) : (litL l).length ≤ 4 * l.length := by
  induction l with
  | nil => simp [litL]
  | cons a l ih =>
    have := litE_len a
    unfold litL at *
    simp only [List.flatMap_cons, List.length_append, List.length_cons]
    omega
theorem litL_succ (l : List UInt8) (k : Nat) (h : k < l.length) : litL (l.take (k + 1)) = litL (l.take k) ++ litE l[k] := by
  unfold litL
  rw [List.take_succ_eq_append_getElem h, List.flatMap_append]
  simp
set_option maxRecDepth 20000 in
set_option maxHeartbeats 4000000 in
theorem litShow_any (s : ByteArray) (hs : s.size ≤ 100000000000) (w : World) :
    Calls Tryz.prog 55 #[.string s] w fun e w' => e = .returned (.string ⟨(litL s.data.toList).toArray⟩) ∧ Keep [] w w' := by
  have hlen := lenB s
  have HST := Lib.hid (⟨Bld.new w, (Keep.refl [] w).alloc (.cells #[.pointer none, .slice none 0 0] 101)⟩ : _ ∧ _)
  have HL := Lib.hid hlen
  clear hlen
  go_enter Tryz.func55, Tryz.ntmps55
  go_wp2
  go_loopw [4, 5, 8] (fun _ _ i wr => ∃ k : Nat, k ≤ s.size ∧ i = .int .i64 k ∧ Hid (Bld w.heap.size w.heap.size (litL (s.data.toList.take k)) wr ∧ Keep [] w wr)) (fun _ _ i _ => s.size - (intOf i).toNat)
  case atStart => exact ⟨0, by omega, rfl, Lib.hid ⟨HST.out.1, HST.out.2⟩⟩
  case round =>
    clear HST
    obtain ⟨k, hk, rfl, HB⟩ := hrel
    by_cases hlt : k < s.size
    · have hlt' : (k : Int) < (s.size : Int) := by omega
      have hkl : k < s.data.toList.length := by rw [HL.out]; exact hlt
      have hS : litL (s.data.toList.take (k + 1)) = litL (s.data.toList.take k) ++ litE (s[k]'hlt) := litL_succ s.data.toList k hkl
      have HS := Lib.hid hS
      have hacc := litL_len (s.data.toList.take k)
      have hacc2 : (litL (s.data.toList.take k)).length ≤ 400000000000 := by
        rw [List.length_take] at hacc
        omega
      generalize litL (s.data.toList.take k) = acc at HB HS hacc2
      clear hS hacc hkl
      have hc8 := (s[k]'hlt).toNat_lt
      have HLT := Lib.hid hlt
      by_cases ho : (s[k]'hlt).toNat < 32 ∨ 126 < (s[k]'hlt).toNat ∨ (s[k]'hlt).toNat = 34 ∨ (s[k]'hlt).toNat = 92
      · have HE := Lib.hid (show litE (s[k]'hlt) = [92, 120] ++ hxL (s[k]'hlt).toNat by unfold litE; rw [if_pos ho])
        generalize hsk : s[k]'hlt = c at *
        have HC := Lib.hid (hxShow_any c.toNat (by omega) wr)
        have HX := Lib.hid (fun w1 (K1 : Keep [] wr w1) => wstr_any w.heap.size w.heap.size acc (({ data := #[92, 120] } : ByteArray) ++ { data := (hxL c.toNat).toArray }) w1 (HB.out.1.keep K1) (by
          rw [show (({ data := #[92, 120] } : ByteArray) ++ { data := (hxL c.toNat).toArray }) = ⟨([92, 120] ++ hxL c.toNat).toArray⟩ from bytes_app [92, 120] (hxL c.toNat)]
          simp [ByteArray.size, hxL]; omega))
        rcases (by omega : c.toNat < 32 ∨ (¬ c.toNat < 32 ∧ 126 < c.toNat) ∨ (¬ c.toNat < 32 ∧ ¬ 126 < c.toNat ∧ c.toNat = 34) ∨ (¬ c.toNat < 32 ∧ ¬ 126 < c.toNat ∧ ¬ c.toNat = 34 ∧ c.toNat = 92)) with a1 | ⟨a1, a2⟩ | ⟨a1, a2, a3⟩ | ⟨a1, a2, a3, a4⟩
        case' inl => have b1 : ((c.toNat : Int) < 32) := by omega
        case' inr.inl =>
          have b1 : ¬ ((c.toNat : Int) < 32) := by omega
          have b2 : ((126 : Int) < c.toNat) := by omega
        case' inr.inr.inl =>
          have b1 : ¬ ((c.toNat : Int) < 32) := by omega
          have b2 : ¬ ((126 : Int) < c.toNat) := by omega
          have b3 : ((c.toNat : Int) == 34) = true := by simp; omega
        case' inr.inr.inr =>
          have b1 : ¬ ((c.toNat : Int) < 32) := by omega
          have b2 : ¬ ((126 : Int) < c.toNat) := by omega
          have b3 : ((c.toNat : Int) == 34) = false := by simp; omega
          have b4 : ((c.toNat : Int) == 92) = true := by simp; omega
        all_goals
          try clear a4
          try clear a3
          try clear a2
          clear a1 ho
          go_wp2_with fail
          refine HC.out.mono ?_
          rintro e w1 ⟨rfl, K1⟩
          have HW := Lib.hid (HX.out w1 K1)
          have HK1 := Lib.hid (HB.out.2.trans K1)
          generalize hstr : (({ data := #[92, 120] } : ByteArray) ++ { data := (hxL c.toNat).toArray }) = str at HW
          have hsz : str.size ≤ 4 := by
            rw [← hstr, show (({ data := #[92, 120] } : ByteArray) ++ { data := (hxL c.toNat).toArray }) = ⟨([92, 120] ++ hxL c.toNat).toArray⟩ from bytes_app [92, 120] (hxL c.toNat)]
            simp [ByteArray.size, hxL]
          go_wp2_with fail
          refine HW.out.mono ?_
          rintro e w2 ⟨rfl, B2, F2⟩
          have HX2 := Lib.hid (⟨HK1.out.bel F2.1, B2⟩ : _ ∧ _)
          clear B2 F2 HW K1 HX HC
          go_wp2
          refine ⟨⟨k + 1, by have := HLT.out; omega, by go_num, Lib.hid ⟨?_, HX2.out.1⟩⟩, by simp [intOf]; have := HLT.out; omega⟩
          have h4 := HX2.out.2
          rw [← hstr, show (({ data := #[92, 120] } : ByteArray) ++ { data := (hxL c.toNat).toArray }) = ⟨([92, 120] ++ hxL c.toNat).toArray⟩ from bytes_app [92, 120] (hxL c.toNat)] at h4
          rw [HS.out, HE.out]
          exact h4
      · have HE := Lib.hid (show litE (s[k]'hlt) = [s[k]'hlt] by unfold litE; rw [if_neg ho])
        generalize hsk : s[k]'hlt = c at *
        have HX := Lib.hid (wbyte_any w.heap.size w.heap.size acc c wr HB.out.1 (by omega))
        have b1 : ¬ ((c.toNat : Int) < 32) := by omega
        have b2 : ¬ ((126 : Int) < c.toNat) := by omega
        have b3 : ((c.toNat : Int) == 34) = false := by simp; omega
        have b4 : ((c.toNat : Int) == 92) = false := by simp; omega
        clear ho
        go_wp2_with fail
        refine HX.out.mono ?_
        rintro e w2 ⟨rfl, B2, F2⟩
        have HX2 := Lib.hid (⟨HB.out.2.bel F2.1, B2⟩ : _ ∧ _)
        clear B2 F2 HX
        go_wp2
        refine ⟨⟨k + 1, by have := HLT.out; omega, by go_num, Lib.hid ⟨?_, HX2.out.1⟩⟩, by simp [intOf]; have := HLT.out; omega⟩
        rw [HS.out, HE.out]
        exact HX2.out.2
    · obtain rfl : k = s.size := by omega
      have HBS := HB.out
      rw [List.take_of_length_le (by rw [HL.out]; exact Nat.le_refl _)] at HBS
      have HS := Lib.hid (bstr_any _ _ _ _ HBS.1)
      have HK := Lib.hid HBS.2
      clear HBS HB
      go_wp2_with fail
      refine HS.out.mono ?_
      rintro e w1 ⟨rfl, hb1⟩
      have HK1 := Lib.hid (HK.out.bel hb1)
      clear hb1 HK HS
      go_wp2
      go_ret
      exact ⟨rfl, HK1.out⟩
end Go.Proofs.YtmfjddhckblbhaaGreatDoor
namespace Go.Proofs.YtmfjddhckblbhaaGreatDoor
open Go Go.RowKit Go.MapKept
attribute [local go_sem] Oper.semAt_some

/-- A token, as text. -/
def showL (x : TokS) : List UInt8 :=
  if x.k = 5 then [64] ++ x.t.data.toList
  else if x.k = 1 then [34] ++ litL x.t.data.toList ++ [34]
  else if x.k = 2 then [91] ++ setL scL x.r ++ [93]
  else if x.k = 3 then [60] ++ setL hxL x.r ++ [62]
  else x.t.data.toList
theorem toB (t : ByteArray) : (⟨t.data.toList.toArray⟩ : ByteArray) = t := by cases t; rfl
theorem scL_len (n : Nat) : (scL n).length ≤ 9 := by
  have h1 := hexL_len n
  have h2 := (hexM_le n).2
  unfold scL
  split
  · simp
  · simp; omega
theorem scal_enter (args : Array Value) (w : World) : (callFunc 57 args).run Tryz.prog w = .ok (.enter 57 args) w := by kernel_rfl
theorem hexs_enter (args : Array Value) (w : World) : (callFunc 58 args).run Tryz.prog w = .ok (.enter 58 args) w := by kernel_rfl
set_option maxRecDepth 20000 in
set_option maxHeartbeats 2000000 in
theorem show_any (S : List Nat) (x : TokS) (v : Value) (w : World) (H : Rngs S w v x.r) (hr : ∀ r ∈ x.r, 0 ≤ r.lo ∧ r.lo ≤ r.hi ∧ r.hi < 1114112) (h3 : x.k = 3 → ∀ r ∈ x.r, r.hi < 256) (hl : x.r.length ≤ 10000) (ht : x.t.size ≤ 100000000000) (HT : Tab w) (h5 : 5 < w.heap.size) :
    Calls Tryz.prog 32 #[.agg #[.int .i64 x.k, .string x.t, v, .int .i64 x.a]] w fun e w' => e = .returned (.string ⟨(showL x).toArray⟩) ∧ Keep [] w w' := by
  obtain ⟨k, t, r, a⟩ := x
  simp only at *
  have hst : ∀ k', k = k' → Hid (showL ⟨k, t, r, a⟩ = if k' = 5 then [64] ++ t.data.toList
    else if k' = 1 then [34] ++ litL t.data.toList ++ [34]
    else if k' = 2 then [91] ++ setL scL r ++ [93]
    else if k' = 3 then [60] ++ setL hxL r ++ [62]
    else t.data.toList) := fun k' h => by subst h; exact Lib.hid rfl
  obtain ⟨A, C, rfl, _⟩ := SlOf.at (Rngs.of H)
  have K1 := (Keep.refl [] w).alloc (.cells #[.int .i64 k, .string t, .slice A r.length C, .int .i64 a] 24)
  have HK := Lib.hid K1
  have HT1 := HT.keep K1 h5
  have h51 : 5 < (w.alloc (.cells #[.int .i64 k, .string t, .slice A r.length C, .int .i64 a] 24)).heap.size := by simp; omega
  have H1 : SlOf RngRow [] (w.alloc (.cells #[.int .i64 k, .string t, .slice A r.length C, .int .i64 a] 24)) 2 (.slice A r.length C) r := Rngs.of (Sl.mono (Rngs.mv0 H K1) (by simp))
  rcases (by omega : k = 5 ∨ k = 1 ∨ k = 2 ∨ k = 3 ∨ (k ≠ 5 ∧ k ≠ 1 ∧ k ≠ 2 ∧ k ≠ 3)) with rfl | rfl | rfl | rfl | ⟨n5, n1, n2, n3⟩
  · have HG := Lib.hid (show showL ⟨5, t, r, a⟩ = [64] ++ t.data.toList from rfl)
    clear H H1 hst HT1 K1
    go_enter Tryz.func32, Tryz.ntmps32
    go_wp2
    go_ret
    refine ⟨?_, HK.out⟩
    rw [HG.out, ← bytes_app, toB]
    rfl
  · have HG := Lib.hid (show showL ⟨1, t, r, a⟩ = [34] ++ litL t.data.toList ++ [34] from rfl)
    have HC := Lib.hid (litShow_any t ht (w.alloc (.cells #[.int .i64 1, .string t, .slice A r.length C, .int .i64 a] 24)))
    have hlen := litL_len t.data.toList
    rw [lenB] at hlen
    generalize litL t.data.toList = x at HG HC hlen
    clear H H1 hst HT1 K1
    go_enter Tryz.func32, Tryz.ntmps32
    go_wp2_with fail
    refine HC.out.mono ?_
    rintro e w1 ⟨rfl, K2⟩
    go_wp2
    go_ret
    refine ⟨?_, HK.out.trans K2⟩
    rw [HG.out, ← bytes_app, ← bytes_app]
    rfl
  · have HG := Lib.hid (show showL ⟨2, t, r, a⟩ = [91] ++ setL scL r ++ [93] from rfl)
    have HC := Lib.hid (setShow_any 57 1114112 scL scal_enter scL_len (fun n w hn HT h5 => scShow_any n hn w HT h5) A r.length C r (fun y hy => hr y hy) hl _ H1 HT1 h51)
    have hlen := setL_len scL scL_len r
    generalize setL scL r = x at HG HC hlen
    clear H H1 hst HT1 K1
    go_enter Tryz.func32, Tryz.ntmps32
    go_wp2_with fail
    refine HC.out.mono ?_
    rintro e w1 ⟨rfl, K2⟩
    go_wp2
    go_ret
    refine ⟨?_, HK.out.trans K2⟩
    rw [HG.out, ← bytes_app, ← bytes_app]
    rfl
  · have HG := Lib.hid (show showL ⟨3, t, r, a⟩ = [60] ++ setL hxL r ++ [62] from rfl)
    have h9 : ∀ n, (hxL n).length ≤ 9 := fun n => by simp [hxL]
    have HC := Lib.hid (setShow_any 58 256 hxL hexs_enter h9 (fun n w hn _ _ => hxShow_any n hn w) A r.length C r (fun y hy => ⟨(hr y hy).1, (hr y hy).2.1, h3 rfl y hy⟩) hl _ H1 HT1 h51)
    have hlen := setL_len hxL h9 r
    generalize setL hxL r = x at HG HC hlen
    clear H H1 hst HT1 K1
    go_enter Tryz.func32, Tryz.ntmps32
    go_wp2_with fail
    refine HC.out.mono ?_
    rintro e w1 ⟨rfl, K2⟩
    go_wp2
    go_ret
    refine ⟨?_, HK.out.trans K2⟩
    rw [HG.out, ← bytes_app, ← bytes_app]
    rfl
  · have HG := Lib.hid (show showL ⟨k, t, r, a⟩ = t.data.toList by unfold showL; simp [n5, n1, n2, n3])
    have e5 : (k == 5) = false := by simpa using n5
    have e1 : (k == 1) = false := by simpa using n1
    have e2 : (k == 2) = false := by simpa using n2
    have e3 : (k == 3) = false := by simpa using n3
    clear H H1 hst HT1 K1
    go_enter Tryz.func32, Tryz.ntmps32
    go_wp2
    go_ret
    refine ⟨?_, HK.out⟩
    rw [HG.out, toB]
    rfl
end Go.Proofs.YtmfjddhckblbhaaGreatDoor
namespace Go.Proofs.YtmfjddhckblbhaaGreatDoor
open Go Go.RowKit Go.MapKept
attribute [local go_sem] Oper.semAt_some

/-- Its kind lets a token have a range. -/
def okRg (k : Int) (r : Rng) : Bool := if k = 2 then utfMay r.lo.toNat && utfMay r.hi.toNat else if k = 3 then decide (r.hi ≤ 255) else true
/-- May there be such a token? -/
def mayT (x : TokS) : Bool := decide (0 ≤ x.k) && decide (x.k ≤ 5) && rmay x.r && x.r.all (okRg x.k) && (match lexT ⟨(showL x).toArray⟩ with | ([y], _, 0) => sameT y x | _ => false)
theorem rmay_ord {l : List Rng} (h : rmay l = true) : ∀ r ∈ l, 0 ≤ r.lo ∧ r.lo ≤ r.hi ∧ r.hi < 1114112 := by
  intro r hr
  obtain ⟨k, hk, rfl⟩ := List.getElem_of_mem hr
  simp only [rmay, Bool.not_eq_true', List.any_eq_false, List.mem_range] at h
  have := h k hk
  have e : rngAt l k = l[k] := by unfold rngAt; rw [List.getD_eq_getElem?_getD, List.getElem?_eq_getElem hk]; rfl
  simp only [badAt, e, Bool.or_eq_true, decide_eq_true_eq, not_or] at this
  omega
set_option maxRecDepth 100000 in
set_option maxHeartbeats 4000000 in
theorem mayT_any (S : List Nat) (x : TokS) (v : Value) (w : World) (H : Rngs S w v x.r) (hl : x.r.length ≤ 10000) (ht : x.t.size ≤ 100000000000) (HT : Tab w) (h5 : 5 < w.heap.size) :
    Calls Tryz.prog 15 #[.agg #[.int .i64 x.k, .string x.t, v, .int .i64 x.a]] w fun e w' => e = .returned (.bool (mayT x)) ∧ Keep [] w w' := by
  have HG := Lib.hid (show mayT x = (decide (0 ≤ x.k) && decide (x.k ≤ 5) && rmay x.r && x.r.all (okRg x.k) && (match lexT ⟨(showL x).toArray⟩ with | ([y], _, 0) => sameT y x | _ => false)) from rfl)
  generalize mayT x = goal at HG ⊢
  have HSH := Lib.hid (fun hr h3 w1 (K : Keep [] w w1) => show_any S x v w1 (Rngs.mv0 H K) hr h3 hl ht (HT.keep K h5) (Nat.lt_of_lt_of_le h5 K.size))
  have HSM := Lib.hid (fun (y : TokS) (u : Value) (T : List Nat) (w1 : World) (K : Keep [] w w1) (G : Rngs T w1 u y.r) => same_any T S y x u v w1 G (Rngs.mv0 H K))
  have HMAY := Lib.hid (fun w1 (K : Keep [] w w1) => rmay_any S v x.r w1 (Rngs.mv0 H K))
  obtain ⟨k, t, r, a⟩ := x
  simp only at HG HSH HSM HMAY H hl ht ⊢
  generalize hsl : showL ⟨k, t, r, a⟩ = sh at HG HSH
  obtain ⟨A, C, rfl, _⟩ := SlOf.at (Rngs.of H)
  have K1 := (Keep.refl [] w).alloc (.cells #[.int .i64 k, .string t, .slice A r.length C, .int .i64 a] 24)
  have B1 := Blk.new' w #[.int .i64 k, .string t, .slice A r.length C, .int .i64 a] 24 (b := w.heap.size) rfl
  have HK := Lib.hid (⟨K1, B1⟩ : _ ∧ _)
  have hb1 := B1.cell
  have HH := Lib.hid H
  have HM1 := Lib.hid (HMAY.out _ K1)
  clear H K1 B1 hsl HMAY HT
  by_cases hk0 : k < 0
  · have hgf := Lib.hid (show goal = false by rw [HG.out]; simp; omega)
    clear HG
    go_enter Tryz.func15, Tryz.ntmps15
    go_wp2
    go_ret
    exact ⟨by rw [hgf.out]; rfl, HK.out.1⟩
  by_cases hk5 : 5 < k
  · have hgf := Lib.hid (show goal = false by rw [HG.out]; simp; omega)
    clear HG
    go_enter Tryz.func15, Tryz.ntmps15
    go_wp2
    go_ret
    exact ⟨by rw [hgf.out]; rfl, HK.out.1⟩
  have HG2 := Lib.hid (show goal = (rmay r && r.all (okRg k) && (match lexT ⟨sh.toArray⟩ with | ([y], _, 0) => sameT y ⟨k, t, r, a⟩ | _ => false)) by rw [HG.out]; simp [show 0 ≤ k by omega, show k ≤ 5 by omega])
  clear HG
  go_enter Tryz.func15, Tryz.ntmps15
  go_wp2_with fail
  refine HM1.out.mono ?_
  rintro e w1 ⟨rfl, K1⟩
  have HK1 := Lib.hid (⟨HK.out.1.trans K1, HK.out.2.keep K1 (by simp)⟩ : _ ∧ _)
  clear hb1 HK HM1 K1
  have hb1 := HK1.out.2.cell
  cases hrm : rmay r
  · have hgf := Lib.hid (show goal = false by rw [HG2.out, hrm]; rfl)
    clear HG2 hrm
    go_wp2
    go_ret
    exact ⟨by rw [hgf.out]; rfl, HK1.out.1⟩
  have HO := Lib.hid (rmay_ord hrm)
  have HG3 := Lib.hid (show goal = (r.all (okRg k) && (match lexT ⟨sh.toArray⟩ with | ([y], _, 0) => sameT y ⟨k, t, r, a⟩ | _ => false)) by rw [HG2.out, hrm]; rfl)
  clear HG2 hrm
  go_wp2
  go_loopw [4, 25] (fun _ i wr => ∃ j : Nat, j ≤ r.length ∧ i = .int .i64 j ∧ Hid ((r.take j).all (okRg k) = true) ∧ Keep [] w wr ∧ Blk wr w.heap.size #[.int .i64 k, .string t, .slice A r.length C, .int .i64 a] 24) (fun _ i _ => r.length - (intOf i).toNat)
  case atStart => exact ⟨0, by omega, rfl, Lib.hid rfl, HK1.out.1, HK1.out.2⟩
  case round =>
    clear hb1
    obtain ⟨j, hj, rfl, HA, Kr, Br⟩ := hrel
    have hb1 := Br.cell
    have hbl := Br.lt
    by_cases hlt : j < r.length
    · have hlt' : (j : Int) < (r.length : Int) := by omega
      obtain ⟨ba, oa, rfl, _, e0, e1⟩ := rngSl_pick (Rngs.of (Rngs.mv0 HH.out Kr)) j hlt
      obtain ⟨o0, o1, o2⟩ := HO.out r[j] (List.getElem_mem hlt)
      have HBAD := Lib.hid (fun (h : okRg k r[j] = false) => show goal = false by
        rw [HG3.out, show r.all (okRg k) = false from List.all_eq_false.2 ⟨r[j], List.getElem_mem hlt, by simp [h]⟩]
        rfl)
      have HGOOD := Lib.hid (fun (h : okRg k r[j] = true) => show (r.take (j + 1)).all (okRg k) = true by
        rw [List.take_succ_eq_append_getElem hlt, List.all_append, HA.out]
        simp [h])
      have HLT := Lib.hid hlt
      have KR := Lib.hid (⟨Kr.alloc (.cells #[.int .i64 r[j].lo, .int .i64 r[j].hi] 44), Br.alloc (.cells #[.int .i64 r[j].lo, .int .i64 r[j].hi] 44)⟩ : _ ∧ _)
      have hrj : okRg k r[j] = if k = 2 then utfMay r[j].lo.toNat && utfMay r[j].hi.toNat else if k = 3 then decide (r[j].hi ≤ 255) else true := rfl
      have HRJ := Lib.hid hrj
      clear hrj
      generalize okRg k r[j] = ok at HBAD HGOOD HRJ
      generalize r[j].lo = lo at e0 o0 o1 HRJ KR
      generalize r[j].hi = hi at e1 o1 o2 HRJ KR
      clear hlt
      obtain ⟨lo, rfl⟩ : ∃ x : Nat, lo = x := ⟨lo.toNat, by omega⟩
      obtain ⟨hi, rfl⟩ : ∃ x : Nat, hi = x := ⟨hi.toNat, by omega⟩
      simp only [Int.toNat_natCast] at HRJ
      have HU1 := Lib.hid (utfMay_any lo (wr.alloc (.cells #[.int .i64 lo, .int .i64 hi] 44)) (by omega))
      have HU2 := Lib.hid (utfMay_any hi (wr.alloc (.cells #[.int .i64 lo, .int .i64 hi] 44)) (by omega))
      rw [Int.toNat_natCast] at HU1 HU2
      clear Kr Br HA o0 o1 o2
      by_cases k2 : k = 2
      · subst k2
        go_wp2_with fail
        refine HU1.out.mono ?_
        rintro e w2 ⟨rfl, rfl⟩
        cases hu1 : utfMay lo
        · have hgf := Lib.hid (HBAD.out (by rw [HRJ.out, hu1]; rfl))
          clear HBAD HGOOD HRJ hu1 HU1 HU2
          go_wp2
          go_ret
          exact ⟨by rw [hgf.out]; rfl, KR.out.1⟩
        · go_wp2_with fail
          refine HU2.out.mono ?_
          rintro e w2 ⟨rfl, rfl⟩
          cases hu2 : utfMay hi
          · have hgf := Lib.hid (HBAD.out (by rw [HRJ.out, hu1, hu2]; rfl))
            clear HBAD HGOOD HRJ hu1 hu2 HU1 HU2
            go_wp2
            go_ret
            exact ⟨by rw [hgf.out]; rfl, KR.out.1⟩
          · have hgf := Lib.hid (HGOOD.out (by rw [HRJ.out, hu1, hu2]; rfl))
            clear HBAD HGOOD HRJ hu1 hu2 HU1 HU2
            go_wp2
            exact ⟨⟨j + 1, by have := HLT.out; omega, by go_num, hgf, KR.out.1, KR.out.2⟩, by simp [intOf]; have := HLT.out; omega⟩
      · have e2 : (k == 2) = false := by simpa using k2
        by_cases k3 : k = 3
        · subst k3
          by_cases h255 : (255 : Int) < hi
          · have hgf := Lib.hid (HBAD.out (by rw [HRJ.out]; simp; omega))
            clear HBAD HGOOD HRJ HU1 HU2
            go_wp2
            go_ret
            exact ⟨by rw [hgf.out]; rfl, KR.out.1⟩
          · have hgf := Lib.hid (HGOOD.out (by rw [HRJ.out]; simp; omega))
            clear HBAD HGOOD HRJ HU1 HU2
            go_wp2
            exact ⟨⟨j + 1, by have := HLT.out; omega, by go_num, hgf, KR.out.1, KR.out.2⟩, by simp [intOf]; have := HLT.out; omega⟩
        · have e3 : (k == 3) = false := by simpa using k3
          have hgf := Lib.hid (HGOOD.out (by rw [HRJ.out]; simp [k2, k3]))
          clear HBAD HGOOD HRJ HU1 HU2 k2 k3
          go_wp2
          exact ⟨⟨j + 1, by have := HLT.out; omega, by go_num, hgf, KR.out.1, KR.out.2⟩, by simp [intOf]; have := HLT.out; omega⟩
    · obtain rfl : j = r.length := by omega
      have hall := HA.out
      rw [List.take_length] at hall
      have HG4 := Lib.hid (show goal = (match lexT ⟨sh.toArray⟩ with | ([y], _, 0) => sameT y ⟨k, t, r, a⟩ | _ => false) by rw [HG3.out, hall]; rfl)
      have h3 : k = 3 → ∀ x ∈ r, x.hi < 256 := fun hk x hx => by
        have := List.all_eq_true.1 hall x hx
        unfold okRg at this
        rw [if_neg (by omega), if_pos hk] at this
        have := of_decide_eq_true this
        omega
      have HS := Lib.hid (HSH.out HO.out h3 wr Kr)
      have HKR := Lib.hid (⟨Kr, Br⟩ : _ ∧ _)
      clear hall h3 HA HG3 HSH Kr Br
      go_wp2_with fail
      refine HS.out.mono ?_
      rintro e w2 ⟨rfl, K2⟩
      have HK2 := Lib.hid (⟨HKR.out.1.trans K2, HKR.out.2.keep K2 (by simp)⟩ : _ ∧ _)
      clear hb1 K2 HKR HS
      obtain ⟨ts, aa, e0, hlx⟩ : ∃ ts aa e0, lexT ⟨sh.toArray⟩ = (ts, aa, e0) := ⟨_, _, _, rfl⟩
      have HAL := Lib.hid (allTok_any [] ⟨sh.toArray⟩ w2 (by simp) ts aa e0 hlx)
      have hg5 := HG4.out
      rw [hlx] at hg5
      have HG5 := Lib.hid hg5
      clear hg5 hlx HG4
      go_wp2_with fail
      refine HAL.out.mono ?_
      rintro e w3 ⟨⟨u, rfl, HTS⟩, K3⟩
      have HK3 := Lib.hid (⟨HK2.out.1.trans K3, HK2.out.2.keep K3 (by simp)⟩ : _ ∧ _)
      clear K3 HAL HK2
      obtain ⟨A2, C2, rfl, hts⟩ := SlOf.at HTS
      by_cases he0 : e0 = 0
      · subst he0
        by_cases hl1 : ts.length = 1
        · obtain ⟨y, rfl⟩ : ∃ y, ts = [y] := by
            match ts, hl1 with
            | [y], _ => exact ⟨y, rfl⟩
          obtain ⟨_, hts⟩ := hts
          obtain ⟨b2, o2, rfl, _, hcl⟩ := hts (by simp)
          obtain ⟨row, _, hcell, ⟨u, hrow, hyr⟩⟩ := hcl 0 (by simp)
          simp only [List.getElem_cons_zero] at hrow hyr
          subst hrow
          have y0 := hcell 0 (by omega)
          have y1 := hcell 1 (by omega)
          have y2 := hcell 2 (by omega)
          have y3 := hcell 3 (by omega)
          simp at y0 y1 y2 y3
          have b0 : w3.cell? ⟨w.heap.size, 0, none⟩ = some (.int .i64 k) := HK3.out.2.cell 0
          have b1 : w3.cell? ⟨w.heap.size, 1, none⟩ = some (.string t) := HK3.out.2.cell 1
          have b2' : w3.cell? ⟨w.heap.size, 2, none⟩ = some (.slice A r.length C) := HK3.out.2.cell 2
          have b3 : w3.cell? ⟨w.heap.size, 3, none⟩ = some (.int .i64 a) := HK3.out.2.cell 3
          have HSM2 : Hid (∀ w', Keep [] w3 w' → Calls Tryz.prog 18 #[.agg #[.int .i64 y.k, .string y.t, u, .int .i64 y.a], .agg #[.int .i64 k, .string t, .slice A r.length C, .int .i64 a]] w' fun e w'' => e = .returned (.bool (sameT y ⟨k, t, r, a⟩)) ∧ Keep [] w3 w'') := Lib.hid (fun w' K => (HSM.out y u [] w' (HK3.out.1.trans K) (Rngs.mv0 hyr K)).mono fun e w'' ⟨h1, h2⟩ => ⟨h1, K.trans h2⟩)
          have HG6 := Lib.hid (show goal = sameT y ⟨k, t, r, a⟩ from HG5.out)
          generalize sameT y ⟨k, t, r, a⟩ = q at HSM2 HG6
          obtain ⟨yk, yt, yr, ya⟩ := y
          simp only at y0 y1 y3 HSM2 hyr
          obtain ⟨A3, C3, rfl, _⟩ := SlOf.at (Rngs.of hyr)
          have HS := Lib.hid (fun w' (K : Keep [] w3 w') => (⟨(K.cell y0 (by simp)), (K.cell y1 (by simp)), (K.cell y2 (by simp)), (K.cell y3 (by simp)), (K.cell b0 (by simp)), (K.cell b1 (by simp)), (K.cell b2' (by simp)), (K.cell b3 (by simp)), K⟩ :
            w'.cell? ⟨b2, o2, none⟩ = some (.int .i64 yk) ∧ w'.cell? ⟨b2, o2 + 1, none⟩ = some (.string yt) ∧ w'.cell? ⟨b2, o2 + 2, none⟩ = some (.slice A3 yr.length C3) ∧ w'.cell? ⟨b2, o2 + 3, none⟩ = some (.int .i64 ya) ∧
            w'.cell? ⟨w.heap.size, 0, none⟩ = some (.int .i64 k) ∧ w'.cell? ⟨w.heap.size, 1, none⟩ = some (.string t) ∧ w'.cell? ⟨w.heap.size, 2, none⟩ = some (.slice A r.length C) ∧ w'.cell? ⟨w.heap.size, 3, none⟩ = some (.int .i64 a) ∧ Keep [] w3 w'))
          have K0 := Keep.refl [] w3
          clear HG5 HTS hts hcl hcell hyr HSM HO
          go_wp2
          go_region_held3 (fun w' => w'.cell? ⟨b2, o2, none⟩ = some (.int .i64 yk) ∧ w'.cell? ⟨b2, o2 + 1, none⟩ = some (.string yt) ∧ w'.cell? ⟨b2, o2 + 2, none⟩ = some (.slice A3 yr.length C3) ∧ w'.cell? ⟨b2, o2 + 3, none⟩ = some (.int .i64 ya) ∧
            w'.cell? ⟨w.heap.size, 0, none⟩ = some (.int .i64 k) ∧ w'.cell? ⟨w.heap.size, 1, none⟩ = some (.string t) ∧ w'.cell? ⟨w.heap.size, 2, none⟩ = some (.slice A r.length C) ∧ w'.cell? ⟨w.heap.size, 3, none⟩ = some (.int .i64 a) ∧ Keep [] w3 w')
            (exact HS.out _ (by repeat (first | assumption | apply Keep.drew)))
            (first
              | (go_at_call 18; refine (HSM2.out _ (by repeat (first | assumption | apply Keep.drew))).mono ?_; rintro e w' ⟨rfl, K'⟩))
          have K5 : Keep [] w3 _ := ‹Keep [] w3 w'›
          go_wp2
          go_ret
          exact ⟨by rw [HG6.out]; rfl, HK3.out.1.trans K5⟩
        · have hgf := Lib.hid (show goal = false by
            rw [HG5.out]
            match ts, hl1 with
            | [], _ => rfl
            | [y], h => exact absurd rfl h
            | y :: z :: l, _ => rfl)
          have hb : ((ts.length : Int) == 1) = false := by simp; omega
          clear HG5 HTS hts HSM HO
          go_wp2
          go_quiet (fail)
          go_wp2
          go_ret
          exact ⟨by rw [hgf.out]; rfl, HK3.out.1.drewN _⟩
      · have hgf := Lib.hid (show goal = false by
          rw [HG5.out]
          match ts, e0, he0 with
          | [], _, _ => rfl
          | [y], 0, h => exact absurd rfl h
          | [y], e + 1, _ => rfl
          | y :: z :: l, _, _ => rfl)
        have hb : ((e0 : Int) == 0) = false := by simp; omega
        clear HG5 HTS hts HSM HO
        go_wp2
        go_quiet (fail)
        go_wp2
        go_ret
        exact ⟨by rw [hgf.out]; rfl, HK3.out.1.drewN _⟩
end Go.Proofs.YtmfjddhckblbhaaGreatDoor
namespace Go.Proofs.YtmfjddhckblbhaaGreatDoor
open Go Go.RowKit Go.MapKept
attribute [local go_sem] Oper.semAt_some

/-- A token's text, or none. -/
def textT (x : TokS) : List UInt8 := if mayT x = true then showL x else []
theorem mayT_ok {x : TokS} (h : mayT x = true) : (∀ r ∈ x.r, 0 ≤ r.lo ∧ r.lo ≤ r.hi ∧ r.hi < 1114112) ∧ (x.k = 3 → ∀ r ∈ x.r, r.hi < 256) := by
  unfold mayT at h
  simp only [Bool.and_eq_true] at h
  refine ⟨rmay_ord h.1.1.2, fun hk r hr => ?_⟩
  have := List.all_eq_true.1 h.1.2 r hr
  unfold okRg at this
  rw [if_neg (by omega), if_pos hk] at this
  have := of_decide_eq_true this
  omega
set_option maxRecDepth 100000 in
set_option maxHeartbeats 1000000 in
theorem textT_any (S : List Nat) (x : TokS) (v : Value) (w : World) (H : Rngs S w v x.r) (hl : x.r.length ≤ 10000) (ht : x.t.size ≤ 100000000000) (HT : Tab w) (h5 : 5 < w.heap.size) :
    Calls Tryz.prog 16 #[.agg #[.int .i64 x.k, .string x.t, v, .int .i64 x.a]] w fun e w' => e = .returned (.string ⟨(textT x).toArray⟩) ∧ Keep [] w w' := by
  have HM := Lib.hid (fun w1 (K : Keep [] w w1) => mayT_any S x v w1 (Rngs.mv0 H K) hl ht (HT.keep K h5) (Nat.lt_of_lt_of_le h5 K.size))
  have HS := Lib.hid (fun (h : mayT x = true) w1 (K : Keep [] w w1) => show_any S x v w1 (Rngs.mv0 H K) (mayT_ok h).1 (mayT_ok h).2 hl ht (HT.keep K h5) (Nat.lt_of_lt_of_le h5 K.size))
  have HG := Lib.hid (show textT x = if mayT x = true then showL x else [] from rfl)
  generalize textT x = goal at HG ⊢
  generalize mayT x = q at HM HS HG
  generalize showL x = sh at HS HG
  obtain ⟨k, t, r, a⟩ := x
  simp only at *
  obtain ⟨A, C, rfl, _⟩ := SlOf.at (Rngs.of H)
  have K1 := (Keep.refl [] w).alloc (.cells #[.int .i64 k, .string t, .slice A r.length C, .int .i64 a] 24)
  have B1 := Blk.new' w #[.int .i64 k, .string t, .slice A r.length C, .int .i64 a] 24 (b := w.heap.size) rfl
  have HK := Lib.hid (⟨K1, B1⟩ : _ ∧ _)
  have hb1 := B1.cell
  have HM1 := Lib.hid (HM.out _ K1)
  clear H K1 B1 HM HT
  go_enter Tryz.func16, Tryz.ntmps16
  go_wp2_with fail
  refine HM1.out.mono ?_
  rintro e w1 ⟨rfl, K1⟩
  have HK1 := Lib.hid (⟨HK.out.1.trans K1, HK.out.2.keep K1 (by simp)⟩ : _ ∧ _)
  clear hb1 HK HM1 K1
  have hb1 := HK1.out.2.cell
  cases q
  · have hgf := Lib.hid (show goal = [] from HG.out)
    clear HG HS
    go_wp2
    go_ret
    exact ⟨by rw [hgf.out]; rfl, HK1.out.1⟩
  · have hgf := Lib.hid (show goal = sh from HG.out)
    have HS1 := Lib.hid (HS.out rfl _ HK1.out.1)
    clear HG HS
    go_wp2_with fail
    refine HS1.out.mono ?_
    rintro e w2 ⟨rfl, K2⟩
    clear HS1
    go_wp2
    go_ret
    exact ⟨by rw [hgf.out]; rfl, HK1.out.1.trans K2⟩
end Go.Proofs.YtmfjddhckblbhaaGreatDoor
namespace Go.Proofs.YtmfjddhckblbhaaGreatDoor
open Go Go.RowKit Go.MapKept

/-- A text all of whose bytes are a name's. -/
def allW (s : ByteArray) : Prop := 0 < s.size ∧ wordN s.data.toList false = s.size
/-- A name. -/
def nameB (s : ByteArray) : Bool := decide (1 ≤ s.size) && decide (s.size ≤ 12) && decide (wordN s.data.toList false = s.size)
theorem extract_all (s : ByteArray) : s.extract 0 s.size = s := by
  apply ByteArray.ext
  rw [ByteArray.data_extract]
  show s.data.extract 0 s.data.size = s.data
  simp
theorem skip_none (s : ByteArray) (h : 0 < s.size) (hc : (s[0]'h).toNat ≠ 32 ∧ (s[0]'h).toNat ≠ 9 ∧ (s[0]'h).toNat ≠ 10 ∧ (s[0]'h).toNat ≠ 13) : skipB s 0 = 0 := by
  unfold skipB Lib.trimLeftS
  have hl : 0 < s.data.toList.length := by rw [lenB]; exact h
  rw [List.drop_zero]
  have e : s.data.toList = s.data.toList[0] :: s.data.toList.drop 1 := (List.drop_eq_getElem_cons hl).symm ▸ by simp
  have hc0 : ([32, 9, 10, 13] : List UInt8).contains s.data.toList[0] = false := by
    have hx : s.data.toList[0] = s[0]'h := rfl
    rw [hx]
    generalize s[0]'h = c at hc
    simp only [List.contains_cons, List.contains_nil, Bool.or_false, Bool.or_eq_false_iff, beq_eq_false_iff_ne, ne_eq]
    refine ⟨fun e => hc.1 (by rw [e]; rfl), fun e => hc.2.1 (by rw [e]; rfl), fun e => hc.2.2.1 (by rw [e]; rfl), fun e => hc.2.2.2 (by rw [e]; rfl)⟩
  have hd : List.dropWhile (fun x => ([32, 9, 10, 13] : List UInt8).contains x) s.data.toList = s.data.toList := by
    rw [e, List.dropWhile_cons, if_neg (by rw [← e] at *; simpa using hc0)]
  rw [hd, lenB]
  omega
theorem word_first {s : ByteArray} (h : 0 < s.size) (hw : 0 < wordN s.data.toList false) : 97 ≤ (s[0]'h).toNat ∧ (s[0]'h).toNat ≤ 122 := by
  have h1 := wordN_byte s 0 h false
  rw [List.drop_zero] at h1
  rw [h1] at hw
  by_cases hb : letterB ((s[0]'h).toNat : Int) false = true
  · unfold letterB at hb
    simp at hb
    omega
  · rw [if_neg hb] at hw
    omega
theorem name_lex (s : ByteArray) (h : allW s) (hm : s.size ≤ 3000) : lexT s = if s.size ≤ 12 then ([⟨0, s, [], 0⟩], s.size, 0) else ([], 0, 2) := by
  obtain ⟨h0, hw⟩ := h
  obtain ⟨c1, c2⟩ := word_first h0 (by omega)
  have hs := skip_none s h0 (by omega)
  have hway : wayR clR byR s 0 = if s.size ≤ 12 then some (0, s, [], s.size) else none := by
    unfold wayR
    rw [digitByte s 0 h0]
    simp only [List.drop_zero, hw]
    rw [if_neg (by omega), if_neg (by omega), if_neg (by omega), if_neg (by omega), if_neg (by omega)]
    rw [Nat.zero_add, extract_all]
    by_cases h12 : s.size ≤ 12
    · rw [if_pos ⟨h0, h12⟩, if_pos h12]
    · rw [if_neg (by omega), if_neg h12]
  unfold lexT
  rw [if_neg (by omega)]
  by_cases h12 : s.size ≤ 12
  · rw [if_pos h12] at hway ⊢
    rw [lexR_go (by omega) (by omega) (by rw [hs]; exact hway), if_neg (by simp), hs]
    have he : skipB s s.size = s.size := by have := skipB_le s s.size (Nat.le_refl _); omega
    rw [lexR_end (by omega) he]
    rfl
  · rw [if_neg h12] at hway ⊢
    rw [lexR_bad (by omega) (by omega) (by rw [hs]; exact hway), hs]
/-- What is read stands behind what was. -/
theorem lexR_acc {cR bR : ByteArray → Nat → WayR} {s : ByteArray} : ∀ (n i : Nat) (acc ts : List TokS) (a : Nat), lexR cR bR s n i acc = (ts, a, 0) → ts ≠ [] → ∃ l, ts = acc ++ l
  | 0, _, _, _, _, h, hn => by
    simp only [lexR, Prod.mk.injEq] at h
    exact absurd h.1.symm hn
  | n + 1, i, acc, ts, a, h, hn => by
    rw [lexR] at h
    split at h
    · simp only [Prod.mk.injEq] at h
      exact ⟨[], by rw [← h.1]; simp⟩
    · split at h
      · simp only [Prod.mk.injEq] at h
        omega
      · split at h
        · simp only [Prod.mk.injEq] at h
          omega
        · obtain ⟨l, hl⟩ := lexR_acc n _ _ _ _ h hn
          exact ⟨_ :: l, by rw [hl, List.append_assoc]; rfl⟩
theorem lex_one {s : ByteArray} {y : TokS} {a : Nat} (h : lexT s = ([y], a, 0)) : s.size ≤ 3000 ∧ skipB s 0 ≠ s.size ∧ y.a = skipB s 0 ∧ ∃ j, wayR clR byR s (skipB s 0) = some (y.k, y.t, y.r, j) := by
  unfold lexT at h
  split at h
  · simp at h
  · rename_i h1
    rw [lexR] at h
    split at h
    · simp at h
    · rename_i h2
      split at h
      · simp at h
      · rename_i k t r j hw
        rw [if_neg (by simp)] at h
        obtain ⟨l, hl⟩ := lexR_acc _ _ _ _ _ h (by simp)
        simp only [List.nil_append, List.cons_append, List.cons.injEq] at hl
        obtain ⟨rfl, _⟩ := hl
        exact ⟨by omega, h2, rfl, j, hw⟩
theorem way_name {s : ByteArray} {i : Nat} {t : ByteArray} {r : List Rng} {j : Nat} (h : wayR clR byR s i = some (0, t, r, j)) : t = s.extract i (i + wordN (s.data.toList.drop i) false) ∧ 0 < wordN (s.data.toList.drop i) false ∧ wordN (s.data.toList.drop i) false ≤ 12 := by
  unfold wayR at h
  split at h
  · cases h
  · rename_i c hc
    split at h
    · split at h
      · simp only [Option.some.injEq, Prod.mk.injEq] at h; omega
      · cases h
    · split at h
      · unfold litTok at h
        split at h
        · split at h
          · simp only [Option.some.injEq, Prod.mk.injEq] at h; omega
          · cases h
        · cases h
      · split at h
        · unfold clR at h
          split at h
          · simp only [Option.some.injEq, Prod.mk.injEq] at h; omega
          · cases h
        · split at h
          · unfold byR at h
            split at h
            · simp only [Option.some.injEq, Prod.mk.injEq] at h; omega
            · cases h
          · split at h
            · simp only [Option.some.injEq, Prod.mk.injEq] at h; omega
            · split at h
              · rename_i hw
                simp only [Option.some.injEq, Prod.mk.injEq] at h
                exact ⟨h.2.1.symm, hw⟩
              · cases h
theorem may_name (s : ByteArray) (hm : s.size ≤ 3000) (a : Int) : mayT ⟨0, s, [], a⟩ = nameB s := by
  have hsh : (⟨(showL ⟨0, s, [], a⟩).toArray⟩ : ByteArray) = s := by
    unfold showL
    simp only
    rw [if_neg (by decide), if_neg (by decide), if_neg (by decide), if_neg (by decide), toB]
  unfold mayT
  rw [hsh]
  simp only [rmay, List.all_nil, List.length_nil, List.range_zero, List.any_nil, Bool.not_false, Bool.and_true, Int.le_refl, decide_true, Bool.true_and]
  rw [show decide ((0 : Int) ≤ 5) = true from rfl, Bool.true_and]
  cases hn : nameB s
  · split
    · rename_i y a' hl
      obtain ⟨h1, h2, h3, j, h4⟩ := lex_one hl
      by_cases hk : y.k = 0 ∧ y.t = s
      · exfalso
        rw [hk.1, hk.2] at h4
        obtain ⟨e1, e2, e3⟩ := way_name h4
        have hle := wordN_le (s.data.toList.drop (skipB s 0)) false
        have hsz := skipB_le s 0 (by omega)
        rw [List.length_drop, lenB] at hle
        have hz : s.size = wordN (s.data.toList.drop (skipB s 0)) false := by
          have := congrArg ByteArray.size e1
          rw [ByteArray.size_extract] at this
          omega
        have h00 : skipB s 0 = 0 := by omega
        rw [h00, List.drop_zero] at hz e3
        unfold nameB at hn
        simp only [Bool.and_eq_false_imp, Bool.and_eq_true, decide_eq_true_eq, decide_eq_false_iff_not] at hn
        exact hn ⟨by omega, by omega⟩ hz.symm
      · unfold sameT
        simp only [Bool.and_eq_false_imp, Bool.and_eq_true, decide_eq_true_eq, decide_eq_false_iff_not]
        intro h
        exact absurd h hk
    · rfl
  · unfold nameB at hn
    simp only [Bool.and_eq_true, decide_eq_true_eq] at hn
    rw [name_lex s ⟨by omega, hn.2⟩ hm, if_pos hn.1.2]
    simp [sameT]
end Go.Proofs.YtmfjddhckblbhaaGreatDoor
