/- The maker: sets, bytes. -/
import Derived.Test.YtbpidoiellcccaaGreatDoorK11
set_option linter.unusedVariables false
set_option linter.unusedSimpArgs false
namespace Go.Proofs.YtbpidoiellcccaaGreatDoor
open Go Go.RowKit Go.MapKept

set_option maxRecDepth 20000 in
set_option maxHeartbeats 4000000 in
theorem pieceSet_any (S : List Nat) (base m mb : Nat) (names : List ByteArray) (pv v : Value) (st : MkS) (l : List SymS) (t : ByteArray) (r : List Rng) (ch : List PartS) (a : Int) (row : Array Value) (d : Nat) (w : World) (hN : l.length ≤ 1000000) (hR : r.length ≤ 1000000) (H : MkAt S w base m mb names pv v st l)
    (hp : PartAt (ownB pv ++ ownB v ++ S) w (.mk 2 t r ch a) row) :
    Calls Tryz.prog 103 #[.pointer (some ⟨m, 0, none⟩), v, .agg row] w (PiecePost S base m mb names pv v w (pieceF names (d + 1) st l (.mk 2 t r ch a))) := by
  cases hp with
  | mk _ _ _ _ _ rv lv rows hr hl hn hpp =>
    have hr0 := hr
    obtain ⟨A, C, rfl, _⟩ := hr
    obtain ⟨B, D, rfl, _⟩ := hl
    rw [List.length_map, hn]
    rw [List.length_map] at hr0
    have hmf : ∀ (fn : Fn) (first cap : Array Value) (w : World), (Instr.makeFunc fn first cap).run Tryz.prog w = .ok (.func fn first cap) w := fun _ _ _ _ => rfl
    have K0 := (Keep.refl [] w).alloc (.cells #[.int .i64 2, .string t, .slice A r.length C, .slice B ch.length D, .int .i64 a] 85)
    have H0 := H.keep K0
    have hr1 : Rngs (ownB pv ++ ownB v ++ S) _ (.slice A r.length C) r := Sl.move hr0 (by omega) K0 (by simp) (fun x hx => .inl hx)
    go_enter Tryz.func103, Tryz.ntmps103
    go_wp2_with fail
    refine (symbol_any _ 1 _ r _ hr1 hR).mono ?_
    rintro e w2 ⟨⟨srow, rfl, hs⟩, K2⟩
    have H2 := H0.keep K2
    have KF := K0.trans K2
    have hs2 := hs (ownB v ++ (ownB pv ++ S)) (fun b hb => H0.all b (by simp at hb ⊢; rcases hb with h | h | h <;> simp [h]))
    obtain ⟨A2, C2, hv⟩ := H2.syms.slice
    subst hv
    have hs2' := hs2
    obtain ⟨A3, C3, rfl, _⟩ := hs2'
    have hsy := H2.syms
    obtain ⟨rows2, hlr, hown, hel⟩ := hsy
    obtain ⟨i0, hi0, hz0, hz1, hz2⟩ := info_parts info_sym
    have HEL := Lib.hid hel; clear hel
    simp only at hs2 hs ⊢
    clear hs hr1 hr0
    go_wp2_with (at_builtin; go_loud (refine wpList_append_lies _ rfl _ _ 44 rfl base 43 i0 (.agg #[.int .i64 0, .slice none 0 0, .int .i64 0]) 3 40 Tryz.underlying44 hi0 hz0 hz1 hz2 rfl (by decide) _ l.length _ rfl (hown.alloc _) ⟨w2.heap.size, 0, none⟩ 1 1 [.int .i64 1, .slice A3 r.length C3, .int .i64 0] rfl rfl (World.news_of_block (Blk.new' _ _ _ (by simp))) (by simp [Value.oneCell']) (by decide) (by unfold maxLen; omega) (by omega) (by have := H2.base; simp; omega) _ rfl ?_); intro g cap w5 O5 G5 W5 L5)
    have K3 := (Keep.refl [] w2).alloc (.cells #[.int .i64 1, .slice A3 r.length C3, .int .i64 0] 43)
    have H3 := H2.keep K3
    have hx := symRow_stab _ _ (ownB (.slice A2 l.length C2) ++ (ownB pv ++ S)) _ _ _ _ hs2 K3 (by simp) (fun x hx => .inl hx)
    have H5 := H3.push rows2 hlr (fun i hi hi' => ⟨(HEL.out i hi hi').1, symRow_stab _ _ _ _ _ _ _ (HEL.out i hi hi').2 K3 (by simp) (fun x hx => .inl hx)⟩) hx rfl O5 G5 W5
    have KG := Keep.ofGrown (v := .slice A2 l.length C2) G5
    have W5' : (Value.slice A2 l.length C2).ownBlock = some g ∨ g = (w2.alloc (.cells #[.int .i64 1, .slice A3 r.length C3, .int .i64 0] 43)).heap.size := W5
    clear O5 G5 L5
    go_wp2
    go_ret
    refine ⟨((KF.trans K3).mono (by simp)).trans (KG.mono (fun x hx => .inl (by simp [hx]))), pv, _, rfl, ?_, fun b hb => .inl hb, fun b hb => ?_⟩
    · simpa [pieceF] using H5
    · rcases own_new (S := []) W5' b (List.mem_append.2 (.inl hb)) with h | h
      · exact .inl (by simpa using h)
      · exact .inr (by have := KF.size; simp at h; omega)

set_option maxRecDepth 20000 in
set_option maxHeartbeats 4000000 in
theorem pieceOcts_any (S : List Nat) (base m mb : Nat) (names : List ByteArray) (pv v : Value) (st : MkS) (l : List SymS) (t : ByteArray) (r : List Rng) (ch : List PartS) (a : Int) (row : Array Value) (d : Nat) (w : World) (hN : l.length ≤ 1000000) (hR : r.length ≤ 1000000) (H : MkAt S w base m mb names pv v st l)
    (hp : PartAt (ownB pv ++ ownB v ++ S) w (.mk 3 t r ch a) row) :
    Calls Tryz.prog 103 #[.pointer (some ⟨m, 0, none⟩), v, .agg row] w (PiecePost S base m mb names pv v w (pieceF names (d + 1) st l (.mk 3 t r ch a))) := by
  cases hp with
  | mk _ _ _ _ _ rv lv rows hr hl hn hpp =>
    have hr0 := hr
    obtain ⟨A, C, rfl, _⟩ := hr
    obtain ⟨B, D, rfl, _⟩ := hl
    rw [List.length_map, hn]
    rw [List.length_map] at hr0
    have hmf : ∀ (fn : Fn) (first cap : Array Value) (w : World), (Instr.makeFunc fn first cap).run Tryz.prog w = .ok (.func fn first cap) w := fun _ _ _ _ => rfl
    have K0 := (Keep.refl [] w).alloc (.cells #[.int .i64 3, .string t, .slice A r.length C, .slice B ch.length D, .int .i64 a] 85)
    have H0 := H.keep K0
    have hr1 : Rngs (ownB pv ++ ownB v ++ S) _ (.slice A r.length C) r := Sl.move hr0 (by omega) K0 (by simp) (fun x hx => .inl hx)
    go_enter Tryz.func103, Tryz.ntmps103
    go_wp2_with fail
    refine (symbol_any _ 0 _ r _ hr1 hR).mono ?_
    rintro e w2 ⟨⟨srow, rfl, hs⟩, K2⟩
    have H2 := H0.keep K2
    have KF := K0.trans K2
    have hs2 := hs (ownB v ++ (ownB pv ++ S)) (fun b hb => H0.all b (by simp at hb ⊢; rcases hb with h | h | h <;> simp [h]))
    obtain ⟨A2, C2, hv⟩ := H2.syms.slice
    subst hv
    have hs2' := hs2
    obtain ⟨A3, C3, rfl, _⟩ := hs2'
    have hsy := H2.syms
    obtain ⟨rows2, hlr, hown, hel⟩ := hsy
    obtain ⟨i0, hi0, hz0, hz1, hz2⟩ := info_parts info_sym
    have HEL := Lib.hid hel; clear hel
    simp only at hs2 hs ⊢
    clear hs hr1 hr0
    go_wp2_with (at_builtin; go_loud (refine wpList_append_lies _ rfl _ _ 44 rfl base 43 i0 (.agg #[.int .i64 0, .slice none 0 0, .int .i64 0]) 3 40 Tryz.underlying44 hi0 hz0 hz1 hz2 rfl (by decide) _ l.length _ rfl (hown.alloc _) ⟨w2.heap.size, 0, none⟩ 1 1 [.int .i64 0, .slice A3 r.length C3, .int .i64 0] rfl rfl (World.news_of_block (Blk.new' _ _ _ (by simp))) (by simp [Value.oneCell']) (by decide) (by unfold maxLen; omega) (by omega) (by have := H2.base; simp; omega) _ rfl ?_); intro g cap w5 O5 G5 W5 L5)
    have K3 := (Keep.refl [] w2).alloc (.cells #[.int .i64 0, .slice A3 r.length C3, .int .i64 0] 43)
    have H3 := H2.keep K3
    have hx := symRow_stab _ _ (ownB (.slice A2 l.length C2) ++ (ownB pv ++ S)) _ _ _ _ hs2 K3 (by simp) (fun x hx => .inl hx)
    have H5 := H3.push rows2 hlr (fun i hi hi' => ⟨(HEL.out i hi hi').1, symRow_stab _ _ _ _ _ _ _ (HEL.out i hi hi').2 K3 (by simp) (fun x hx => .inl hx)⟩) hx rfl O5 G5 W5
    have KG := Keep.ofGrown (v := .slice A2 l.length C2) G5
    have W5' : (Value.slice A2 l.length C2).ownBlock = some g ∨ g = (w2.alloc (.cells #[.int .i64 0, .slice A3 r.length C3, .int .i64 0] 43)).heap.size := W5
    clear O5 G5 L5
    go_wp2
    go_ret
    refine ⟨((KF.trans K3).mono (by simp)).trans (KG.mono (fun x hx => .inl (by simp [hx]))), pv, _, rfl, ?_, fun b hb => .inl hb, fun b hb => ?_⟩
    · simpa [pieceF] using H5
    · rcases own_new (S := []) W5' b (List.mem_append.2 (.inl hb)) with h | h
      · exact .inl (by simpa using h)
      · exact .inr (by have := KF.size; simp at h; omega)
end Go.Proofs.YtbpidoiellcccaaGreatDoor
namespace Go.Proofs.YtbpidoiellcccaaGreatDoor
open Go Go.RowKit Go.MapKept

def byteSym (c : UInt8) : SymS := ⟨0, [⟨c.toNat, c.toNat⟩], 0⟩
/-- The head of a round of the loop over a text's bytes. -/
def TextAt (S : List Nat) (base m mb : Nat) (names : List ByteArray) (pv v : Value) (st : MkS) (l : List SymS) (t : ByteArray) (cells : Array Value) (w : World) (k : Nat) (lv : Value) (wr : World) : Prop :=
  Keep (ownB v) w wr ∧ MkAt S wr base m mb names pv lv st (l ++ (t.data.toList.take k).map byteSym) ∧ (∀ b ∈ ownB lv, b ∈ ownB v ∨ w.heap.size ≤ b) ∧ Blk wr w.heap.size cells 85
theorem MkAt.notPart {S : List Nat} {w : World} {base m mb : Nat} {names : List ByteArray} {pv v : Value} {st : MkS} {l : List SymS} (h : MkAt S w base m mb names pv v st l) {B : Nat} {cells : Array Value} {T : TypeId} (hB : Blk w B cells T) (hT : T ≠ 43) : B ∉ ownB v := by
  intro hb
  obtain ⟨cs, e⟩ := h.syms.type B hb
  have e2 : w.heap[B]? = some (.cells cells T (0, 0)) := hB
  rw [e] at e2
  simp only [Option.some.injEq, Obj.cells.injEq] at e2
  exact hT e2.2.1.symm
theorem take_snoc8 (s : ByteArray) (k : Nat) (h : k < s.size) : s.data.toList.take (k + 1) = s.data.toList.take k ++ [s[k]] := by
  rw [List.take_succ_eq_append_getElem (by simpa using h)]; rfl

set_option maxRecDepth 20000 in
set_option maxHeartbeats 4000000 in
theorem pieceText_any (S : List Nat) (base m mb : Nat) (names : List ByteArray) (pv v : Value) (st : MkS) (l : List SymS) (t : ByteArray) (r : List Rng) (ch : List PartS) (a : Int) (row : Array Value) (d : Nat) (w : World) (hN : l.length + t.size ≤ 1000000) (H : MkAt S w base m mb names pv v st l)
    (hp : PartAt (ownB pv ++ ownB v ++ S) w (.mk 1 t r ch a) row) :
    Calls Tryz.prog 103 #[.pointer (some ⟨m, 0, none⟩), v, .agg row] w (PiecePost S base m mb names pv v w (pieceF names (d + 1) st l (.mk 1 t r ch a))) := by
  cases hp with
  | mk _ _ _ _ _ rv lv rows hr hl hn hpp =>
    obtain ⟨A, C, rfl, _⟩ := hr
    obtain ⟨B, D, rfl, _⟩ := hl
    rw [List.length_map, hn]
    have hmf : ∀ (fn : Fn) (first cap : Array Value) (w : World), (Instr.makeFunc fn first cap).run Tryz.prog w = .ok (.func fn first cap) w := fun _ _ _ _ => rfl
    have K0 := (Keep.refl [] w).alloc (.cells #[.int .i64 1, .string t, .slice A r.length C, .slice B ch.length D, .int .i64 a] 85)
    have H0 := H.keep K0
    have B0 := Blk.new w #[.int .i64 1, .string t, .slice A r.length C, .slice B ch.length D, .int .i64 a] 85
    have hT0 : TextAt S base m mb names pv v st l t #[.int .i64 1, .string t, .slice A r.length C, .slice B ch.length D, .int .i64 a] w 0 v _ := ⟨K0.mono (by simp), by simpa using H0, fun b hb => .inl hb, B0⟩
    have HT0 := Lib.hid hT0
    clear hT0 hpp hn
    have hts : t.size ≤ 1000000 := by omega
    go_enter Tryz.func103, Tryz.ntmps103
    go_wp2
    go_loopw [1, 49] (fun lv i wr => ∃ k : Nat, k ≤ t.size ∧ i = .int .i64 k ∧ TextAt S base m mb names pv v st l t #[.int .i64 1, .string t, .slice A r.length C, .slice B ch.length D, .int .i64 a] w k lv wr) (fun _ i _ => t.size - (intOf i).toNat)
    case atStart => exact ⟨0, by omega, rfl, HT0.out⟩
    case round =>
      obtain ⟨k, hk, rfl, K1, H1, hov, B1⟩ := hrel
      have c1 := B1.cell 1
      simp at c1
      by_cases hlt : k < t.size
      · have hlt' : (k : Int) < (t.size : Int) := by omega
        have HLT := Lib.hid hlt
        have HTS := Lib.hid (take_snoc8 t k hlt)
        have hlen : (l ++ (t.data.toList.take k).map byteSym).length ≤ l.length + k := by simp; omega
        generalize hlk : l ++ (t.data.toList.take k).map byteSym = lk at H1 hlen
        have HLK := Lib.hid hlk; clear hlk HT0
        have hcb : t[k].toNat ≤ 255 := by have := t[k].toNat_lt; omega
        have Kc := (Keep.refl [] wr).alloc (.cells #[.int .i64 t[k].toNat, .int .i64 t[k].toNat] 97)
        have H2 := H1.keep Kc
        have hS0 : Rngs (ownB pv ++ ownB u1 ++ S) (wr.alloc (.cells #[.int .i64 t[k].toNat, .int .i64 t[k].toNat] 97)) (.slice (some ⟨wr.heap.size, 0, none⟩) 1 1) [⟨t[k].toNat, t[k].toNat⟩] :=
          Sl.of_blk (xs := [Rng.row ⟨t[k].toNat, t[k].toNat⟩]) 1 (Blk.new wr #[.int .i64 t[k].toNat, .int .i64 t[k].toNat] 97) (fun hb => by have := H1.all _ hb; omega) ⟨by simp, by simp⟩ (fun i hi => by
            obtain rfl : i = 0 := by simp at hi; omega
            exact ⟨rfl, fun j hj => by simp [Rng.row]⟩)
        go_wp2_with fail
        refine (symbol_any (ownB pv ++ ownB u1 ++ S) 0 _ [⟨t[k].toNat, t[k].toNat⟩] _ hS0 (by simp)).mono ?_
        rintro e w2 ⟨⟨srow, rfl, hs⟩, K2⟩
        have H3 := H2.keep K2
        have B3 := (B1.keep Kc (by simp)).keep K2 (by simp)
        have KF := Kc.trans K2
        have hs2 := hs (ownB u1 ++ (ownB pv ++ S)) (fun b hb => H2.all b (by simp at hb ⊢; rcases hb with h | h | h <;> simp [h]))
        obtain ⟨A2, C2, hv⟩ := H3.syms.slice
        subst hv
        have hs2' := hs2
        obtain ⟨A3, C3, rfl, _⟩ := hs2'
        have hsy := H3.syms
        obtain ⟨rows2, hlr, hown, hel⟩ := hsy
        obtain ⟨i0, hi0, hz0, hz1, hz2⟩ := info_parts info_sym
        have HEL := Lib.hid hel; clear hel
        simp only at hs2 hs ⊢
        clear hs hS0
        have hsz : w2.heap.size = w2.heap.size := rfl
        go_wp2_with (at_builtin; go_loud (refine wpList_append_lies _ rfl _ _ 44 rfl base 43 i0 (.agg #[.int .i64 0, .slice none 0 0, .int .i64 0]) 3 40 Tryz.underlying44 hi0 hz0 hz1 hz2 rfl (by decide) _ lk.length _ rfl (hown.alloc _) ⟨w2.heap.size, 0, none⟩ 1 1 [.int .i64 0, .slice A3 1 C3, .int .i64 0] rfl rfl (World.news_of_block (Blk.new' _ _ _ (by simp))) (by simp [Value.oneCell']) (by decide) (by unfold maxLen; omega) (by omega) (by have := H3.base; simp; omega) _ rfl ?_); intro g cap w5 O5 G5 W5 L5)
        have K3 := (Keep.refl [] w2).alloc (.cells #[.int .i64 0, .slice A3 1 C3, .int .i64 0] 43)
        have H4 := H3.keep K3
        have hx := symRow_stab _ _ (ownB (.slice A2 lk.length C2) ++ (ownB pv ++ S)) _ _ _ _ hs2 K3 (by simp) (fun x hx => .inl hx)
        have H5 := H4.push rows2 hlr (fun i hi hi' => ⟨(HEL.out i hi hi').1, symRow_stab _ _ _ _ _ _ _ (HEL.out i hi hi').2 K3 (by simp) (fun x hx => .inl hx)⟩) hx rfl O5 G5 W5
        have KG := Keep.ofGrown (v := .slice A2 lk.length C2) G5
        have W5' : (Value.slice A2 lk.length C2).ownBlock = some g ∨ g = (w2.alloc (.cells #[.int .i64 0, .slice A3 1 C3, .int .i64 0] 43)).heap.size := W5
        have hnp := H4.notPart (B3.keep K3 (by simp)) (by decide)
        have B5 := (B3.keep K3 (by simp)).keep KG hnp
        have KL := KF.trans K3
        go_roundw
        case rel =>
          refine ⟨k + 1, by have := HLT.out; omega, by go_num, ?_, ?_, fun b hb => ?_, B5⟩
          · exact (K1.then KL (by simp)).then KG hov
          · rw [HTS.out, List.map_append, ← List.append_assoc, HLK.out]
            exact H5
          · rcases own_new (S := []) W5' b (List.mem_append.2 (.inl hb)) with h | h
            · exact hov b (by simpa using h)
            · exact .inr (by have h1 := K1.size; have h2 := KL.size; simp at h2; simp at h; omega)
        case measure => simp [intOf]; have := HLT.out; omega
      · have hk' : k = t.size := by omega
        rw [hk', List.take_of_length_le (by simp)] at H1
        clear HT0
        go_wp2
        go_ret
        refine ⟨K1.mono (fun x hx => .inl (by simp [hx])), pv, u1, rfl, ?_, fun b hb => .inl hb, hov⟩
        simp [pieceF]
        exact H1
end Go.Proofs.YtbpidoiellcccaaGreatDoor
namespace Go.Proofs.YtbpidoiellcccaaGreatDoor
open Go Go.RowKit Go.MapKept

/-- How many symbols a part gives at most. -/
def wtF : Nat → PartS → Nat
  | 0, _ => 0
  | d + 1, .mk k t _ ch _ => if k = 1 then t.size else if k = 4 then (ch.map (wtF d)).sum else 1
def seqF (names : List ByteArray) (d : Nat) (ch : List PartS) (q : MkS × List SymS) : MkS × List SymS := ch.foldl (fun q x => if q.1.bad = none then pieceF names d q.1 q.2 x else q) q
theorem seqF_snoc (names : List ByteArray) (d : Nat) (ch : List PartS) (q : MkS × List SymS) (k : Nat) (h : k < ch.length) :
    seqF names d (ch.take (k + 1)) q = if (seqF names d (ch.take k) q).1.bad = none then pieceF names d (seqF names d (ch.take k) q).1 (seqF names d (ch.take k) q).2 ch[k] else seqF names d (ch.take k) q := by
  unfold seqF
  rw [List.take_succ_eq_append_getElem h, List.foldl_append]
  rfl
/-- What part does at one part, whatever has been made. -/
def PieceAt (S : List Nat) (base m mb : Nat) (names : List ByteArray) (d : Nat) (x : PartS) : Prop :=
  ∀ (pv v : Value) (st : MkS) (l : List SymS) (row : Array Value) (w : World), l.length + wtF d x ≤ 1000000 → MkAt S w base m mb names pv v st l → PartAt (ownB pv ++ ownB v ++ S) w x row →
    Calls Tryz.prog 103 #[.pointer (some ⟨m, 0, none⟩), v, .agg row] w (PiecePost S base m mb names pv v w (pieceF names d st l x)) ∧ (pieceF names d st l x).2.length ≤ l.length + wtF d x
/-- The head of a round of the loop over the parts. -/
def FSeqAt (S : List Nat) (base m mb : Nat) (names : List ByteArray) (pv v : Value) (q : MkS × List SymS) (ch : List PartS) (cv : Value) (rest : Nat) (w : World) (lv : Value) (wr : World) : Prop :=
  ∃ pvk, Keep (m :: (ownB pv ++ ownB v)) w wr ∧ MkAt S wr base m mb names pvk lv q.1 q.2 ∧ q.2.length + rest ≤ 1000000 ∧ (∀ b ∈ ownB pvk, b ∈ ownB pv ∨ w.heap.size ≤ b) ∧ (∀ b ∈ ownB lv, b ∈ ownB v ∨ w.heap.size ≤ b) ∧ SlOf PartAt (ownB pvk ++ ownB lv ++ S) wr 5 cv ch
theorem sum_drop (f : PartS → Nat) (l : List PartS) (k : Nat) (h : k < l.length) : ((l.drop k).map f).sum = f l[k] + ((l.drop (k + 1)).map f).sum := by
  rw [List.drop_eq_getElem_cons h]
  simp only [List.map_cons, List.sum_cons]

set_option maxRecDepth 20000 in
set_option maxHeartbeats 4000000 in
theorem pieceSeq_any (S : List Nat) (base m mb : Nat) (names : List ByteArray) (pv v : Value) (st : MkS) (l : List SymS) (t : ByteArray) (r : List Rng) (ch : List PartS) (a : Int) (row : Array Value) (d : Nat) (w : World) (ih : ∀ x ∈ ch, PieceAt S base m mb names d x)
    (hN : l.length + (ch.map (wtF d)).sum ≤ 1000000) (H : MkAt S w base m mb names pv v st l) (hp : PartAt (ownB pv ++ ownB v ++ S) w (.mk 4 t r ch a) row) :
    Calls Tryz.prog 103 #[.pointer (some ⟨m, 0, none⟩), v, .agg row] w (PiecePost S base m mb names pv v w (pieceF names (d + 1) st l (.mk 4 t r ch a))) := by
  have hgoal : pieceF names (d + 1) st l (.mk 4 t r ch a) = seqF names d ch (st, l) := by simp [pieceF, seqF]
  rw [hgoal]
  clear hgoal
  cases hp with
  | mk _ _ _ _ _ rv lv rows hr hl hn hpp =>
    have hch : SlOf PartAt (ownB pv ++ ownB v ++ S) w 5 lv ch := ⟨rows, hl, hn, hpp⟩
    obtain ⟨A, C, rfl, _⟩ := hr
    obtain ⟨B, D, rfl, _⟩ := hl
    rw [List.length_map]
    rw [hn] at hch ⊢
    have hmf : ∀ (fn : Fn) (first cap : Array Value) (w : World), (Instr.makeFunc fn first cap).run Tryz.prog w = .ok (.func fn first cap) w := fun _ _ _ _ => rfl
    have K0 := (Keep.refl [] w).alloc (.cells #[.int .i64 4, .string t, .slice A r.length C, .slice B ch.length D, .int .i64 a] 85)
    have H0 := H.keep K0
    have hch0 : SlOf PartAt (ownB pv ++ ownB v ++ S) _ 5 (.slice B ch.length D) ch := SlOf.move hch partAt_stab (by omega) K0 (by simp) (fun x hx => .inl hx)
    have hT0 : FSeqAt S base m mb names pv v (seqF names d (ch.take 0) (st, l)) ch (.slice B ch.length D) ((ch.drop 0).map (wtF d)).sum w v _ := ⟨pv, K0.mono (by simp), by simpa [seqF] using H0, by simpa [seqF] using hN, fun b hb => .inl hb, fun b hb => .inl hb, hch0⟩
    have HT0 := Lib.hid hT0
    obtain ⟨_, _, hveq, hlen, _⟩ := SlOf.at hch0
    have hlen2 : ch.length ≤ 9223372036854775807 := hlen.1
    have IH := Lib.hid ih
    clear hT0 hpp hn hlen hveq hch0 hch H0 K0 H ih
    go_enter Tryz.func103, Tryz.ntmps103
    go_wp2
    go_loopw [1, 88] (fun lv i wr => ∃ k : Nat, k ≤ ch.length ∧ i = .int .i64 k ∧ FSeqAt S base m mb names pv v (seqF names d (ch.take k) (st, l)) ch (.slice B ch.length D) ((ch.drop k).map (wtF d)).sum w lv wr) (fun _ i _ => ch.length - (intOf i).toNat)
    case atStart => exact ⟨0, by omega, rfl, HT0.out⟩
    case round =>
      obtain ⟨k, hk, rfl, pvk, K1, H1, hN1, hop, hov, hc1⟩ := hrel
      clear HT0
      by_cases hlt : k < ch.length
      · have hlt' : (k : Int) < (ch.length : Int) := by omega
        have HLT := Lib.hid hlt
        obtain ⟨_, _, hveq, _, hc2⟩ := SlOf.at hc1
        simp only [Value.slice.injEq, true_and] at hveq
        obtain ⟨rfl, rfl⟩ := hveq
        obtain ⟨b, o, rfl, hb, hc⟩ := hc2 (by omega)
        obtain ⟨prow, hz, hcell, hR⟩ := hc k hlt
        have hR' := hR
        obtain ⟨k', t', A', n', C', B', m', D', a', rfl, hk', ha'⟩ := PartAt.form hR'
        have e0 := hcell 0 (by omega)
        have e1 := hcell 1 (by omega)
        have e2 := hcell 2 (by omega)
        have e3 := hcell 3 (by omega)
        have e4 := hcell 4 (by omega)
        clear hcell hc2 hc hR' hk' ha' hz
        simp at e0 e1 e2 e3 e4
        have KA := (Keep.refl [] wr).alloc (.cells #[.int .i64 k', .string t', .slice A' n' C', .slice B' m' D', .int .i64 a'] 85)
        have H2 := H1.keep KA
        have H2' := H2.box
        obtain ⟨bv, hB, hbad⟩ := H2'
        have c2 := hB.cell 2
        have c2' : (wr.alloc (.cells #[.int .i64 k', .string t', .slice A' n' C', .slice B' m' D', .int .i64 a'] 85)).cell? ⟨m, 2, none⟩ = some bv := c2
        clear c2
        have IH2 := IH.out ch[k] (List.getElem_mem _)
        generalize hq : seqF names d (ch.take k) (st, l) = q at H1 H2 hbad hN1
        obtain ⟨q1, q2⟩ := q
        have HQ := Lib.hid hq; clear hq
        cases hbd : q1.bad with
        | some x =>
          rw [hbd] at hbad
          obtain ⟨bb, rfl, _, _⟩ := hbad
          have hqq : ∀ (b : Nat) (w : World), (binOp .eql 91 (.pointer (some ⟨b, 0, none⟩)) (.pointer none)).run Tryz.prog w = .ok (.bool false) w := fun _ _ => by kernel_rfl
          go_wp2
          go_roundw
          case rel =>
            refine ⟨k + 1, by have := HLT.out; omega, by go_num, pvk, K1.trans (KA.mono (by simp)), ?_, ?_, hop, hov, SlOf.move hc1 partAt_stab (by omega) KA (by simp) (fun x hx => .inl hx)⟩
            · rw [seqF_snoc _ _ _ _ _ HLT.out, HQ.out, if_neg (by simp [hbd])]; exact H2
            · rw [seqF_snoc _ _ _ _ _ HLT.out, HQ.out, if_neg (by simp [hbd])]
              have := sum_drop (wtF d) ch k HLT.out
              simp only at hN1 ⊢; omega
          case measure => simp [intOf]; have := HLT.out; omega
        | none =>
          rw [hbd] at hbad
          have hbv : bv = .pointer none := hbad
          subst hbv
          have hqq : ∀ (w : World), (binOp .eql 91 (.pointer none) (.pointer none)).run Tryz.prog w = .ok (.bool true) w := fun _ => by kernel_rfl
          have hsd := sum_drop (wtF d) ch k HLT.out
          have hpr : PartAt (ownB pvk ++ ownB u1 ++ S) (wr.alloc (.cells #[.int .i64 k', .string t', .slice A' n' C', .slice B' m' D', .int .i64 a'] 85)) ch[k] _ := partAt_stab _ _ _ _ _ _ _ hR KA (by simp) (fun x hx => .inl hx)
          obtain ⟨hcall, hwt⟩ := IH2 pvk u1 q1 q2 _ _ (by simp only at hN1; omega) H2 hpr
          have HC := Lib.hid hcall; clear hcall
          have HSD := Lib.hid hsd; clear hsd
          have HBD := Lib.hid hbd; clear hbd IH2 hpr
          go_wp2_with fail
          refine HC.out.mono ?_
          rintro e w3 ⟨K3, pv3, v3, rfl, H3, hp3, hv3⟩
          have KN := (KA.mono (S' := m :: (ownB pvk ++ ownB u1)) (by simp)).trans K3
          clear HC
          go_wp2
          go_roundw
          case rel =>
            have hsz := K1.size
            have hsz2 := KA.size
            refine ⟨k + 1, by have := HLT.out; omega, by go_num, pv3, K1.then KN (fun x hx => ?_), ?_, ?_, fun x hx => ?_, fun x hx => ?_, SlOf.move hc1 partAt_stab (by omega) KN (fun x hx => ?_) (fun x hx => ?_)⟩
            · rcases List.mem_cons.1 hx with rfl | hx
              · exact .inl (by simp)
              · rcases List.mem_append.1 hx with hx | hx
                · rcases hop x hx with h | h
                  · exact .inl (by simp [h])
                  · exact .inr h
                · rcases hov x hx with h | h
                  · exact .inl (by simp [h])
                  · exact .inr h
            · rw [seqF_snoc _ _ _ _ _ HLT.out, HQ.out, if_pos HBD.out]; exact H3
            · rw [seqF_snoc _ _ _ _ _ HLT.out, HQ.out, if_pos HBD.out]
              have := HSD.out
              simp only at hN1 hwt ⊢; omega
            · rcases hp3 x hx with h | h
              · exact hop x h
              · exact .inr (by omega)
            · rcases hv3 x hx with h | h
              · exact hov x h
              · exact .inr (by omega)
            · rcases List.mem_cons.1 hx with rfl | hx
              · exact .inl (by simp [H1.inS])
              · exact .inl (by simp at hx ⊢; rcases hx with h | h <;> simp [h])
            · rcases List.mem_append.1 hx with hx | hx
              · rcases List.mem_append.1 hx with hx | hx
                · rcases hp3 x hx with h | h
                  · exact .inl (by simp [h])
                  · exact .inr (by omega)
                · rcases hv3 x hx with h | h
                  · exact .inl (by simp [h])
                  · exact .inr (by omega)
              · exact .inl (by simp [hx])
          case measure => simp [intOf]; have := HLT.out; omega
      · have hk' : k = ch.length := by omega
        rw [hk', List.take_length] at H1
        clear hc1
        go_wp2
        go_ret
        exact ⟨K1, pvk, u1, rfl, H1, hop, hov⟩
end Go.Proofs.YtbpidoiellcccaaGreatDoor
namespace Go.Proofs.YtbpidoiellcccaaGreatDoor
open Go Go.RowKit Go.MapKept

/-- Names, texts, sets, and such parts one behind the other. -/
def okF : Nat → PartS → Bool
  | 0, _ => false
  | d + 1, .mk k _ r ch _ => k == 0 || k == 1 || ((k == 2 || k == 3) && decide (r.length ≤ 1000000)) || (k == 4 && ch.all (okF d))
theorem seqF_len (names : List ByteArray) (d : Nat) (ch : List PartS) (h : ∀ x ∈ ch, ∀ st l, (pieceF names d st l x).2.length ≤ l.length + wtF d x) : ∀ q : MkS × List SymS, (seqF names d ch q).2.length ≤ q.2.length + (ch.map (wtF d)).sum := by
  induction ch with
  | nil => intro q; simp [seqF]
  | cons x ch ih =>
    intro q
    have e : seqF names d (x :: ch) q = seqF names d ch (if q.1.bad = none then pieceF names d q.1 q.2 x else q) := rfl
    rw [e]
    have h1 := ih (fun y hy => h y (List.mem_cons_of_mem _ hy)) (if q.1.bad = none then pieceF names d q.1 q.2 x else q)
    have h2 := h x List.mem_cons_self q.1 q.2
    simp only [List.map_cons, List.sum_cons]
    split at h1
    · rename_i hh; rw [if_pos hh]; omega
    · rename_i hh; rw [if_neg hh]; omega
theorem pieceF_len (names : List ByteArray) : ∀ (d : Nat) (x : PartS) (st : MkS) (l : List SymS), (pieceF names d st l x).2.length ≤ l.length + wtF d x
  | 0, x, st, l => by simp [pieceF, wtF]
  | d + 1, .mk k t r ch a, st, l => by
    by_cases h0 : k = 0
    · subst h0
      simp only [pieceF, wtF, if_true]
      cases nameAt names t with
      | none => simp
      | some n => simp
    by_cases h1 : k = 1
    · subst h1; simp [pieceF, wtF]
    by_cases h2 : k = 2
    · subst h2; simp [pieceF, wtF]
    by_cases h3 : k = 3
    · subst h3; simp [pieceF, wtF]
    by_cases h4 : k = 4
    · subst h4
      have := seqF_len names d ch (fun x _ st l => pieceF_len names d x st l) (st, l)
      simp only [seqF] at this
      simpa [pieceF, wtF] using this
    · simp only [pieceF, wtF, h0, h1, h2, h3, h4, if_false]
      split
      · simp
      · simp
theorem piece_ok (S : List Nat) (base m mb : Nat) (names : List ByteArray) : ∀ (d : Nat) (x : PartS), okF d x = true → PieceAt S base m mb names d x
  | 0, x, h => by simp [okF] at h
  | d + 1, .mk k t r ch a, h => by
    intro pv v st l row w hN H hp
    refine ⟨?_, pieceF_len names _ _ st l⟩
    simp only [okF, Bool.or_eq_true, Bool.and_eq_true, beq_iff_eq, decide_eq_true_eq, List.all_eq_true] at h
    rcases h with ((rfl | rfl) | ⟨rfl | rfl, hr⟩) | ⟨rfl, hc⟩
    · exact pieceCall_any S base m mb names pv v st l t r ch a row d w (by simp [wtF] at hN; omega) H hp
    · exact pieceText_any S base m mb names pv v st l t r ch a row d w (by simpa [wtF] using hN) H hp
    · exact pieceSet_any S base m mb names pv v st l t r ch a row d w (by simp [wtF] at hN; omega) hr H hp
    · exact pieceOcts_any S base m mb names pv v st l t r ch a row d w (by simp [wtF] at hN; omega) hr H hp
    · exact pieceSeq_any S base m mb names pv v st l t r ch a row d w (fun x hx => piece_ok S base m mb names d x (hc x hx)) (by simpa [wtF] using hN) H hp
end Go.Proofs.YtbpidoiellcccaaGreatDoor
