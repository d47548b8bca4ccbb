/- The reader's makers of parts: one, often, plain. -/
import Derived.Test.YtacihjabkiedcaaGreatDoorG4
import Derived.IntWalk
import Derived.Deep.RegionHeld3
set_option linter.unusedVariables false
set_option linter.unusedSimpArgs false
namespace Go.Proofs.YtacihjabkiedcaaGreatDoor
open Go Go.RowKit

def partZ : Array Value := #[.int .i64 0, .string { data := #[] }, .slice none 0 0, .slice none 0 0, .int .i64 0]
/-- The first row of a slice of parts. -/
theorem Parts.head {S : List Nat} {w : World} {v : Value} {p : PartS} {l : List PartS} (h : SlOf PartAt S w 5 v (p :: l)) : ∃ b o c k t A n C B m D a, v = .slice (some ⟨b, o, none⟩) (l.length + 1) c ∧ (k = p.k ∧ a = p.a) ∧
    w.cell? ⟨b, o, none⟩ = some (.int .i64 k) ∧ w.cell? ⟨b, o + 1, none⟩ = some (.string t) ∧ w.cell? ⟨b, o + 2, none⟩ = some (.slice A n C) ∧ w.cell? ⟨b, o + 3, none⟩ = some (.slice B m D) ∧ w.cell? ⟨b, o + 4, none⟩ = some (.int .i64 a) ∧
    PartAt S w p #[.int .i64 k, .string t, .slice A n C, .slice B m D, .int .i64 a] := by
  obtain ⟨a, c, rfl, hm, hr⟩ := SlOf.at h
  obtain ⟨b, o, rfl, hb, hc⟩ := hr (by simp)
  obtain ⟨row, hz, hcell, hR⟩ := hc 0 (by simp)
  have hR' : PartAt S w p row := hR
  obtain ⟨k, t, A, n, C, B, m, D, a, rfl, h1, h2⟩ := PartAt.form hR'
  have e0 := hcell 0 (by omega)
  have e1 := hcell 1 (by omega)
  have e2 := hcell 2 (by omega)
  have e3 := hcell 3 (by omega)
  have e4 := hcell 4 (by omega)
  simp only [Nat.zero_mul, Nat.add_zero] at e0 e1 e2 e3 e4
  exact ⟨b, o, c, k, t, A, n, C, B, m, D, a, rfl, ⟨h1, h2⟩, e0, e1, e2, e3, e4, hR'⟩

set_option maxRecDepth 20000 in
set_option maxHeartbeats 2000000 in
theorem one_any (S : List Nat) (k a : Int) (v : Value) (l : List PartS) (w : World) (H : SlOf PartAt S w 5 v l) :
    Calls Tryz.prog 121 #[.int .i64 k, .int .i64 a, v] w fun e w' => (∃ row, e = .returned (.agg row) ∧ PartAt S w' (oneR k a l) row) ∧ Keep [] w w' := by
  have K0 := (Keep.refl [] w).alloc (.cells partZ 98)
  have H1 : SlOf PartAt S (w.alloc (.cells partZ 98)) 5 v l := SlOf.move H partAt_stab (by omega) K0 (by simp) (fun x hx => .inl hx)
  have fin : ∀ (A : Option Addr) (C : Nat), v = .slice A l.length C → (∃ row, (Ending.returned (.agg #[.int .i64 k, .string { data := #[] }, .slice none 0 0, .slice A l.length C, .int .i64 a]) : Ending) = .returned (.agg row) ∧ PartAt S (w.alloc (.cells #[.int .i64 k, .string { data := #[] }, .slice none 0 0, .slice A l.length C, .int .i64 a] 98)) (.mk k ⟨#[]⟩ [] l a) row) ∧ Keep [] w (w.alloc (.cells #[.int .i64 k, .string { data := #[] }, .slice none 0 0, .slice A l.length C, .int .i64 a] 98)) := fun A C e =>
    ⟨⟨_, rfl, PartAt.of (Sl.nil _ _ _) (SlOf.move (e ▸ H) partAt_stab (by omega) ((Keep.refl [] w).alloc _) (by simp) (fun x hx => .inl hx))⟩, (Keep.refl _ _).alloc _⟩
  have FIN := Lib.hid fin; clear fin
  match l, H, H1, FIN with
  | [], H, H1, FIN =>
    obtain ⟨A, C, rfl, _⟩ := SlOf.at H
    have hb : (((0 : Nat) : Int) == 1) = false := rfl
    go_enter Tryz.func121, Tryz.ntmps121
    go_wp2
    exact bodyPost_ret (v := .agg #[.int .i64 k, .string { data := #[] }, .slice none 0 0, .slice A 0 C, .int .i64 a]) (by simp [results, Tryz.results121, go_sem]) rfl (FIN.out A C rfl)
  | [p], H, H1, FIN =>
    clear FIN
    obtain ⟨B, o, c, k', t, A', n', C', B', m', D', a', hv, hka, c0, c1, c2, c3, c4, hp⟩ := Parts.head H
    clear hka
    rw [show ([] : List PartS).length + 1 = 1 from rfl] at hv
    subst hv
    have c0 := K0.cell c0 (by simp)
    have c1 := K0.cell c1 (by simp)
    have c2 := K0.cell c2 (by simp)
    have c3 := K0.cell c3 (by simp)
    have c4 := K0.cell c4 (by simp)
    unfold partZ at c0 c1 c2 c3 c4
    go_enter Tryz.func121, Tryz.ntmps121
    go_wp2
    exact bodyPost_ret (v := .agg #[.int .i64 k', .string t, .slice A' n' C', .slice B' m' D', .int .i64 a']) (by simp [results, Tryz.results121, go_sem]) rfl ⟨⟨_, rfl, partAt_stab _ _ _ _ _ _ _ hp ((Keep.refl [] w).alloc _) (by simp) (fun x hx => .inl hx)⟩, (Keep.refl _ _).alloc _⟩
  | p :: q :: l, H, H1, FIN =>
    obtain ⟨A, C, rfl, _⟩ := SlOf.at H
    have hb : ((l.length : Int) + 1 + 1 == 1) = false := by simp; omega
    go_enter Tryz.func121, Tryz.ntmps121
    go_wp2
    exact bodyPost_ret (v := .agg #[.int .i64 k, .string { data := #[] }, .slice none 0 0, .slice A (l.length + 1 + 1) C, .int .i64 a]) (by simp [results, Tryz.results121, go_sem]) rfl (FIN.out A C rfl)

/-- The five stores of a struct of five cells. -/
def set5 (w : World) (b : Nat) (x0 x1 x2 x3 x4 : Value) : World := ((((w.setCell ⟨b, 0, none⟩ x0).setCell ⟨b, 1, none⟩ x1).setCell ⟨b, 2, none⟩ x2).setCell ⟨b, 3, none⟩ x3).setCell ⟨b, 4, none⟩ x4
theorem Keep.set5 {S : List Nat} {a w : World} (h : Keep S a w) {b : Nat} (hp : b ∈ S ∨ a.heap.size ≤ b) (x0 x1 x2 x3 x4 : Value) : Keep S a (Proofs.YtacihjabkiedcaaGreatDoor.set5 w b x0 x1 x2 x3 x4) :=
  ((((h.setCell (p := ⟨b, 0, none⟩) hp _).setCell (p := ⟨b, 1, none⟩) hp _).setCell (p := ⟨b, 2, none⟩) hp _).setCell (p := ⟨b, 3, none⟩) hp _).setCell (p := ⟨b, 4, none⟩) hp _
theorem Blk.set5 {w : World} {b : Nat} {y0 y1 y2 y3 y4 : Value} {T : TypeId} (h : Blk w b #[y0, y1, y2, y3, y4] T) (x0 x1 x2 x3 x4 : Value) : Blk (Proofs.YtacihjabkiedcaaGreatDoor.set5 w b x0 x1 x2 x3 x4) b #[x0, x1, x2, x3, x4] T := by
  simpa [Proofs.YtacihjabkiedcaaGreatDoor.set5] using ((((h.set 0 x0).set 1 x1).set 2 x2).set 3 x3).set 4 x4
theorem size_set5 (w : World) (b : Nat) (x0 x1 x2 x3 x4 : Value) : (Proofs.YtacihjabkiedcaaGreatDoor.set5 w b x0 x1 x2 x3 x4).heap.size = w.heap.size := by simp [Proofs.YtacihjabkiedcaaGreatDoor.set5, World.setCell]

/-- Which signs tell how often: the sign, and the kind. -/
def oftT : Array Value := #[.string { data := #[42] }, .int .i64 6, .string { data := #[43] }, .int .i64 7, .string { data := #[63] }, .int .i64 8]
/-- What the walk of often knows at the head of a round. -/
def OftAt (S : List Nat) (b : Nat) (ts : List TokS) (n deep : Int) (p : PartS) (row : Array Value) (w : World) (i : Value) (wr : World) : Prop :=
  ∃ k : Nat, k ≤ 3 ∧ i = .int .i64 k ∧ Blk wr w.heap.size row 98 ∧ Blk wr (w.heap.size + 1) partZ 98 ∧ Blk wr (w.heap.size + 2) oftT 211 ∧
    Rdr ((w.heap.size + 1) :: S) wr b ts n deep ∧ PartAt ((w.heap.size + 1) :: S) wr p row ∧ Keep [b] w wr ∧ Hid ((0 < k → isR 4 (sg 42) ts = false) ∧ (1 < k → isR 4 (sg 43) ts = false) ∧ (2 < k → isR 4 (sg 63) ts = false))

theorem often_fin {S : List Nat} {b : Nat} {ts : List TokS} {n deep : Int} {p : PartS} {row : Array Value} {w w2 : World} {B2 : Nat} (k : Int) (hS : b ∈ S) (hSl : ∀ x ∈ S, x < w.heap.size) (R2 : Rdr (B2 :: S) w2 b ts n deep) (hp : PartAt (B2 :: S) w2 p row) (K : Keep [b] w w2) (hB : w.heap.size ≤ B2) (hBb : b ≠ B2) :
    PartAt S ((set5 w2 B2 (.int .i64 k) (.string { data := #[] }) (.slice none 0 0) (.slice (some ⟨w2.heap.size, 0, none⟩) 1 1) (.int .i64 p.a)).alloc (.cells row 98)) (.mk k ⟨#[]⟩ [] [p] p.a) #[.int .i64 k, .string { data := #[] }, .slice none 0 0, .slice (some ⟨w2.heap.size, 0, none⟩) 1 1, .int .i64 p.a] ∧
    Rdr S ((set5 w2 B2 (.int .i64 k) (.string { data := #[] }) (.slice none 0 0) (.slice (some ⟨w2.heap.size, 0, none⟩) 1 1) (.int .i64 p.a)).alloc (.cells row 98)) b ts n deep ∧
    Keep [b] w ((set5 w2 B2 (.int .i64 k) (.string { data := #[] }) (.slice none 0 0) (.slice (some ⟨w2.heap.size, 0, none⟩) 1 1) (.int .i64 p.a)).alloc (.cells row 98)) := by
  have hBS : B2 ∉ S := fun h => by have := hSl _ h; omega
  have hw2 : w2.heap.size ∉ S := fun h => by have := hSl _ h; have := K.size; omega
  have K5 : Keep [B2] w2 ((set5 w2 B2 (.int .i64 k) (.string { data := #[] }) (.slice none 0 0) (.slice (some ⟨w2.heap.size, 0, none⟩) 1 1) (.int .i64 p.a)).alloc (.cells row 98)) := ((Keep.refl _ _).set5 (by simp) _ _ _ _ _).alloc _
  have hS5 : ∀ x ∈ S, x ∈ B2 :: S ∨ w2.heap.size ≤ x := fun x hx => .inl (by simp [hx])
  have hp5 := partAt_stab _ _ S _ _ _ _ hp K5 (by simp) hS5
  refine ⟨PartAt.of (Sl.nil _ _ _) ⟨[row], Sl.of_blk (xs := [row]) 1 (Blk.new' _ _ _ (by rw [size_set5])) hw2 ⟨by simp, by simp⟩ (fun i hi => ?_), rfl, fun i hi hi' => ?_⟩, R2.move K5 (fun x hx => .inl ?_) hS5, (((K.mono (S' := [b]) (fun k hk => .inl hk)).set5 (b := B2) (.inr hB) _ _ _ _ _).alloc _)⟩
  · obtain rfl : i = 0 := by simpa using hi
    exact ⟨hp.size, fun j hj => by simp⟩
  · obtain rfl : i = 0 := by simpa using hi
    exact hp5
  · simp at hx
    subst hx
    exact ⟨by simp, fun h => hBb h.symm⟩

set_option maxRecDepth 20000 in
set_option maxHeartbeats 4000000 in
theorem often_any (S : List Nat) (b : Nat) (ts : List TokS) (n deep : Int) (p : PartS) (row : Array Value) (w : World) (H : Rdr S w b ts n deep) (hS : b ∈ S) (hSl : ∀ x ∈ S, x < w.heap.size) (hp : PartAt S w p row) :
    Calls Tryz.prog 150 #[.pointer (some ⟨b, 0, none⟩), .agg row] w fun e w' => (∃ row', e = .returned (.agg row') ∧ PartAt S w' (oftenR p ts).1 row') ∧ Rdr S w' b (oftenR p ts).2 n deep ∧ Keep [b] w w' := by
  have hp' := hp
  obtain ⟨k, t, A, m, C, B, m', D, a, hrow, rfl, rfl⟩ := PartAt.form hp'
  subst hrow
  have hst : OftAt S b ts n deep p #[.int .i64 p.k, .string t, .slice A m C, .slice B m' D, .int .i64 p.a] w (.int .i64 0) (((w.alloc (.cells #[.int .i64 p.k, .string t, .slice A m C, .slice B m' D, .int .i64 p.a] 98)).alloc (.cells partZ 98)).alloc (.cells oftT 211)) := by
    have K0 : Keep [] w (((w.alloc (.cells #[.int .i64 p.k, .string t, .slice A m C, .slice B m' D, .int .i64 p.a] 98)).alloc (.cells partZ 98)).alloc (.cells oftT 211)) := (((Keep.refl _ _).alloc _).alloc _).alloc _
    refine ⟨0, by omega, rfl, ((Blk.new _ _ _).alloc _).alloc _, (Blk.new' _ _ _ (by simp)).alloc _, Blk.new' _ _ _ (by simp), H.move K0 (by simp) (fun x hx => by rcases List.mem_cons.1 hx with rfl | h; exact .inr (by omega); exact .inl h), partAt_stab _ _ _ _ _ _ _ hp K0 (by simp) (fun x hx => by rcases List.mem_cons.1 hx with rfl | h; exact .inr (by omega); exact .inl h), K0.mono (by simp), ?_⟩
    exact ⟨fun h => by omega, fun h => by omega, fun h => by omega⟩
  have HST := Lib.hid hst; clear hst
  have hblt := H.lt
  go_enter Tryz.func150, Tryz.ntmps150
  go_wp2
  go_loopw [12] (fun i wr => OftAt S b ts n deep p #[.int .i64 p.k, .string t, .slice A m C, .slice B m' D, .int .i64 p.a] w i wr) (fun i _ => 3 - (intOf i).toNat)
  case atStart => exact HST.out
  case round =>
    clear HST
    obtain ⟨k, hk, rfl, B1, B2, B3, Hr, hpr, Kr, hn⟩ := hrel
    have c1 := B1.cell
    have c2 := B2.cell
    have c3 := B3.cell
    have f2 := B2.frozen
    unfold partZ at c2
    unfold oftT at c3
    have hb1 := B1.lt
    have hb2 := B2.lt
    have hb3 := B3.lt
    have hk4 : k = 0 ∨ k = 1 ∨ k = 2 ∨ k = 3 := by omega
    rcases hk4 with rfl | rfl | rfl | rfl
    · go_wp2_with fail
      refine (sign2_any ((w.heap.size + 1) :: S) b ts n deep (sg 42) _ (Hr.move ((Keep.refl [] _).alloc _) (by simp) (fun x hx => .inl hx)) (by simp [hS])).mono ?_
      rintro e w2 ⟨rfl, R2, K2⟩
      have K3 : Keep [b] wr w2 := ((Keep.refl [b] _).alloc _).trans K2
      have C1 := B1.keep K3 (by simp; omega)
      have C2 := B2.keep K3 (by simp; omega)
      have C3 := B3.keep K3 (by simp; omega)
      have e1 := C1.lt
      have e2 := C2.lt
      have d1 := C1.cell
      have d2 := C2.cell
      have f2 := C2.frozen
      have b2 := (Blk.new wr #[.string { data := #[42] }, .int .i64 6] 211).keep K2 (by simp; omega)
      have d4 := b2.cell
      unfold partZ at d2
      have hp2 := partAt_stab _ _ _ _ _ _ _ hpr K3 (by simp [hS]) (fun x hx => .inl hx)
      cases hi : isR 4 (sg 42) ts
      · rw [hi] at R2
        simp only [Bool.false_eq_true, if_false] at R2
        have hn' := hn.out
        go_wp2
        clear hn
        refine ⟨⟨0 + 1, by omega, rfl, C1, C2, C3, R2, hp2, Kr.trans K3, ?_⟩, by simp [intOf]⟩
        exact ⟨fun _ => hi, fun h => by omega, fun h => by omega⟩
      · rw [hi] at R2
        simp only [if_true] at R2
        have hof : oftenR p ts = (.mk 6 ⟨#[]⟩ [] [p] p.a, ts.tail) := by
          have hn' := hn.out
          unfold oftenR
          rw [if_pos hi]
        have HOF := Lib.hid hof; clear hof
        have fin := often_fin 6 hS hSl R2 hp2 (Kr.trans K3) (show w.heap.size ≤ w.heap.size + 1 by omega) (by omega)
        have FIN := Lib.hid fin; clear fin
        have BF := (C2.set5 (.int .i64 6) (.string { data := #[] }) (.slice none 0 0) (.slice (some ⟨w2.heap.size, 0, none⟩) 1 1) (.int .i64 p.a)).alloc (.cells #[.int .i64 p.k, .string t, .slice A m C, .slice B m' D, .int .i64 p.a] 98)
        have cF := BF.cell
        unfold set5 at cF
        have CF := Lib.hid cF; clear cF BF
        go_wp2
        have cF := CF.out
        refine bodyPost_ret (v := .agg #[.int .i64 6, .string { data := #[] }, .slice none 0 0, .slice (some ⟨w2.heap.size, 0, none⟩) 1 1, .int .i64 p.a]) (by simp [results, Tryz.results150, go_sem, cF]) rfl ?_
        rw [HOF.out]
        exact ⟨⟨_, rfl, FIN.out.1⟩, FIN.out.2⟩
    · go_wp2_with fail
      refine (sign2_any ((w.heap.size + 1) :: S) b ts n deep (sg 43) _ (Hr.move ((Keep.refl [] _).alloc _) (by simp) (fun x hx => .inl hx)) (by simp [hS])).mono ?_
      rintro e w2 ⟨rfl, R2, K2⟩
      have K3 : Keep [b] wr w2 := ((Keep.refl [b] _).alloc _).trans K2
      have C1 := B1.keep K3 (by simp; omega)
      have C2 := B2.keep K3 (by simp; omega)
      have C3 := B3.keep K3 (by simp; omega)
      have e1 := C1.lt
      have e2 := C2.lt
      have d1 := C1.cell
      have d2 := C2.cell
      have f2 := C2.frozen
      have b2 := (Blk.new wr #[.string { data := #[43] }, .int .i64 7] 211).keep K2 (by simp; omega)
      have d4 := b2.cell
      unfold partZ at d2
      have hp2 := partAt_stab _ _ _ _ _ _ _ hpr K3 (by simp [hS]) (fun x hx => .inl hx)
      cases hi : isR 4 (sg 43) ts
      · rw [hi] at R2
        simp only [Bool.false_eq_true, if_false] at R2
        have hn' := hn.out
        go_wp2
        clear hn
        refine ⟨⟨1 + 1, by omega, rfl, C1, C2, C3, R2, hp2, Kr.trans K3, ?_⟩, by simp [intOf]⟩
        exact ⟨fun _ => hn'.1 (by omega), fun _ => hi, fun h => by omega⟩
      · rw [hi] at R2
        simp only [if_true] at R2
        have hof : oftenR p ts = (.mk 7 ⟨#[]⟩ [] [p] p.a, ts.tail) := by
          have hn' := hn.out
          unfold oftenR
          rw [if_neg (by rw [hn'.1 (by omega)]; simp), if_pos hi]
        have HOF := Lib.hid hof; clear hof
        have fin := often_fin 7 hS hSl R2 hp2 (Kr.trans K3) (show w.heap.size ≤ w.heap.size + 1 by omega) (by omega)
        have FIN := Lib.hid fin; clear fin
        have BF := (C2.set5 (.int .i64 7) (.string { data := #[] }) (.slice none 0 0) (.slice (some ⟨w2.heap.size, 0, none⟩) 1 1) (.int .i64 p.a)).alloc (.cells #[.int .i64 p.k, .string t, .slice A m C, .slice B m' D, .int .i64 p.a] 98)
        have cF := BF.cell
        unfold set5 at cF
        have CF := Lib.hid cF; clear cF BF
        go_wp2
        have cF := CF.out
        refine bodyPost_ret (v := .agg #[.int .i64 7, .string { data := #[] }, .slice none 0 0, .slice (some ⟨w2.heap.size, 0, none⟩) 1 1, .int .i64 p.a]) (by simp [results, Tryz.results150, go_sem, cF]) rfl ?_
        rw [HOF.out]
        exact ⟨⟨_, rfl, FIN.out.1⟩, FIN.out.2⟩
    · go_wp2_with fail
      refine (sign2_any ((w.heap.size + 1) :: S) b ts n deep (sg 63) _ (Hr.move ((Keep.refl [] _).alloc _) (by simp) (fun x hx => .inl hx)) (by simp [hS])).mono ?_
      rintro e w2 ⟨rfl, R2, K2⟩
      have K3 : Keep [b] wr w2 := ((Keep.refl [b] _).alloc _).trans K2
      have C1 := B1.keep K3 (by simp; omega)
      have C2 := B2.keep K3 (by simp; omega)
      have C3 := B3.keep K3 (by simp; omega)
      have e1 := C1.lt
      have e2 := C2.lt
      have d1 := C1.cell
      have d2 := C2.cell
      have f2 := C2.frozen
      have b2 := (Blk.new wr #[.string { data := #[63] }, .int .i64 8] 211).keep K2 (by simp; omega)
      have d4 := b2.cell
      unfold partZ at d2
      have hp2 := partAt_stab _ _ _ _ _ _ _ hpr K3 (by simp [hS]) (fun x hx => .inl hx)
      cases hi : isR 4 (sg 63) ts
      · rw [hi] at R2
        simp only [Bool.false_eq_true, if_false] at R2
        have hn' := hn.out
        go_wp2
        clear hn
        refine ⟨⟨2 + 1, by omega, rfl, C1, C2, C3, R2, hp2, Kr.trans K3, ?_⟩, by simp [intOf]⟩
        exact ⟨fun _ => hn'.1 (by omega), fun _ => hn'.2.1 (by omega), fun _ => hi⟩
      · rw [hi] at R2
        simp only [if_true] at R2
        have hof : oftenR p ts = (.mk 8 ⟨#[]⟩ [] [p] p.a, ts.tail) := by
          have hn' := hn.out
          unfold oftenR
          rw [if_neg (by rw [hn'.1 (by omega)]; simp), if_neg (by rw [hn'.2.1 (by omega)]; simp), if_pos hi]
        have HOF := Lib.hid hof; clear hof
        have fin := often_fin 8 hS hSl R2 hp2 (Kr.trans K3) (show w.heap.size ≤ w.heap.size + 1 by omega) (by omega)
        have FIN := Lib.hid fin; clear fin
        have BF := (C2.set5 (.int .i64 8) (.string { data := #[] }) (.slice none 0 0) (.slice (some ⟨w2.heap.size, 0, none⟩) 1 1) (.int .i64 p.a)).alloc (.cells #[.int .i64 p.k, .string t, .slice A m C, .slice B m' D, .int .i64 p.a] 98)
        have cF := BF.cell
        unfold set5 at cF
        have CF := Lib.hid cF; clear cF BF
        go_wp2
        have cF := CF.out
        refine bodyPost_ret (v := .agg #[.int .i64 8, .string { data := #[] }, .slice none 0 0, .slice (some ⟨w2.heap.size, 0, none⟩) 1 1, .int .i64 p.a]) (by simp [results, Tryz.results150, go_sem, cF]) rfl ?_
        rw [HOF.out]
        exact ⟨⟨_, rfl, FIN.out.1⟩, FIN.out.2⟩
    · have hn' := hn.out
      have hof : oftenR p ts = (p, ts) := by
        unfold oftenR
        rw [if_neg (by rw [hn'.1 (by omega)]; simp), if_neg (by rw [hn'.2.1 (by omega)]; simp), if_neg (by rw [hn'.2.2 (by omega)]; simp)]
      have HOF := Lib.hid hof; clear hof hn hn'
      have KF : Keep [w.heap.size + 1] wr (set5 wr (w.heap.size + 1) (.int .i64 p.k) (.string t) (.slice A m C) (.slice B m' D) (.int .i64 p.a)) := (Keep.refl _ _).set5 (by simp) _ _ _ _ _
      have hS5 : ∀ x ∈ S, x ∈ (w.heap.size + 1) :: S ∨ wr.heap.size ≤ x := fun x hx => .inl (by simp [hx])
      have hp5 := partAt_stab _ _ S _ _ _ _ hpr KF (by simp) hS5
      have R5 := Hr.move KF (fun x hx => .inl (by simp at hx; subst hx; exact ⟨by simp, by omega⟩)) hS5
      have K5 := Kr.set5 (b := w.heap.size + 1) (.inr (by omega)) (.int .i64 p.k) (.string t) (.slice A m C) (.slice B m' D) (.int .i64 p.a)
      have BF := B2.set5 (.int .i64 p.k) (.string t) (.slice A m C) (.slice B m' D) (.int .i64 p.a)
      have cF := BF.cell
      unfold set5 at cF
      have CF := Lib.hid cF; clear cF BF
      go_wp2
      have cF := CF.out
      refine bodyPost_ret (v := .agg #[.int .i64 p.k, .string t, .slice A m C, .slice B m' D, .int .i64 p.a]) (by simp [results, Tryz.results150, go_sem, cF]) rfl ?_
      rw [HOF.out]
      exact ⟨⟨_, rfl, hp5⟩, R5, K5⟩
end Go.Proofs.YtacihjabkiedcaaGreatDoor
/- The reader: a part that is a token. -/
namespace Go.Proofs.YtacihjabkiedcaaGreatDoor
open Go Go.RowKit

set_option maxRecDepth 20000 in
set_option maxHeartbeats 4000000 in
theorem plain_any (S : List Nat) (b : Nat) (t : TokS) (ts : List TokS) (n deep : Int) (w : World) (H : Rdr S w b (t :: ts) n deep) (hS : b ∈ S) (hSl : ∀ x ∈ S, x < w.heap.size) (hk0 : 0 ≤ t.k) (hk3 : t.k ≤ 3) :
    Calls Tryz.prog 174 #[.pointer (some ⟨b, 0, none⟩)] w (AtomPost S b n deep w (t :: ts) (.ok (some (.mk t.k t.t t.r [] t.a, ts)))) := by
  have hblt := H.lt
  have hT := H
  obtain ⟨v, hB, hT⟩ := hT
  obtain ⟨B, o, c, A, m, C, rfl, hb, c0, c1, c2, c3, _⟩ := hT.head
  have K0 := (Keep.refl [] w).alloc (.cells partZ 98)
  have h0 := K0.cell (show w.cell? ⟨b, 0, none⟩ = some (.slice (some ⟨B, o, none⟩) (ts.length + 1) c) from hB.cell 0) (by simp)
  have c0 := K0.cell c0 (by simp)
  unfold partZ at h0 c0
  have R0 := H.move (S' := w.heap.size :: S) K0 (by simp) (fun x hx => by rcases List.mem_cons.1 hx with rfl | h; exact .inr (by omega); exact .inl h)
  unfold partZ at R0
  have htk : takeR n t.k { data := #[] } (t :: ts) = .ok (t, ts) := by simp [takeR, isR]
  go_enter Tryz.func174, Tryz.ntmps174
  go_wp2_with fail
  refine (take_any (w.heap.size :: S) b (t :: ts) n deep t.k { data := #[] } _ R0 (by simp [hS])).mono ?_
  rw [htk]
  rintro e w1 ⟨K1, A2, m2, C2, rfl, hR2, R2⟩
  have B1 := (Blk.new w partZ 98).keep K1 (by simp; omega)
  have hl1 := B1.lt
  have cB := B1.cell
  have fB := B1.frozen
  unfold partZ at cB
  have hk : t.k = 0 ∨ t.k = 1 ∨ t.k = 2 ∨ t.k = 3 := by omega
  have BF := B1.set5 (.int .i64 t.k) (.string t.t) (.slice A2 m2 C2) (.slice none 0 0) (.int .i64 t.a)
  have fin : ∀ W, W = (((set5 w1 w.heap.size (.int .i64 t.k) (.string t.t) (.slice A2 m2 C2) (.slice none 0 0) (.int .i64 t.a)).alloc (.cells #[.int .i64 t.k, .string t.t, .slice A2 m2 C2, .int .i64 t.a] 130)).alloc (.cells #[.int .i64 0, .int .i64 1, .int .i64 2, .int .i64 3] 233)).drew →
      Keep [b] w W ∧ (∀ j, W.cell? ⟨w.heap.size, j, none⟩ = #[.int .i64 t.k, .string t.t, .slice A2 m2 C2, .slice none 0 0, .int .i64 t.a][j]?) ∧ PartAt S W (.mk t.k t.t t.r [] t.a) #[.int .i64 t.k, .string t.t, .slice A2 m2 C2, .slice none 0 0, .int .i64 t.a] ∧ Rdr S W b ts n deep := by
    rintro W rfl
    have KF : Keep [w.heap.size] w1 (((set5 w1 w.heap.size (.int .i64 t.k) (.string t.t) (.slice A2 m2 C2) (.slice none 0 0) (.int .i64 t.a)).alloc (.cells #[.int .i64 t.k, .string t.t, .slice A2 m2 C2, .int .i64 t.a] 130)).alloc (.cells #[.int .i64 0, .int .i64 1, .int .i64 2, .int .i64 3] 233)).drew := ((((Keep.refl _ _).set5 (by simp) _ _ _ _ _).alloc _).alloc _).drew
    have hS5 : ∀ x ∈ S, x ∈ w.heap.size :: S ∨ w1.heap.size ≤ x := fun x hx => .inl (by simp [hx])
    exact ⟨((((K0.mono (S' := [b]) (by simp)).trans K1).set5 (b := w.heap.size) (.inr (Nat.le_refl _)) _ _ _ _ _).alloc _).alloc _ |>.drew, (((BF.alloc _).alloc _).drew).cell, PartAt.of (Sl.move hR2 (by omega) KF (by simp) hS5) (SlOf.nil _ _ _), R2.move KF (fun x hx => .inl (by simp at hx; subst hx; exact ⟨by simp, by omega⟩)) hS5⟩
  have FIN := Lib.hid fin; clear fin BF
  rcases hk with hk | hk | hk | hk
  all_goals
    go_wp2
    go_region
    go_wp2
    have fin := FIN.out _ rfl
    unfold set5 at fin
    rw [hk] at fin
    obtain ⟨g1, g2, g3, g4⟩ := fin
    refine bodyPost_ret (v := .tuple #[.agg #[.int .i64 t.k, .string t.t, .slice A2 m2 C2, .slice none 0 0, .int .i64 t.a], .bool true]) (by rw [hk]; simp [results, Tryz.results174, go_sem, g2]) rfl ⟨g1, ?_⟩
    rw [hk]
    exact ⟨_, rfl, g3, g4⟩
end Go.Proofs.YtacihjabkiedcaaGreatDoor
/- The reader: the map of ways, a group. -/
namespace Go.Proofs.YtacihjabkiedcaaGreatDoor
open Go Go.RowKit Go.MapKept

def partV (n : Nat) : Value := .func (.func n) #[] #[]
def partE : Array MapEntry := #[⟨.int .i64 0, partV 174, 0⟩, ⟨.int .i64 1, partV 174, 1⟩, ⟨.int .i64 2, partV 174, 2⟩, ⟨.int .i64 3, partV 174, 3⟩, ⟨.int .i64 4, partV 175, 4⟩]
theorem isKey_i64 (n : Int) : IsKey (.int .i64) (.int .i64 n) := by simp [IsKey]
theorem upd2 (w : World) (m clk : Nat) (es : Array MapEntry) (n : Int) (v : Value) (hb : MapB w m es clk) (hf : Instr.findNow (.int .i64) (.int .i64 n) es.toList 0 = some none) :
    ∃ w1, (Instr.mapUpdate 209 (.map (some m)) (.int .i64 n) v).run Tryz.prog w = .ok () w1 ∧ MapB w1 m (es.push ⟨.int .i64 n, v, clk⟩) (clk + 1) ∧ ∀ a, Keep [] a w → a.heap.size ≤ m → Keep [] a w1 :=
  ⟨_, run_mapUpdate_new Tryz.underlying209 Tryz.underlying3 (isKey_i64 n) hb hf v, setMap_at hb _ _, fun _ K h => setMap_keep K (.inr h) _ _⟩
set_option maxRecDepth 20000 in
set_option maxHeartbeats 1000000 in
theorem ways2_any (w : World) : Calls Tryz.prog 164 #[] w fun e w' =>
    e = .returned (.map (some w.heap.size)) ∧ MapB w' w.heap.size partE 5 ∧ Keep [] w w' := by
  have hmm := @run_makeMap Tryz.prog
  obtain ⟨w1, u1, m1, k1⟩ := upd2 _ _ _ _ 0 (partV 174) (MapB.new w #[] 0) rfl
  obtain ⟨w2, u2, m2, k2⟩ := upd2 _ _ _ _ 1 (partV 174) m1 rfl
  obtain ⟨w3, u3, m3, k3⟩ := upd2 _ _ _ _ 2 (partV 174) m2 rfl
  obtain ⟨w4, u4, m4, k4⟩ := upd2 _ _ _ _ 3 (partV 174) m3 rfl
  obtain ⟨w5, u5, m5, k5⟩ := upd2 _ _ _ _ 4 (partV 175) m4 rfl
  have K5 := k5 _ (k4 _ (k3 _ (k2 _ (k1 _ ((Keep.refl _ w).alloc _) (Nat.le_refl _)) (Nat.le_refl _)) (Nat.le_refl _)) (Nat.le_refl _)) (Nat.le_refl _)
  clear k1 k2 k3 k4 k5 m1 m2 m3 m4
  unfold partV at u1 u2 u3 u4 u5
  go_enter Tryz.func164, Tryz.ntmps164
  go_wp2
  go_ret
  exact ⟨rfl, m5, K5⟩

/-- Which way a kind of token begins: a function's number. -/
def partF (k : Int) : Option Nat := if 0 ≤ k ∧ k ≤ 3 then some 174 else if k = 4 then some 175 else none
theorem findNow_hit2 (c n : Int) (v : Value) (l : List MapEntry) (i b : Nat) (h : c = n) : Instr.findNow (.int .i64) (.int .i64 c) (⟨.int .i64 n, v, b⟩ :: l) i = some (some (i, v)) := by
  subst h
  simp [Instr.findNow, Instr.sameNow]
theorem findNow_pass2 (c n : Int) (v : Value) (l : List MapEntry) (i b : Nat) (h : c ≠ n) : Instr.findNow (.int .i64) (.int .i64 c) (⟨.int .i64 n, v, b⟩ :: l) i = Instr.findNow (.int .i64) (.int .i64 c) l (i + 1) := by
  have : (c == n) = false := by simp; omega
  simp [Instr.findNow, Instr.sameNow, this]
theorem partF_find (c : Int) : ∃ r, Instr.findNow (.int .i64) (.int .i64 c) partE.toList 0 = some r ∧ (r.map (·.2)).getD .nilFunc = (match partF c with | some n => partV n | none => .nilFunc) ∧ r.isSome = (partF c).isSome := by
  have e : partE.toList = [⟨.int .i64 0, partV 174, 0⟩, ⟨.int .i64 1, partV 174, 1⟩, ⟨.int .i64 2, partV 174, 2⟩, ⟨.int .i64 3, partV 174, 3⟩, ⟨.int .i64 4, partV 175, 4⟩] := rfl
  rw [e]
  unfold partF
  by_cases h0 : c = 0
  · exact ⟨_, findNow_hit2 _ _ _ _ _ _ h0, by simp [h0], by simp [h0]⟩
  by_cases h1 : c = 1
  · exact ⟨_, by rw [findNow_pass2 _ _ _ _ _ _ h0, findNow_hit2 _ _ _ _ _ _ h1], by simp [h1], by simp [h1]⟩
  by_cases h2 : c = 2
  · exact ⟨_, by rw [findNow_pass2 _ _ _ _ _ _ h0, findNow_pass2 _ _ _ _ _ _ h1, findNow_hit2 _ _ _ _ _ _ h2], by simp [h2], by simp [h2]⟩
  by_cases h3 : c = 3
  · exact ⟨_, by rw [findNow_pass2 _ _ _ _ _ _ h0, findNow_pass2 _ _ _ _ _ _ h1, findNow_pass2 _ _ _ _ _ _ h2, findNow_hit2 _ _ _ _ _ _ h3], by simp [h3], by simp [h3]⟩
  by_cases h4 : c = 4
  · exact ⟨_, by rw [findNow_pass2 _ _ _ _ _ _ h0, findNow_pass2 _ _ _ _ _ _ h1, findNow_pass2 _ _ _ _ _ _ h2, findNow_pass2 _ _ _ _ _ _ h3, findNow_hit2 _ _ _ _ _ _ h4], by simp [h4], by simp [h4]⟩
  have h5 : ¬(0 ≤ c ∧ c ≤ 3) := by omega
  refine ⟨none, ?_, by simp [h4, h5], by simp [h4, h5]⟩
  rw [findNow_pass2 _ _ _ _ _ _ h0, findNow_pass2 _ _ _ _ _ _ h1, findNow_pass2 _ _ _ _ _ _ h2, findNow_pass2 _ _ _ _ _ _ h3, findNow_pass2 _ _ _ _ _ _ h4]
  rfl
theorem way2_look (w : World) (m : Nat) (c : Int) (clk : Nat) (hb : MapB w m partE clk) :
    (Instr.lookup 209 (.map (some m)) (.int .i64 c) true).run Tryz.prog w = .ok (.tuple #[match partF c with | some n => partV n | none => .nilFunc, .bool (partF c).isSome]) w := by
  obtain ⟨r, hf, hr, hs⟩ := partF_find c
  rw [run_lookup_at Tryz.underlying209 Tryz.underlying3 (isKey_i64 c) hb hf (z := .nilFunc) (by kernel_rfl) true, ← hr, ← hs]
  rfl

theorem Rdr.turn {S : List Nat} {w : World} {b : Nat} {ts : List TokS} {n deep : Int} (h : Rdr S w b ts n deep) (hS : b ∈ S) (x : Int) : Rdr S (w.setCell ⟨b, 2, none⟩ (.int .i64 x)) b ts n x := by
  obtain ⟨v, hB, hT⟩ := h
  exact ⟨v, by simpa using hB.set 2 (.int .i64 x), SlOf.move hT tokRow_stab (by omega) (T := [b]) ((Keep.refl _ _).setCell (by simp) _) (by simp [hS]) (fun x hx => .inl hx)⟩

/-- The reader of one of several, d groups within one another at most. -/
def AltAny (d : Nat) : Prop := ∀ (S : List Nat) (b : Nat) (ts : List TokS) (n deep : Int) (w : World), deep + d = 12 → 0 ≤ deep → ts.length ≤ 600 → Rdr S w b ts n deep → b ∈ S → (∀ x ∈ S, x < w.heap.size) →
  Calls Tryz.prog 90 #[.pointer (some ⟨b, 0, none⟩)] w (PartPost S b n deep w (altR n d ts))

set_option maxRecDepth 20000 in
set_option maxHeartbeats 4000000 in
theorem group_any (S : List Nat) (b : Nat) (t : TokS) (ts : List TokS) (n deep : Int) (w : World) (d : Nat) (hd : deep + d = 12) (h0 : 0 ≤ deep) (hA : ∀ d', d = d' + 1 → AltAny d') (hts : ts.length ≤ 600) (H : Rdr S w b (t :: ts) n deep) (hS : b ∈ S) (hSl : ∀ x ∈ S, x < w.heap.size) :
    Calls Tryz.prog 175 #[.pointer (some ⟨b, 0, none⟩)] w (AtomPost S b n deep w (t :: ts) (groupR n (deeper n d) t ts)) := by
  have hblt := H.lt
  have K0 := (Keep.refl [] w).alloc (.cells partZ 98)
  have R0 := H.move (S' := w.heap.size :: S) K0 (by simp) (fun x hx => by rcases List.mem_cons.1 hx with rfl | h; exact .inr (by omega); exact .inl h)
  have H0 := H.move (S' := S) K0 (by simp) (fun x hx => .inl hx)
  have ZB := Blk.new w partZ 98
  have RC := R0
  obtain ⟨v0, hB0, _⟩ := RC
  have c2 := hB0.cell 2
  unfold partZ at R0 H0 c2
  generalize hres : groupR n (deeper n d) t ts = res
  unfold groupR at hres
  cases hi : isR 4 (sg 40) (t :: ts)
  · rw [hi] at hres
    simp only [Bool.false_eq_true, if_false] at hres
    subst hres
    go_enter Tryz.func175, Tryz.ntmps175
    go_wp2_with fail
    refine (ris_any S b (t :: ts) n deep 4 (sg 40) _ H0).mono ?_
    rintro e w1 ⟨rfl, rfl⟩
    rw [hi]
    go_wp2
    refine bodyPost_ret (v := .tuple #[.agg partZ, .bool false]) (by simp [results, Tryz.results175, go_sem, partZ]) rfl ⟨?_, rfl, ?_⟩
    · exact (Keep.refl _ _).alloc _
    · exact H0
  · rw [hi] at hres
    simp only [if_true] at hres
    cases d with
    | zero =>
      simp only [deeper] at hres
      subst hres
      have hq : (deep == 12) = true := by simp; omega
      obtain rfl : deep = 12 := by omega
      go_enter Tryz.func175, Tryz.ntmps175
      go_wp2_with fail
      refine (ris_any S b (t :: ts) n 12 4 (sg 40) _ H0).mono ?_
      rintro e w1 ⟨rfl, rfl⟩
      rw [hi]
      go_wp2_with fail
      refine (fail_any S b (t :: ts) n 12 4 _ H0).mono ?_
      rintro e w1 ⟨rfl, K1⟩
      unfold PanE
      go_wp2
      exact ⟨rfl, (K0.trans K1).mono (by simp), rfl⟩
    | succ d =>
      simp only [deeper] at hres
      have HRES := Lib.hid hres; clear hres
      have hq : (deep == 12) = false := by simp; omega
      have hw1 : IntKind.i64.wrap (deep + 1) = deep + 1 := IntWalk.i64_in _ (by omega)
      have hAlt := hA d rfl
      go_enter Tryz.func175, Tryz.ntmps175
      go_wp2_with fail
      refine (ris_any S b (t :: ts) n deep 4 (sg 40) _ H0).mono ?_
      rintro e w1 ⟨rfl, rfl⟩
      rw [hi]
      go_wp2_with fail
      refine (sign2_any (w.heap.size :: S) b (t :: ts) n deep (sg 40) _ R0 (by simp [hS])).mono ?_
      rintro e w1 ⟨rfl, R1, K1⟩
      rw [hi] at R1
      simp only [if_true, List.tail_cons] at R1
      have Z1 := ZB.keep K1 (by simp; omega)
      have RC := R1
      obtain ⟨v1, hB1, _⟩ := RC
      have d2 := hB1.cell 2
      have f2 := hB1.frozen 2
      clear hB1
      have R2 := R1.turn (by simp [hS]) (deep + 1)
      have K2 : Keep [b] w1 (w1.setCell ⟨b, 2, none⟩ (.int .i64 (deep + 1))) := (Keep.refl _ _).setCell (by simp) _
      have hs1 := Z1.lt
      have hs0 := K0.size
      go_wp2_with fail
      refine (hAlt (w.heap.size :: S) b ts n (deep + 1) _ (by omega) (by omega) hts R2 (by simp [hS]) (fun x hx => by rcases List.mem_cons.1 hx with rfl | h; simpa using hs1; have := hSl x h; simp; omega)).mono ?_
      rintro e w3 ⟨K3, hP⟩
      have K13 := (K0.mono (S' := [b]) (by simp)).trans (K1.trans (K2.trans K3))
      cases hr : altR n d ts with
      | error x =>
        rw [hr] at hP
        simp only at hP
        subst hP
        unfold PanE
        go_wp2
        have hres := HRES.out
        simp only [hr] at hres
        subst hres
        exact ⟨rfl, K13, rfl⟩
      | ok q =>
        obtain ⟨p, ts1⟩ := q
        rw [hr] at hP
        obtain ⟨row, rfl, hp, R3⟩ := hP
        obtain ⟨k, tt, A, m, C, B, m', D, a, hrow, rfl, rfl⟩ := PartAt.form hp
        subst hrow
        have Z3 := (Z1.keep K2 (by simp; omega)).keep K3 (by simp; omega)
        have RC := R3
        obtain ⟨v3, hB3, _⟩ := RC
        have e2 := hB3.cell 2
        have f3 := hB3.frozen 2
        have hb3 := hB3.lt
        clear hB3
        have hw2 : IntKind.i64.wrap (deep + 1 - 1) = deep := by rw [Int.add_sub_cancel]; exact IntWalk.i64_in _ (by omega)
        have K4 : Keep [b] w3 ((w3.setCell ⟨b, 2, none⟩ (.int .i64 deep)).alloc (.cells #[.int .i64 p.k, .string tt, .slice A m C, .slice B m' D, .int .i64 p.a] 98)) := ((Keep.refl _ _).setCell (by simp) _).alloc _
        have R4 := (R3.turn (by simp [hS]) deep).move (S' := w.heap.size :: S) ((Keep.refl [] _).alloc (.cells #[.int .i64 p.k, .string tt, .slice A m C, .slice B m' D, .int .i64 p.a] 98)) (by simp) (fun x hx => .inl hx)
        have hp4 := partAt_stab _ _ (w.heap.size :: S) _ _ _ _ hp K4 (by simp [hS]) (fun x hx => .inl hx)
        have Z4 := Z3.keep K4 (by simp; omega)
        have P4 := Blk.new (w3.setCell ⟨b, 2, none⟩ (.int .i64 deep)) #[.int .i64 p.k, .string tt, .slice A m C, .slice B m' D, .int .i64 p.a] 98
        have hs3 : (w3.setCell ⟨b, 2, none⟩ (.int .i64 deep)).heap.size = w3.heap.size := by simp [World.setCell]
        rw [hs3] at P4
        go_wp2_with fail
        refine (take_any (w.heap.size :: S) b ts1 n deep 4 (sg 41) _ R4 (by simp [hS])).mono ?_
        rintro e w5 ⟨K5, hT⟩
        have K15 := K13.trans (K4.trans K5)
        cases ht : takeR n 4 (sg 41) ts1 with
        | error x =>
          rw [ht] at hT
          simp only at hT
          subst hT
          unfold PanE
          go_wp2
          have hres := HRES.out
          simp only [hr, ht] at hres
          subst hres
          exact ⟨rfl, K15, rfl⟩
        | ok q =>
          obtain ⟨t2, ts2⟩ := q
          rw [ht] at hT
          obtain ⟨A5, m5, C5, rfl, _, R5⟩ := hT
          have Z5 := Z4.keep K5 (by simp; omega)
          have P5 := P4.keep K5 (by simp; omega)
          have hp5 := partAt_stab _ _ (w.heap.size :: S) _ _ _ _ hp4 K5 (by simp [hS]) (fun x hx => .inl hx)
          have z1 := Z5.lt
          have z2 := P5.lt
          have cZ := Z5.cell
          have fZ := Z5.frozen
          have cP := P5.cell
          unfold partZ at cZ
          have BF := Z5.set5 (.int .i64 p.k) (.string tt) (.slice A m C) (.slice B m' D) (.int .i64 p.a)
          have KF : Keep [w.heap.size] w5 (set5 w5 w.heap.size (.int .i64 p.k) (.string tt) (.slice A m C) (.slice B m' D) (.int .i64 p.a)) := (Keep.refl _ _).set5 (by simp) _ _ _ _ _
          have hS5 : ∀ x ∈ S, x ∈ w.heap.size :: S ∨ w5.heap.size ≤ x := fun x hx => .inl (by simp [hx])
          have hpF := partAt_stab _ _ S _ _ _ _ hp5 KF (by simp) hS5
          have RF := R5.move KF (fun x hx => .inl (by simp at hx; subst hx; exact ⟨by simp, by omega⟩)) hS5
          have K1F := K15.set5 (b := w.heap.size) (.inr (Nat.le_refl _)) (.int .i64 p.k) (.string tt) (.slice A m C) (.slice B m' D) (.int .i64 p.a)
          have cF := BF.cell
          unfold set5 at cF
          have CF := Lib.hid cF; clear cF BF
          go_wp2
          have cF := CF.out
          have hres := HRES.out
          simp only [hr, ht] at hres
          subst hres
          exact bodyPost_ret (v := .tuple #[.agg #[.int .i64 p.k, .string tt, .slice A m C, .slice B m' D, .int .i64 p.a], .bool true]) (by simp [results, Tryz.results175, go_sem, cF]) rfl ⟨K1F, _, rfl, hpF, RF⟩

set_option maxRecDepth 20000 in
set_option maxHeartbeats 4000000 in
theorem atom_any (S : List Nat) (b : Nat) (ts : List TokS) (n deep : Int) (w : World) (d : Nat) (hd : deep + d = 12) (h0 : 0 ≤ deep) (hA : ∀ d', d = d' + 1 → AltAny d') (hts : ts.length ≤ 600) (H : Rdr S w b ts n deep) (hS : b ∈ S) (hSl : ∀ x ∈ S, x < w.heap.size) :
    Calls Tryz.prog 149 #[.pointer (some ⟨b, 0, none⟩)] w (AtomPost S b n deep w ts (atomR n (deeper n d) ts)) := by
  have hblt := H.lt
  have K0 := (Keep.refl [] w).alloc (.cells partZ 98)
  have R0 := H.move (S' := w.heap.size :: S) K0 (by simp) (fun x hx => by rcases List.mem_cons.1 hx with rfl | h; exact .inr (by omega); exact .inl h)
  have H0 := H.move (S' := S) K0 (by simp) (fun x hx => .inl hx)
  have ZB := Blk.new w partZ 98
  cases ts with
  | nil =>
    have HC := H
    obtain ⟨v0, hB0, hT⟩ := HC
    obtain ⟨A, C, rfl, _⟩ := SlOf.at hT
    have c0 := hB0.cell 0
    unfold partZ at H0
    go_enter Tryz.func149, Tryz.ntmps149
    go_wp2
    exact bodyPost_ret (v := .tuple #[.agg partZ, .bool false]) (by simp [results, Tryz.results149, go_sem, partZ]) rfl ⟨(Keep.refl _ _).alloc _, rfl, H0⟩
  | cons t ts =>
    generalize hres : atomR n (deeper n d) (t :: ts) = res
    have HRES := Lib.hid hres; clear hres
    have HC := R0
    obtain ⟨v0, hB0, hT⟩ := HC
    obtain ⟨B, o, c, A, m, C, rfl, hb, c0, c1, c2, c3, _⟩ := hT.head
    have b0 := hB0.cell 0
    have hx0 : (0 : Int) < (ts.length : Int) + 1 := by omega
    unfold partZ at c0 b0
    go_enter Tryz.func149, Tryz.ntmps149
    go_wp2
    go_region_held3 (fun w' => w'.cell? ⟨b, 0, none⟩ = some (.slice (some ⟨B, o, none⟩) (ts.length + 1) c) ∧ w'.cell? ⟨B, o, none⟩ = some (.int .i64 t.k)) ((first | go_keep | exact ⟨Keep.cell ‹Keep [] _ _› b0 (by simp), Keep.cell ‹Keep [] _ _› c0 (by simp)⟩)) ((go_at_call 164; refine (ways2_any _).mono ?_; rintro e w' ⟨rfl, M, K⟩; have K := (Keep.refl [] (w.alloc (.cells #[.int .i64 0, .string { data := #[] }, .slice none 0 0, .slice none 0 0, .int .i64 0] 98))).drew.trans K; have hl := way2_look w' _ t.k 5 M; have hl2 := way2_look w' (w.heap.size + 1) t.k 5 (by simpa using M)))
    rename World => w1
    clear hl hl2
    have K1 : Keep [] (w.alloc (.cells partZ 98)) w1 := K
    have KW := (K0.trans K1).mono (S' := [b]) (by simp)
    have R1 := R0.move K1 (by simp) (fun x hx => .inl hx)
    have Z1 := ZB.keep K1 (by simp)
    have hs1 := Z1.lt
    by_cases hin : (0 ≤ t.k ∧ t.k ≤ 3) ∨ t.k = 4
    · have hcall : (partF t.k = some 174 ∧ Calls Tryz.prog 174 #[.pointer (some ⟨b, 0, none⟩)] w1 (AtomPost (w.heap.size :: S) b n deep w1 (t :: ts) res)) ∨
          (partF t.k = some 175 ∧ Calls Tryz.prog 175 #[.pointer (some ⟨b, 0, none⟩)] w1 (AtomPost (w.heap.size :: S) b n deep w1 (t :: ts) res)) := by
        have hres := HRES.out
        have hSl1 : ∀ x ∈ w.heap.size :: S, x < w1.heap.size := fun x hx => by rcases List.mem_cons.1 hx with rfl | h; exact hs1; have := hSl x h; omega
        simp only [atomR] at hres
        rcases hin with h | h
        · rw [if_pos h] at hres
          exact .inl ⟨by simp [partF, h], hres ▸ plain_any (w.heap.size :: S) b t ts n deep w1 R1 (by simp [hS]) hSl1 h.1 h.2⟩
        · rw [if_neg (by omega), if_pos h] at hres
          exact .inr ⟨by simp [partF, h], hres ▸ group_any (w.heap.size :: S) b t ts n deep w1 d hd h0 hA (by simp at hts; omega) R1 (by simp [hS]) hSl1⟩
      clear HRES hA H R0 H0 hT hB0 c0 c1 c2 c3 b0 M K
      rcases hcall with ⟨hpf, hcall⟩ | ⟨hpf, hcall⟩
      all_goals
        simp only [hpf, Option.isSome, partV]
        clear hpf
        go_wp2_with fail
        refine hcall.mono ?_
        rintro e w2 ⟨K2, hP⟩
        have Z2 := Z1.keep K2 (by simp; omega)
        have KF := KW.trans K2
        clear hcall
        cases res with
        | error x =>
          simp only at hP
          subst hP
          unfold PanE
          go_wp2
          exact ⟨rfl, KF, rfl⟩
        | ok q =>
          cases q with
          | none =>
            obtain ⟨rfl, R2⟩ := hP
            have cZ := Z2.cell
            have fZ := Z2.frozen
            have z2 := Z2.lt
            unfold partZ at cZ
            have BF := Z2.set5 (.int .i64 0) (.string { data := #[] }) (.slice none 0 0) (.slice none 0 0) (.int .i64 0)
            have RF := R2.move (S' := S) ((Keep.refl [w.heap.size] w2).set5 (b := w.heap.size) (by simp) (.int .i64 0) (.string { data := #[] }) (.slice none 0 0) (.slice none 0 0) (.int .i64 0)) (fun x hx => .inl (by simp at hx; subst hx; exact ⟨by simp, by omega⟩)) (fun x hx => .inl (by simp [hx]))
            have KF := KF.set5 (b := w.heap.size) (.inr (Nat.le_refl _)) (.int .i64 0) (.string { data := #[] }) (.slice none 0 0) (.slice none 0 0) (.int .i64 0)
            have cF := BF.cell
            unfold set5 at cF
            have CF := Lib.hid cF; clear cF BF
            go_wp2
            have cF := CF.out
            exact bodyPost_ret (v := .tuple #[.agg partZ, .bool false]) (by simp [results, Tryz.results149, go_sem, cF, partZ]) rfl ⟨KF, rfl, RF⟩
          | some q =>
            obtain ⟨p, ts1⟩ := q
            obtain ⟨row, rfl, hp, R2⟩ := hP
            obtain ⟨k, tt, A, m, C, B, m', D, a, hrow, rfl, rfl⟩ := PartAt.form hp
            subst hrow
            have cZ := Z2.cell
            have fZ := Z2.frozen
            have z2 := Z2.lt
            unfold partZ at cZ
            have hS5 : ∀ x ∈ S, x ∈ w.heap.size :: S ∨ w2.heap.size ≤ x := fun x hx => .inl (by simp [hx])
            have K5 := (Keep.refl [w.heap.size] w2).set5 (b := w.heap.size) (by simp) (.int .i64 p.k) (.string tt) (.slice A m C) (.slice B m' D) (.int .i64 p.a)
            have BF := Z2.set5 (.int .i64 p.k) (.string tt) (.slice A m C) (.slice B m' D) (.int .i64 p.a)
            have RF := R2.move (S' := S) K5 (fun x hx => .inl (by simp at hx; subst hx; exact ⟨by simp, by omega⟩)) hS5
            have hpF := partAt_stab _ _ S _ _ _ _ hp K5 (by simp) hS5
            have KF := KF.set5 (b := w.heap.size) (.inr (Nat.le_refl _)) (.int .i64 p.k) (.string tt) (.slice A m C) (.slice B m' D) (.int .i64 p.a)
            have cF := BF.cell
            unfold set5 at cF
            have CF := Lib.hid cF; clear cF BF
            go_wp2
            have cF := CF.out
            exact bodyPost_ret (v := .tuple #[.agg #[.int .i64 p.k, .string tt, .slice A m C, .slice B m' D, .int .i64 p.a], .bool true]) (by simp [results, Tryz.results149, go_sem, cF]) rfl ⟨KF, _, rfl, hpF, RF⟩
    · have hpf : partF t.k = none := by simp only [partF]; rw [if_neg (by omega), if_neg (by omega)]
      have hres := HRES.out
      have h1 : ¬(0 ≤ t.k ∧ t.k ≤ 3) := by omega
      have h2 : ¬t.k = 4 := by omega
      simp only [atomR, if_neg h1, if_neg h2] at hres
      subst hres
      clear HRES h1 h2 hin
      have cZ := Z1.cell
      have fZ := Z1.frozen
      unfold partZ at cZ
      have R2 := R1
      have BF := Z1.set5 (.int .i64 0) (.string { data := #[] }) (.slice none 0 0) (.slice none 0 0) (.int .i64 0)
      have RF := R2.move (S' := S) ((Keep.refl [w.heap.size] w1).set5 (b := w.heap.size) (by simp) (.int .i64 0) (.string { data := #[] }) (.slice none 0 0) (.slice none 0 0) (.int .i64 0)) (fun x hx => .inl (by simp at hx; subst hx; exact ⟨by simp, by omega⟩)) (fun x hx => .inl (by simp [hx]))
      have KF := KW.set5 (b := w.heap.size) (.inr (Nat.le_refl _)) (.int .i64 0) (.string { data := #[] }) (.slice none 0 0) (.slice none 0 0) (.int .i64 0)
      have cF := BF.cell
      unfold set5 at cF
      have CF := Lib.hid cF; clear cF BF
      simp only [hpf, Option.isSome]
      go_wp2
      have cF := CF.out
      exact bodyPost_ret (v := .tuple #[.agg partZ, .bool false]) (by simp [results, Tryz.results149, go_sem, cF, partZ]) rfl ⟨KF, rfl, RF⟩
end Go.Proofs.YtacihjabkiedcaaGreatDoor
