/- The reader's small functions. -/
import Derived.Test.YtbpidoiellcccaaGreatDoorK7
import Derived.WalkLawsBesides
import Derived.Test.YtbpidoiellcccaaGreatDoorK1
set_option linter.unusedVariables false
set_option linter.unusedSimpArgs false
namespace Go.Proofs.YtbpidoiellcccaaGreatDoor
open Go Go.RowKit

/-- What lies at the head of the tokens that are left. -/
theorem Toks.head {S : List Nat} {w : World} {v : Value} {t : TokS} {ts : List TokS} (h : Toks S w v (t :: ts)) : ∃ b o c A m C, v = .slice (some ⟨b, o, none⟩) (ts.length + 1) c ∧ (b ∉ S ∧ ts.length + 1 ≤ c) ∧
    w.cell? ⟨b, o, none⟩ = some (.int .i64 t.k) ∧ w.cell? ⟨b, o + 1, none⟩ = some (.string t.t) ∧ w.cell? ⟨b, o + 2, none⟩ = some (.slice A m C) ∧ w.cell? ⟨b, o + 3, none⟩ = some (.int .i64 t.a) ∧ Rngs S w (.slice A m C) t.r := by
  obtain ⟨a, c, rfl, hm, hr⟩ := SlOf.at h
  obtain ⟨b, o, rfl, hb, hc⟩ := hr (by simp)
  obtain ⟨row, hz, hcell, v2, rfl, hR⟩ := hc 0 (by simp)
  have hR' := hR
  obtain ⟨A, C, rfl, _⟩ := hR'
  have e0 := hcell 0 (by omega)
  have e1 := hcell 1 (by omega)
  have e2 := hcell 2 (by omega)
  have e3 := hcell 3 (by omega)
  simp only [Nat.zero_mul, Nat.add_zero] at e0 e1 e2 e3
  exact ⟨b, o, c, A, _, C, rfl, ⟨hb, by simpa using hm.2⟩, e0, e1, e2, e3, hR⟩
/-- The tokens behind the first one. -/
theorem Toks.tail {S : List Nat} {w : World} {b o c : Nat} {t : TokS} {ts : List TokS} (h : Toks S w (.slice (some ⟨b, o, none⟩) (ts.length + 1) c) (t :: ts)) (x : Addr) (c' : Nat) (hx : 0 < ts.length → x = ⟨b, o + 4, none⟩) (hc' : ts.length ≤ c') : Toks S w (.slice (some x) ts.length c') ts := by
  obtain ⟨rows, h1, h2, h3⟩ := h
  obtain ⟨a, c0, hv, hm, hr⟩ := h1
  cases rows with
  | nil => simp at h2
  | cons row rows =>
    simp only [Value.slice.injEq] at hv
    obtain ⟨rfl, _, rfl⟩ := hv
    have hn : rows.length = ts.length := by simpa using h2
    have hm' : rows.length ≤ 9223372036854775807 ∧ rows.length ≤ c' := by simp only [List.length_cons] at hm; omega
    refine ⟨rows, ⟨some x, c', by rw [hn], hm', fun hp => ?_⟩, hn, fun i hi hi' => h3 (i + 1) (by simpa using hi) (by simpa using hi')⟩
    obtain ⟨b', o', he, hb, hc⟩ := hr (by simp)
    simp only [Option.some.injEq, Addr.mk.injEq] at he
    obtain ⟨rfl, rfl, _⟩ := he
    refine ⟨b, o + 4, by rw [hx (by omega)], hb, fun i hi => ⟨(hc (i + 1) (by simpa using hi)).1, fun j hj => ?_⟩⟩
    have := (hc (i + 1) (by simpa using hi)).2 j hj
    rw [show o + 4 + i * 4 + j = o + (i + 1) * 4 + j by omega]
    simpa using this

set_option maxHeartbeats 1000000 in
theorem place_any (S : List Nat) (b : Nat) (ts : List TokS) (n deep : Int) (w : World) (H : Rdr S w b ts n deep) :
    Calls Tryz.prog 99 #[.pointer (some ⟨b, 0, none⟩)] w fun e w' => e = .returned (.int .i64 (placeR n ts)) ∧ w = w' := by
  obtain ⟨v, hB, hT⟩ := H
  cases ts with
  | nil =>
    obtain ⟨A, C, rfl, _⟩ := SlOf.at hT
    have h0 := hB.cell 0
    have h1 := hB.cell 1
    go_enter Tryz.func99, Tryz.ntmps99
    go_wp2
    go_ret
    exact ⟨rfl, rfl⟩
  | cons t ts =>
    obtain ⟨B, o, c, A, m, C, rfl, hb, c0, c1, c2, c3, _⟩ := hT.head
    have h0 := hB.cell 0
    go_enter Tryz.func99, Tryz.ntmps99
    go_wp2
    go_ret
    exact ⟨rfl, rfl⟩

set_option maxHeartbeats 2000000 in
theorem ris_any (S : List Nat) (b : Nat) (ts : List TokS) (n deep k : Int) (x : ByteArray) (w : World) (H : Rdr S w b ts n deep) :
    Calls Tryz.prog 68 #[.pointer (some ⟨b, 0, none⟩), .int .i64 k, .string x] w fun e w' => e = .returned (.bool (isR k x ts)) ∧ w = w' := by
  obtain ⟨v, hB, hT⟩ := H
  cases ts with
  | nil =>
    obtain ⟨A, C, rfl, _⟩ := SlOf.at hT
    have h0 := hB.cell 0
    go_enter Tryz.func68, Tryz.ntmps68
    go_wp2
    go_ret
    exact ⟨rfl, rfl⟩
  | cons t ts =>
    obtain ⟨B, o, c, A, m, C, rfl, hb, c0, c1, c2, c3, _⟩ := hT.head
    have h0 := hB.cell 0
    cases hk : (t.k == k)
    · have hr : isR k x (t :: ts) = false := by simp [isR, hk]
      rw [hr]
      go_enter Tryz.func68, Tryz.ntmps68
      go_wp2
      go_ret
      exact ⟨rfl, rfl⟩
    · by_cases hx : x.toList = []
      · have hr : isR k x (t :: ts) = true := by simp [isR, hk, hx]
        rw [hr]
        go_enter Tryz.func68, Tryz.ntmps68
        go_wp2
        go_ret
        exact ⟨rfl, rfl⟩
      · have hr : isR k x (t :: ts) = (t.t.toList == x.toList) := by simp [isR, hk, hx]
        rw [hr]
        clear hr
        have he : x.toList.isEmpty = false := by simpa using hx
        go_enter Tryz.func68, Tryz.ntmps68
        go_wp2
        go_ret
        exact ⟨rfl, rfl⟩

/-- The tokens behind the first one, wherever that leaves the address. -/
theorem run_tail (b o n c : Nat) (hc : n + 1 ≤ c) : ∃ (x : Addr) (c' : Nat), (n ≤ c' ∧ (0 < n → x = ⟨b, o + 4, none⟩)) ∧ ∀ w, (Instr.slice 74 (.slice (some ⟨b, o, none⟩) (n + 1) c) (some (.int .i64 1)) none none).run Tryz.prog w = .ok (.slice (some x) n c') w := by
  have hz : ∀ w, (sizeOf (Tryz.prog.elem 74)).run Tryz.prog w = .ok 4 w := fun _ => by kernel_rfl
  have hr : ∀ w, (Instr.slice 74 (.slice (some ⟨b, o, none⟩) (n + 1) c) (some (.int .i64 1)) none none).run Tryz.prog w = .ok (sliced (some ⟨b, o, none⟩) 1 (n + 1) c 4) w := fun w => by
    rw [run_slice_l w 74 (some ⟨b, o, none⟩) (n + 1) c (by kernel_rfl) .i64 1 (by omega) (by omega), hz]
    rfl
  unfold sliced at hr
  by_cases h1 : c = 1
  · refine ⟨⟨b, o, none⟩, c - 1, ⟨by omega, fun h => by omega⟩, fun w => ?_⟩
    rw [hr, if_pos h1]; rfl
  · refine ⟨⟨b, o + 4, none⟩, c - 1, ⟨by omega, fun _ => rfl⟩, fun w => ?_⟩
    rw [hr, if_neg h1]; rfl
set_option maxRecDepth 20000 in
set_option maxHeartbeats 1000000 in
theorem sign2_any (S : List Nat) (b : Nat) (ts : List TokS) (n deep : Int) (x : ByteArray) (w : World) (H : Rdr S w b ts n deep) (hS : b ∈ S) :
    Calls Tryz.prog 66 #[.pointer (some ⟨b, 0, none⟩), .string x] w fun e w' => e = .returned (.bool (isR 4 x ts)) ∧ Rdr S w' b (if isR 4 x ts then ts.tail else ts) n deep ∧ Keep [b] w w' := by
  cases hi : isR 4 x ts
  · go_enter Tryz.func66, Tryz.ntmps66
    go_wp2_with fail
    refine (ris_any S b ts n deep 4 x w H).mono ?_
    rintro e w1 ⟨rfl, rfl⟩
    rw [hi]
    go_wp2
    go_ret
    exact ⟨rfl, H, Keep.refl _ _⟩
  · cases ts with
    | nil => simp [isR] at hi
    | cons t ts =>
      obtain ⟨v, hB, hT⟩ := H
      have hT' := hT
      obtain ⟨B, o, c, A, m, C, rfl, hb, c0, c1, c2, c3, _⟩ := hT'.head
      go_enter Tryz.func66, Tryz.ntmps66
      go_wp2_with fail
      refine (ris_any S b (t :: ts) n deep 4 x w ⟨_, hB, hT⟩).mono ?_
      rintro e w1 ⟨rfl, rfl⟩
      rw [hi]
      obtain ⟨y, c', hy, hsl⟩ := run_tail B o ts.length c hb.2
      have h0 := hB.cell 0
      have f0 := hB.frozen 0
      go_wp2
      go_ret
      refine ⟨rfl, ⟨_, by simpa using hB.set 0 _, SlOf.move (hT.tail y c' hy.2 hy.1) tokRow_stab (by omega) (T := [b]) ((Keep.refl _ _).setCell (by simp) _) (by simp [hS]) (fun x hx => .inl hx)⟩, (Keep.refl _ _).setCell (by simp) _⟩

set_option maxHeartbeats 1000000 in
theorem fail_any (S : List Nat) (b : Nat) (ts : List TokS) (n deep e0 : Int) (w : World) (H : Rdr S w b ts n deep) :
    Calls Tryz.prog 69 #[.pointer (some ⟨b, 0, none⟩), .int .i64 e0] w fun e w' => e = PanE (e0, placeR n ts) ∧ Keep [] w w' := by
  go_enter Tryz.func69, Tryz.ntmps69
  go_wp2_with fail
  refine (place_any S b ts n deep _ H).mono ?_
  rintro e w1 ⟨rfl, rfl⟩
  go_wp2
  exact ⟨rfl, rfl, Keep.refl _ _⟩

def TakePost (S : List Nat) (b : Nat) (n deep : Int) (w : World) (r : Except Err (TokS × List TokS)) (e : Ending) (w' : World) : Prop :=
  Keep [b] w w' ∧ match r with
    | .ok (t, ts) => ∃ A m C, e = .returned (.agg #[.int .i64 t.k, .string t.t, .slice A m C, .int .i64 t.a]) ∧ Rngs S w' (.slice A m C) t.r ∧ Rdr S w' b ts n deep
    | .error x => e = PanE x
theorem takeR_no {n k : Int} {x : ByteArray} {ts : List TokS} (h : isR k x ts = false) : takeR n k x ts = .error (3, placeR n ts) := by
  cases ts with
  | nil => rfl
  | cons t ts => simp only [takeR, h]; rfl
set_option maxRecDepth 20000 in
set_option maxHeartbeats 2000000 in
theorem take_any (S : List Nat) (b : Nat) (ts : List TokS) (n deep k : Int) (x : ByteArray) (w : World) (H : Rdr S w b ts n deep) (hS : b ∈ S) :
    Calls Tryz.prog 67 #[.pointer (some ⟨b, 0, none⟩), .int .i64 k, .string x] w (TakePost S b n deep w (takeR n k x ts)) := by
  have K0 := (Keep.refl [] w).alloc (.cells #[.int .i64 0, .string { data := #[] }, .slice none 0 0, .int .i64 0] 132)
  have H1 := H.move K0 (by simp) (fun x hx => .inl hx)
  have hlt := H.lt
  cases hi : isR k x ts
  · rw [takeR_no hi]
    go_enter Tryz.func67, Tryz.ntmps67
    go_wp2_with fail
    refine (ris_any S b ts n deep k x _ H1).mono ?_
    rintro e w1 ⟨rfl, rfl⟩
    rw [hi]
    go_wp2_with fail
    refine (fail_any S b ts n deep 3 _ H1).mono ?_
    rintro e w1 ⟨rfl, K1⟩
    unfold PanE
    go_wp2
    exact ⟨rfl, (K0.trans K1).mono (by simp), rfl⟩
  · cases ts with
    | nil => simp [isR] at hi
    | cons t ts =>
      have hr : takeR n k x (t :: ts) = .ok (t, ts) := by simp [takeR, hi]
      rw [hr]
      obtain ⟨v, hB0, hT0⟩ := H
      have hT' := hT0
      obtain ⟨B, o, c, A, m, C, rfl, hb, c0, c1, c2, c3, hR0⟩ := hT'.head
      have hB := hB0.alloc (.cells #[.int .i64 0, .string { data := #[] }, .slice none 0 0, .int .i64 0] 132)
      have hT : Toks S (w.alloc (.cells #[.int .i64 0, .string { data := #[] }, .slice none 0 0, .int .i64 0] 132)) _ _ := SlOf.move hT0 tokRow_stab (by omega) K0 (by simp) (fun x hx => .inl hx)
      have c0 := K0.cell c0 (by simp)
      have c1 := K0.cell c1 (by simp)
      have c2 := K0.cell c2 (by simp)
      have c3 := K0.cell c3 (by simp)
      clear H1
      go_enter Tryz.func67, Tryz.ntmps67
      go_wp2_with fail
      refine (ris_any S b (t :: ts) n deep k x _ ⟨_, hB, hT⟩).mono ?_
      rintro e w1 ⟨rfl, rfl⟩
      rw [hi]
      obtain ⟨y, c', hy, hsl⟩ := run_tail B o ts.length c hb.2
      have h0 := hB.cell 0
      have f0 := hB.frozen 0
      go_wp2
      have KF : Keep [b] w (((w.setCell ⟨b, 0, none⟩ (.slice (some y) ts.length c')).alloc (.cells #[.int .i64 t.k, .string t.t, .slice A m C, .int .i64 t.a] 132)).alloc (.cells #[.int .i64 t.k, .string t.t, .slice A m C, .int .i64 t.a] 132)) := (((Keep.refl _ _).setCell (by simp) _).alloc _).alloc _
      refine bodyPost_ret (v := .agg #[.int .i64 t.k, .string t.t, .slice A m C, .int .i64 t.a]) (by simp [results, Tryz.results67, go_sem]) rfl ⟨?_, A, m, C, rfl, ?_, ?_⟩
      · exact KF
      · exact Sl.move hR0 (by omega) KF (by simp [hS]) (fun x hx => .inl hx)
      · exact ⟨_, by simpa using ((hB0.set 0 (.slice (some y) ts.length c')).alloc _).alloc _, SlOf.move (hT0.tail y c' hy.2 hy.1) tokRow_stab (by omega) KF (by simp [hS]) (fun x hx => .inl hx)⟩
end Go.Proofs.YtbpidoiellcccaaGreatDoor
namespace Go.Proofs.YtbpidoiellcccaaGreatDoor
open Go Go.RowKit Go.MapKept

def sg (c : UInt8) : ByteArray := ⟨#[c]⟩
def oneR (k a : Int) : List PartS → PartS
  | [p] => p
  | l => .mk k ⟨#[]⟩ [] l a
def oftenR (p : PartS) (ts : List TokS) : PartS × List TokS :=
  if isR 4 (sg 42) ts then (.mk 6 ⟨#[]⟩ [] [p] p.a, ts.tail) else if isR 4 (sg 43) ts then (.mk 7 ⟨#[]⟩ [] [p] p.a, ts.tail)
  else if isR 4 (sg 63) ts then (.mk 8 ⟨#[]⟩ [] [p] p.a, ts.tail) else (p, ts)
abbrev PRes := Except Err (PartS × List TokS)
def seqL (atom : List TokS → Except Err (Option (PartS × List TokS))) : Nat → List PartS → List TokS → Except Err (List PartS × List TokS)
  | 0, l, ts => .ok (l, ts)
  | f + 1, l, ts => match atom ts with
    | .error e => .error e
    | .ok none => .ok (l, ts)
    | .ok (some (p, ts1)) => seqL atom f (l ++ [(oftenR p ts1).1]) (oftenR p ts1).2
def altL (seq : List TokS → PRes) : Nat → List PartS → List TokS → Except Err (List PartS × List TokS)
  | 0, l, ts => .ok (l, ts)
  | f + 1, l, ts => if isR 4 (sg 124) ts then (match seq ts.tail with
    | .error e => .error e
    | .ok (p, ts1) => altL seq f (l ++ [p]) ts1) else .ok (l, ts)
def groupR (n : Int) (alt : Option (List TokS → PRes)) (t : TokS) (rest : List TokS) : Except Err (Option (PartS × List TokS)) :=
  if isR 4 (sg 40) (t :: rest) then (match alt with
    | none => .error (4, t.a)
    | some f => match f rest with
      | .error e => .error e
      | .ok (p, ts1) => match takeR n 4 (sg 41) ts1 with
        | .error e => .error e
        | .ok (_, ts2) => .ok (some (p, ts2))) else .ok none
def atomR (n : Int) (alt : Option (List TokS → PRes)) : List TokS → Except Err (Option (PartS × List TokS))
  | [] => .ok none
  | t :: rest => if 0 ≤ t.k ∧ t.k ≤ 3 then .ok (some (.mk t.k t.t t.r [] t.a, rest)) else if t.k = 4 then groupR n alt t rest else .ok none
def seqR (n : Int) (alt : Option (List TokS → PRes)) (ts : List TokS) : PRes := match seqL (atomR n alt) (ts.length + 1) [] ts with
  | .error e => .error e
  | .ok (l, ts1) => .ok (oneR 4 (placeR n ts) l, ts1)
def altOf (n : Int) (alt : Option (List TokS → PRes)) (ts : List TokS) : PRes := match seqR n alt ts with
  | .error e => .error e
  | .ok (p, ts1) => match altL (seqR n alt) (ts1.length + 1) [p] ts1 with
    | .error e => .error e
    | .ok (l, ts2) => .ok (oneR 5 p.a l, ts2)
/-- One of several parts, d groups within one another at most. -/
def altR (n : Int) : Nat → List TokS → PRes
  | 0 => altOf n none
  | d + 1 => altOf n (some (altR n d))
def deeper (n : Int) : Nat → Option (List TokS → PRes)
  | 0 => none
  | d + 1 => some (altR n d)
theorem altR_eq (n : Int) (d : Nat) (ts : List TokS) : altR n d ts = altOf n (deeper n d) ts := by cases d <;> rfl

/-- No more tokens are left than there were. -/
def Short (f : List TokS → PRes) : Prop := ∀ ts p ts1, f ts = .ok (p, ts1) → ts1.length ≤ ts.length
theorem oftenR_len (p : PartS) (ts : List TokS) : (oftenR p ts).2.length ≤ ts.length := by
  unfold oftenR
  repeat' split
  all_goals simp
theorem takeR_len {n k : Int} {x : ByteArray} {ts : List TokS} {t : TokS} {ts1 : List TokS} (h : takeR n k x ts = .ok (t, ts1)) : ts1.length < ts.length := by
  cases ts with
  | nil => cases h
  | cons t0 ts =>
    simp only [takeR] at h
    split at h
    · simp only [Except.ok.injEq, Prod.mk.injEq] at h
      obtain ⟨rfl, rfl⟩ := h
      simp
    · cases h
theorem atomR_len {n : Int} {alt : Option (List TokS → PRes)} (ha : ∀ f, alt = some f → Short f) {ts : List TokS} {p : PartS} {ts1 : List TokS} (h : atomR n alt ts = .ok (some (p, ts1))) : ts1.length < ts.length := by
  cases ts with
  | nil => cases h
  | cons t rest =>
    simp only [atomR] at h
    split at h
    · simp only [Except.ok.injEq, Option.some.injEq, Prod.mk.injEq] at h
      obtain ⟨_, rfl⟩ := h
      simp
    · split at h
      · unfold groupR at h
        split at h
        · split at h
          · cases h
          · rename_i f
            split at h
            · cases h
            · rename_i q ts2 hf
              have h1 := ha f rfl _ _ _ hf
              split at h
              · cases h
              · rename_i t3 ts3 ht
                have h2 := takeR_len ht
                simp only [Except.ok.injEq, Option.some.injEq, Prod.mk.injEq] at h
                obtain ⟨_, rfl⟩ := h
                simp; omega
        · cases h
      · cases h
theorem seqL_len {atom : List TokS → Except Err (Option (PartS × List TokS))} (ha : ∀ ts p ts1, atom ts = .ok (some (p, ts1)) → ts1.length < ts.length) : ∀ f l ts l1 ts1, seqL atom f l ts = .ok (l1, ts1) → ts1.length ≤ ts.length
  | 0, l, ts, l1, ts1, h => by
    simp only [seqL, Except.ok.injEq, Prod.mk.injEq] at h
    rw [h.2]; exact Nat.le_refl _
  | f + 1, l, ts, l1, ts1, h => by
    unfold seqL at h
    split at h
    · cases h
    · simp only [Except.ok.injEq, Prod.mk.injEq] at h
      rw [h.2]; exact Nat.le_refl _
    · rename_i p ts2 hp
      have h1 := ha _ _ _ hp
      have h2 := seqL_len ha f _ _ _ _ h
      have h3 := oftenR_len p ts2
      omega
theorem seqR_short {n : Int} {alt : Option (List TokS → PRes)} (ha : ∀ f, alt = some f → Short f) : Short (seqR n alt) := by
  intro ts p ts1 h
  unfold seqR at h
  split at h
  · cases h
  · rename_i l ts2 hl
    simp only [Except.ok.injEq, Prod.mk.injEq] at h
    rw [← h.2]
    exact seqL_len (fun _ _ _ h => atomR_len ha h) _ _ _ _ _ hl
theorem altL_len {seq : List TokS → PRes} (hs : Short seq) : ∀ f l ts l1 ts1, altL seq f l ts = .ok (l1, ts1) → ts1.length ≤ ts.length
  | 0, l, ts, l1, ts1, h => by
    simp only [altL, Except.ok.injEq, Prod.mk.injEq] at h
    rw [h.2]; exact Nat.le_refl _
  | f + 1, l, ts, l1, ts1, h => by
    unfold altL at h
    split at h
    · split at h
      · cases h
      · rename_i p ts2 hp
        have h1 := hs _ _ _ hp
        have h2 := altL_len hs f _ _ _ _ h
        simp at h1; omega
    · simp only [Except.ok.injEq, Prod.mk.injEq] at h
      rw [h.2]; exact Nat.le_refl _
theorem altOf_short {n : Int} {alt : Option (List TokS → PRes)} (ha : ∀ f, alt = some f → Short f) : Short (altOf n alt) := by
  intro ts p ts1 h
  unfold altOf at h
  split at h
  · cases h
  · rename_i q ts2 hq
    have h1 := seqR_short ha _ _ _ hq
    split at h
    · cases h
    · rename_i l ts3 hl
      have h2 := altL_len (seqR_short ha) _ _ _ _ _ hl
      simp only [Except.ok.injEq, Prod.mk.injEq] at h
      rw [← h.2]; omega
theorem altR_short (n : Int) : ∀ d, Short (altR n d)
  | 0 => altOf_short (fun f h => by cases h)
  | d + 1 => altOf_short (fun f h => by cases h; exact altR_short n d)
theorem deeper_short (n : Int) (d : Nat) : ∀ f, deeper n d = some f → Short f := by
  cases d with
  | zero => intro f h; cases h
  | succ d => intro f h; cases h; exact altR_short n d

/-- What a part's maker hands back. -/
def PartPost (S : List Nat) (b : Nat) (n deep : Int) (w : World) (r : PRes) (e : Ending) (w' : World) : Prop :=
  Keep [b] w w' ∧ match r with
    | .ok (p, ts) => ∃ row, e = .returned (.agg row) ∧ PartAt S w' p row ∧ Rdr S w' b ts n deep
    | .error x => e = PanE x
def AtomPost (S : List Nat) (b : Nat) (n deep : Int) (w : World) (ts0 : List TokS) (r : Except Err (Option (PartS × List TokS))) (e : Ending) (w' : World) : Prop :=
  Keep [b] w w' ∧ match r with
    | .ok (some (p, ts)) => ∃ row, e = .returned (.tuple #[.agg row, .bool true]) ∧ PartAt S w' p row ∧ Rdr S w' b ts n deep
    | .ok none => e = .returned (.tuple #[.agg #[.int .i64 0, .string { data := #[] }, .slice none 0 0, .slice none 0 0, .int .i64 0], .bool false]) ∧ Rdr S w' b ts0 n deep
    | .error x => e = PanE x
end Go.Proofs.YtbpidoiellcccaaGreatDoor
namespace Go.Proofs.YtbpidoiellcccaaGreatDoor
open Go Go.RowKit

def partZ : Array Value := #[.int .i64 0, .string { data := #[] }, .slice none 0 0, .slice none 0 0, .int .i64 0]
/-- The first row of a slice of parts. -/
theorem Parts.head {S : List Nat} {w : World} {v : Value} {p : PartS} {l : List PartS} (h : SlOf PartAt S w 5 v (p :: l)) : ∃ b o c k t A n C B m D a, v = .slice (some ⟨b, o, none⟩) (l.length + 1) c ∧ (k = p.k ∧ a = p.a) ∧
    w.cell? ⟨b, o, none⟩ = some (.int .i64 k) ∧ w.cell? ⟨b, o + 1, none⟩ = some (.string t) ∧ w.cell? ⟨b, o + 2, none⟩ = some (.slice A n C) ∧ w.cell? ⟨b, o + 3, none⟩ = some (.slice B m D) ∧ w.cell? ⟨b, o + 4, none⟩ = some (.int .i64 a) ∧
    PartAt S w p #[.int .i64 k, .string t, .slice A n C, .slice B m D, .int .i64 a] := by
  obtain ⟨a, c, rfl, hm, hr⟩ := SlOf.at h
  obtain ⟨b, o, rfl, hb, hc⟩ := hr (by simp)
  obtain ⟨row, hz, hcell, hR⟩ := hc 0 (by simp)
  have hR' : PartAt S w p row := hR
  obtain ⟨k, t, A, n, C, B, m, D, a, rfl, h1, h2⟩ := PartAt.form hR'
  have e0 := hcell 0 (by omega)
  have e1 := hcell 1 (by omega)
  have e2 := hcell 2 (by omega)
  have e3 := hcell 3 (by omega)
  have e4 := hcell 4 (by omega)
  simp only [Nat.zero_mul, Nat.add_zero] at e0 e1 e2 e3 e4
  exact ⟨b, o, c, k, t, A, n, C, B, m, D, a, rfl, ⟨h1, h2⟩, e0, e1, e2, e3, e4, hR'⟩

set_option maxRecDepth 20000 in
set_option maxHeartbeats 2000000 in
theorem one_any (S : List Nat) (k a : Int) (v : Value) (l : List PartS) (w : World) (H : SlOf PartAt S w 5 v l) :
    Calls Tryz.prog 101 #[.int .i64 k, .int .i64 a, v] w fun e w' => (∃ row, e = .returned (.agg row) ∧ PartAt S w' (oneR k a l) row) ∧ Keep [] w w' := by
  have K0 := (Keep.refl [] w).alloc (.cells partZ 85)
  have H1 : SlOf PartAt S (w.alloc (.cells partZ 85)) 5 v l := SlOf.move H partAt_stab (by omega) K0 (by simp) (fun x hx => .inl hx)
  have fin : ∀ (A : Option Addr) (C : Nat), v = .slice A l.length C → (∃ row, (Ending.returned (.agg #[.int .i64 k, .string { data := #[] }, .slice none 0 0, .slice A l.length C, .int .i64 a]) : Ending) = .returned (.agg row) ∧ PartAt S (w.alloc (.cells #[.int .i64 k, .string { data := #[] }, .slice none 0 0, .slice A l.length C, .int .i64 a] 85)) (.mk k ⟨#[]⟩ [] l a) row) ∧ Keep [] w (w.alloc (.cells #[.int .i64 k, .string { data := #[] }, .slice none 0 0, .slice A l.length C, .int .i64 a] 85)) := fun A C e =>
    ⟨⟨_, rfl, PartAt.of (Sl.nil _ _ _) (SlOf.move (e ▸ H) partAt_stab (by omega) ((Keep.refl [] w).alloc _) (by simp) (fun x hx => .inl hx))⟩, (Keep.refl _ _).alloc _⟩
  have FIN := Lib.hid fin; clear fin
  match l, H, H1, FIN with
  | [], H, H1, FIN =>
    obtain ⟨A, C, rfl, _⟩ := SlOf.at H
    have hb : (((0 : Nat) : Int) == 1) = false := rfl
    go_enter Tryz.func101, Tryz.ntmps101
    go_wp2
    exact bodyPost_ret (v := .agg #[.int .i64 k, .string { data := #[] }, .slice none 0 0, .slice A 0 C, .int .i64 a]) (by simp [results, Tryz.results101, go_sem]) rfl (FIN.out A C rfl)
  | [p], H, H1, FIN =>
    clear FIN
    obtain ⟨B, o, c, k', t, A', n', C', B', m', D', a', hv, hka, c0, c1, c2, c3, c4, hp⟩ := Parts.head H
    clear hka
    rw [show ([] : List PartS).length + 1 = 1 from rfl] at hv
    subst hv
    have c0 := K0.cell c0 (by simp)
    have c1 := K0.cell c1 (by simp)
    have c2 := K0.cell c2 (by simp)
    have c3 := K0.cell c3 (by simp)
    have c4 := K0.cell c4 (by simp)
    unfold partZ at c0 c1 c2 c3 c4
    go_enter Tryz.func101, Tryz.ntmps101
    go_wp2
    exact bodyPost_ret (v := .agg #[.int .i64 k', .string t, .slice A' n' C', .slice B' m' D', .int .i64 a']) (by simp [results, Tryz.results101, go_sem]) rfl ⟨⟨_, rfl, partAt_stab _ _ _ _ _ _ _ hp ((Keep.refl [] w).alloc _) (by simp) (fun x hx => .inl hx)⟩, (Keep.refl _ _).alloc _⟩
  | p :: q :: l, H, H1, FIN =>
    obtain ⟨A, C, rfl, _⟩ := SlOf.at H
    have hb : ((l.length : Int) + 1 + 1 == 1) = false := by simp; omega
    go_enter Tryz.func101, Tryz.ntmps101
    go_wp2
    exact bodyPost_ret (v := .agg #[.int .i64 k, .string { data := #[] }, .slice none 0 0, .slice A (l.length + 1 + 1) C, .int .i64 a]) (by simp [results, Tryz.results101, go_sem]) rfl (FIN.out A C rfl)

/-- The five stores of a struct of five cells. -/
def set5 (w : World) (b : Nat) (x0 x1 x2 x3 x4 : Value) : World := ((((w.setCell ⟨b, 0, none⟩ x0).setCell ⟨b, 1, none⟩ x1).setCell ⟨b, 2, none⟩ x2).setCell ⟨b, 3, none⟩ x3).setCell ⟨b, 4, none⟩ x4
theorem Keep.set5 {S : List Nat} {a w : World} (h : Keep S a w) {b : Nat} (hp : b ∈ S ∨ a.heap.size ≤ b) (x0 x1 x2 x3 x4 : Value) : Keep S a (Proofs.YtbpidoiellcccaaGreatDoor.set5 w b x0 x1 x2 x3 x4) :=
  ((((h.setCell (p := ⟨b, 0, none⟩) hp _).setCell (p := ⟨b, 1, none⟩) hp _).setCell (p := ⟨b, 2, none⟩) hp _).setCell (p := ⟨b, 3, none⟩) hp _).setCell (p := ⟨b, 4, none⟩) hp _
theorem Blk.set5 {w : World} {b : Nat} {y0 y1 y2 y3 y4 : Value} {T : TypeId} (h : Blk w b #[y0, y1, y2, y3, y4] T) (x0 x1 x2 x3 x4 : Value) : Blk (Proofs.YtbpidoiellcccaaGreatDoor.set5 w b x0 x1 x2 x3 x4) b #[x0, x1, x2, x3, x4] T := by
  simpa [Proofs.YtbpidoiellcccaaGreatDoor.set5] using ((((h.set 0 x0).set 1 x1).set 2 x2).set 3 x3).set 4 x4
theorem size_set5 (w : World) (b : Nat) (x0 x1 x2 x3 x4 : Value) : (Proofs.YtbpidoiellcccaaGreatDoor.set5 w b x0 x1 x2 x3 x4).heap.size = w.heap.size := by simp [Proofs.YtbpidoiellcccaaGreatDoor.set5, World.setCell]

/-- Which signs tell how often: the sign, and the kind. -/
def oftT : Array Value := #[.string { data := #[42] }, .int .i64 6, .string { data := #[43] }, .int .i64 7, .string { data := #[63] }, .int .i64 8]
/-- What the walk of often knows at the head of a round. -/
def OftAt (S : List Nat) (b : Nat) (ts : List TokS) (n deep : Int) (p : PartS) (row : Array Value) (w : World) (i : Value) (wr : World) : Prop :=
  ∃ k : Nat, k ≤ 3 ∧ i = .int .i64 k ∧ Blk wr w.heap.size row 85 ∧ Blk wr (w.heap.size + 1) partZ 85 ∧ Blk wr (w.heap.size + 2) oftT 210 ∧
    Rdr ((w.heap.size + 1) :: S) wr b ts n deep ∧ PartAt ((w.heap.size + 1) :: S) wr p row ∧ Keep [b] w wr ∧ Hid ((0 < k → isR 4 (sg 42) ts = false) ∧ (1 < k → isR 4 (sg 43) ts = false) ∧ (2 < k → isR 4 (sg 63) ts = false))

theorem often_fin {S : List Nat} {b : Nat} {ts : List TokS} {n deep : Int} {p : PartS} {row : Array Value} {w w2 : World} {B2 : Nat} (k : Int) (hS : b ∈ S) (hSl : ∀ x ∈ S, x < w.heap.size) (R2 : Rdr (B2 :: S) w2 b ts n deep) (hp : PartAt (B2 :: S) w2 p row) (K : Keep [b] w w2) (hB : w.heap.size ≤ B2) (hBb : b ≠ B2) :
    PartAt S ((set5 w2 B2 (.int .i64 k) (.string { data := #[] }) (.slice none 0 0) (.slice (some ⟨w2.heap.size, 0, none⟩) 1 1) (.int .i64 p.a)).alloc (.cells row 85)) (.mk k ⟨#[]⟩ [] [p] p.a) #[.int .i64 k, .string { data := #[] }, .slice none 0 0, .slice (some ⟨w2.heap.size, 0, none⟩) 1 1, .int .i64 p.a] ∧
    Rdr S ((set5 w2 B2 (.int .i64 k) (.string { data := #[] }) (.slice none 0 0) (.slice (some ⟨w2.heap.size, 0, none⟩) 1 1) (.int .i64 p.a)).alloc (.cells row 85)) b ts n deep ∧
    Keep [b] w ((set5 w2 B2 (.int .i64 k) (.string { data := #[] }) (.slice none 0 0) (.slice (some ⟨w2.heap.size, 0, none⟩) 1 1) (.int .i64 p.a)).alloc (.cells row 85)) := by
  have hBS : B2 ∉ S := fun h => by have := hSl _ h; omega
  have hw2 : w2.heap.size ∉ S := fun h => by have := hSl _ h; have := K.size; omega
  have K5 : Keep [B2] w2 ((set5 w2 B2 (.int .i64 k) (.string { data := #[] }) (.slice none 0 0) (.slice (some ⟨w2.heap.size, 0, none⟩) 1 1) (.int .i64 p.a)).alloc (.cells row 85)) := ((Keep.refl _ _).set5 (by simp) _ _ _ _ _).alloc _
  have hS5 : ∀ x ∈ S, x ∈ B2 :: S ∨ w2.heap.size ≤ x := fun x hx => .inl (by simp [hx])
  have hp5 := partAt_stab _ _ S _ _ _ _ hp K5 (by simp) hS5
  refine ⟨PartAt.of (Sl.nil _ _ _) ⟨[row], Sl.of_blk (xs := [row]) 1 (Blk.new' _ _ _ (by rw [size_set5])) hw2 ⟨by simp, by simp⟩ (fun i hi => ?_), rfl, fun i hi hi' => ?_⟩, R2.move K5 (fun x hx => .inl ?_) hS5, (((K.mono (S' := [b]) (fun k hk => .inl hk)).set5 (b := B2) (.inr hB) _ _ _ _ _).alloc _)⟩
  · obtain rfl : i = 0 := by simpa using hi
    exact ⟨hp.size, fun j hj => by simp⟩
  · obtain rfl : i = 0 := by simpa using hi
    exact hp5
  · simp at hx
    subst hx
    exact ⟨by simp, fun h => hBb h.symm⟩

set_option maxRecDepth 20000 in
set_option maxHeartbeats 4000000 in
theorem often_any (S : List Nat) (b : Nat) (ts : List TokS) (n deep : Int) (p : PartS) (row : Array Value) (w : World) (H : Rdr S w b ts n deep) (hS : b ∈ S) (hSl : ∀ x ∈ S, x < w.heap.size) (hp : PartAt S w p row) :
    Calls Tryz.prog 127 #[.pointer (some ⟨b, 0, none⟩), .agg row] w fun e w' => (∃ row', e = .returned (.agg row') ∧ PartAt S w' (oftenR p ts).1 row') ∧ Rdr S w' b (oftenR p ts).2 n deep ∧ Keep [b] w w' := by
  have hp' := hp
  obtain ⟨k, t, A, m, C, B, m', D, a, hrow, rfl, rfl⟩ := PartAt.form hp'
  subst hrow
  have hst : OftAt S b ts n deep p #[.int .i64 p.k, .string t, .slice A m C, .slice B m' D, .int .i64 p.a] w (.int .i64 0) (((w.alloc (.cells #[.int .i64 p.k, .string t, .slice A m C, .slice B m' D, .int .i64 p.a] 85)).alloc (.cells partZ 85)).alloc (.cells oftT 210)) := by
    have K0 : Keep [] w (((w.alloc (.cells #[.int .i64 p.k, .string t, .slice A m C, .slice B m' D, .int .i64 p.a] 85)).alloc (.cells partZ 85)).alloc (.cells oftT 210)) := (((Keep.refl _ _).alloc _).alloc _).alloc _
    refine ⟨0, by omega, rfl, ((Blk.new _ _ _).alloc _).alloc _, (Blk.new' _ _ _ (by simp)).alloc _, Blk.new' _ _ _ (by simp), H.move K0 (by simp) (fun x hx => by rcases List.mem_cons.1 hx with rfl | h; exact .inr (by omega); exact .inl h), partAt_stab _ _ _ _ _ _ _ hp K0 (by simp) (fun x hx => by rcases List.mem_cons.1 hx with rfl | h; exact .inr (by omega); exact .inl h), K0.mono (by simp), ?_⟩
    exact ⟨fun h => by omega, fun h => by omega, fun h => by omega⟩
  have HST := Lib.hid hst; clear hst
  have hblt := H.lt
  go_enter Tryz.func127, Tryz.ntmps127
  go_wp2
  go_loopw [12] (fun i wr => OftAt S b ts n deep p #[.int .i64 p.k, .string t, .slice A m C, .slice B m' D, .int .i64 p.a] w i wr) (fun i _ => 3 - (intOf i).toNat)
  case atStart => exact HST.out
  case round =>
    clear HST
    obtain ⟨k, hk, rfl, B1, B2, B3, Hr, hpr, Kr, hn⟩ := hrel
    have c1 := B1.cell
    have c2 := B2.cell
    have c3 := B3.cell
    have f2 := B2.frozen
    unfold partZ at c2
    unfold oftT at c3
    have hb1 := B1.lt
    have hb2 := B2.lt
    have hb3 := B3.lt
    have hk4 : k = 0 ∨ k = 1 ∨ k = 2 ∨ k = 3 := by omega
    rcases hk4 with rfl | rfl | rfl | rfl
    · go_wp2_with fail
      refine (sign2_any ((w.heap.size + 1) :: S) b ts n deep (sg 42) _ (Hr.move ((Keep.refl [] _).alloc _) (by simp) (fun x hx => .inl hx)) (by simp [hS])).mono ?_
      rintro e w2 ⟨rfl, R2, K2⟩
      have K3 : Keep [b] wr w2 := ((Keep.refl [b] _).alloc _).trans K2
      have C1 := B1.keep K3 (by simp; omega)
      have C2 := B2.keep K3 (by simp; omega)
      have C3 := B3.keep K3 (by simp; omega)
      have e1 := C1.lt
      have e2 := C2.lt
      have d1 := C1.cell
      have d2 := C2.cell
      have f2 := C2.frozen
      have b2 := (Blk.new wr #[.string { data := #[42] }, .int .i64 6] 210).keep K2 (by simp; omega)
      have d4 := b2.cell
      unfold partZ at d2
      have hp2 := partAt_stab _ _ _ _ _ _ _ hpr K3 (by simp [hS]) (fun x hx => .inl hx)
      cases hi : isR 4 (sg 42) ts
      · rw [hi] at R2
        simp only [Bool.false_eq_true, if_false] at R2
        have hn' := hn.out
        go_wp2
        clear hn
        refine ⟨⟨0 + 1, by omega, rfl, C1, C2, C3, R2, hp2, Kr.trans K3, ?_⟩, by simp [intOf]⟩
        exact ⟨fun _ => hi, fun h => by omega, fun h => by omega⟩
      · rw [hi] at R2
        simp only [if_true] at R2
        have hof : oftenR p ts = (.mk 6 ⟨#[]⟩ [] [p] p.a, ts.tail) := by
          have hn' := hn.out
          unfold oftenR
          rw [if_pos hi]
        have HOF := Lib.hid hof; clear hof
        have fin := often_fin 6 hS hSl R2 hp2 (Kr.trans K3) (show w.heap.size ≤ w.heap.size + 1 by omega) (by omega)
        have FIN := Lib.hid fin; clear fin
        have BF := (C2.set5 (.int .i64 6) (.string { data := #[] }) (.slice none 0 0) (.slice (some ⟨w2.heap.size, 0, none⟩) 1 1) (.int .i64 p.a)).alloc (.cells #[.int .i64 p.k, .string t, .slice A m C, .slice B m' D, .int .i64 p.a] 85)
        have cF := BF.cell
        unfold set5 at cF
        have CF := Lib.hid cF; clear cF BF
        go_wp2
        have cF := CF.out
        refine bodyPost_ret (v := .agg #[.int .i64 6, .string { data := #[] }, .slice none 0 0, .slice (some ⟨w2.heap.size, 0, none⟩) 1 1, .int .i64 p.a]) (by simp [results, Tryz.results127, go_sem, cF]) rfl ?_
        rw [HOF.out]
        exact ⟨⟨_, rfl, FIN.out.1⟩, FIN.out.2⟩
    · go_wp2_with fail
      refine (sign2_any ((w.heap.size + 1) :: S) b ts n deep (sg 43) _ (Hr.move ((Keep.refl [] _).alloc _) (by simp) (fun x hx => .inl hx)) (by simp [hS])).mono ?_
      rintro e w2 ⟨rfl, R2, K2⟩
      have K3 : Keep [b] wr w2 := ((Keep.refl [b] _).alloc _).trans K2
      have C1 := B1.keep K3 (by simp; omega)
      have C2 := B2.keep K3 (by simp; omega)
      have C3 := B3.keep K3 (by simp; omega)
      have e1 := C1.lt
      have e2 := C2.lt
      have d1 := C1.cell
      have d2 := C2.cell
      have f2 := C2.frozen
      have b2 := (Blk.new wr #[.string { data := #[43] }, .int .i64 7] 210).keep K2 (by simp; omega)
      have d4 := b2.cell
      unfold partZ at d2
      have hp2 := partAt_stab _ _ _ _ _ _ _ hpr K3 (by simp [hS]) (fun x hx => .inl hx)
      cases hi : isR 4 (sg 43) ts
      · rw [hi] at R2
        simp only [Bool.false_eq_true, if_false] at R2
        have hn' := hn.out
        go_wp2
        clear hn
        refine ⟨⟨1 + 1, by omega, rfl, C1, C2, C3, R2, hp2, Kr.trans K3, ?_⟩, by simp [intOf]⟩
        exact ⟨fun _ => hn'.1 (by omega), fun _ => hi, fun h => by omega⟩
      · rw [hi] at R2
        simp only [if_true] at R2
        have hof : oftenR p ts = (.mk 7 ⟨#[]⟩ [] [p] p.a, ts.tail) := by
          have hn' := hn.out
          unfold oftenR
          rw [if_neg (by rw [hn'.1 (by omega)]; simp), if_pos hi]
        have HOF := Lib.hid hof; clear hof
        have fin := often_fin 7 hS hSl R2 hp2 (Kr.trans K3) (show w.heap.size ≤ w.heap.size + 1 by omega) (by omega)
        have FIN := Lib.hid fin; clear fin
        have BF := (C2.set5 (.int .i64 7) (.string { data := #[] }) (.slice none 0 0) (.slice (some ⟨w2.heap.size, 0, none⟩) 1 1) (.int .i64 p.a)).alloc (.cells #[.int .i64 p.k, .string t, .slice A m C, .slice B m' D, .int .i64 p.a] 85)
        have cF := BF.cell
        unfold set5 at cF
        have CF := Lib.hid cF; clear cF BF
        go_wp2
        have cF := CF.out
        refine bodyPost_ret (v := .agg #[.int .i64 7, .string { data := #[] }, .slice none 0 0, .slice (some ⟨w2.heap.size, 0, none⟩) 1 1, .int .i64 p.a]) (by simp [results, Tryz.results127, go_sem, cF]) rfl ?_
        rw [HOF.out]
        exact ⟨⟨_, rfl, FIN.out.1⟩, FIN.out.2⟩
    · go_wp2_with fail
      refine (sign2_any ((w.heap.size + 1) :: S) b ts n deep (sg 63) _ (Hr.move ((Keep.refl [] _).alloc _) (by simp) (fun x hx => .inl hx)) (by simp [hS])).mono ?_
      rintro e w2 ⟨rfl, R2, K2⟩
      have K3 : Keep [b] wr w2 := ((Keep.refl [b] _).alloc _).trans K2
      have C1 := B1.keep K3 (by simp; omega)
      have C2 := B2.keep K3 (by simp; omega)
      have C3 := B3.keep K3 (by simp; omega)
      have e1 := C1.lt
      have e2 := C2.lt
      have d1 := C1.cell
      have d2 := C2.cell
      have f2 := C2.frozen
      have b2 := (Blk.new wr #[.string { data := #[63] }, .int .i64 8] 210).keep K2 (by simp; omega)
      have d4 := b2.cell
      unfold partZ at d2
      have hp2 := partAt_stab _ _ _ _ _ _ _ hpr K3 (by simp [hS]) (fun x hx => .inl hx)
      cases hi : isR 4 (sg 63) ts
      · rw [hi] at R2
        simp only [Bool.false_eq_true, if_false] at R2
        have hn' := hn.out
        go_wp2
        clear hn
        refine ⟨⟨2 + 1, by omega, rfl, C1, C2, C3, R2, hp2, Kr.trans K3, ?_⟩, by simp [intOf]⟩
        exact ⟨fun _ => hn'.1 (by omega), fun _ => hn'.2.1 (by omega), fun _ => hi⟩
      · rw [hi] at R2
        simp only [if_true] at R2
        have hof : oftenR p ts = (.mk 8 ⟨#[]⟩ [] [p] p.a, ts.tail) := by
          have hn' := hn.out
          unfold oftenR
          rw [if_neg (by rw [hn'.1 (by omega)]; simp), if_neg (by rw [hn'.2.1 (by omega)]; simp), if_pos hi]
        have HOF := Lib.hid hof; clear hof
        have fin := often_fin 8 hS hSl R2 hp2 (Kr.trans K3) (show w.heap.size ≤ w.heap.size + 1 by omega) (by omega)
        have FIN := Lib.hid fin; clear fin
        have BF := (C2.set5 (.int .i64 8) (.string { data := #[] }) (.slice none 0 0) (.slice (some ⟨w2.heap.size, 0, none⟩) 1 1) (.int .i64 p.a)).alloc (.cells #[.int .i64 p.k, .string t, .slice A m C, .slice B m' D, .int .i64 p.a] 85)
        have cF := BF.cell
        unfold set5 at cF
        have CF := Lib.hid cF; clear cF BF
        go_wp2
        have cF := CF.out
        refine bodyPost_ret (v := .agg #[.int .i64 8, .string { data := #[] }, .slice none 0 0, .slice (some ⟨w2.heap.size, 0, none⟩) 1 1, .int .i64 p.a]) (by simp [results, Tryz.results127, go_sem, cF]) rfl ?_
        rw [HOF.out]
        exact ⟨⟨_, rfl, FIN.out.1⟩, FIN.out.2⟩
    · have hn' := hn.out
      have hof : oftenR p ts = (p, ts) := by
        unfold oftenR
        rw [if_neg (by rw [hn'.1 (by omega)]; simp), if_neg (by rw [hn'.2.1 (by omega)]; simp), if_neg (by rw [hn'.2.2 (by omega)]; simp)]
      have HOF := Lib.hid hof; clear hof hn hn'
      have KF : Keep [w.heap.size + 1] wr (set5 wr (w.heap.size + 1) (.int .i64 p.k) (.string t) (.slice A m C) (.slice B m' D) (.int .i64 p.a)) := (Keep.refl _ _).set5 (by simp) _ _ _ _ _
      have hS5 : ∀ x ∈ S, x ∈ (w.heap.size + 1) :: S ∨ wr.heap.size ≤ x := fun x hx => .inl (by simp [hx])
      have hp5 := partAt_stab _ _ S _ _ _ _ hpr KF (by simp) hS5
      have R5 := Hr.move KF (fun x hx => .inl (by simp at hx; subst hx; exact ⟨by simp, by omega⟩)) hS5
      have K5 := Kr.set5 (b := w.heap.size + 1) (.inr (by omega)) (.int .i64 p.k) (.string t) (.slice A m C) (.slice B m' D) (.int .i64 p.a)
      have BF := B2.set5 (.int .i64 p.k) (.string t) (.slice A m C) (.slice B m' D) (.int .i64 p.a)
      have cF := BF.cell
      unfold set5 at cF
      have CF := Lib.hid cF; clear cF BF
      go_wp2
      have cF := CF.out
      refine bodyPost_ret (v := .agg #[.int .i64 p.k, .string t, .slice A m C, .slice B m' D, .int .i64 p.a]) (by simp [results, Tryz.results127, go_sem, cF]) rfl ?_
      rw [HOF.out]
      exact ⟨⟨_, rfl, hp5⟩, R5, K5⟩
end Go.Proofs.YtbpidoiellcccaaGreatDoor
namespace Go.Proofs.YtbpidoiellcccaaGreatDoor
open Go Go.RowKit

set_option maxRecDepth 20000 in
set_option maxHeartbeats 4000000 in
theorem plain_any (S : List Nat) (b : Nat) (t : TokS) (ts : List TokS) (n deep : Int) (w : World) (H : Rdr S w b (t :: ts) n deep) (hS : b ∈ S) (hSl : ∀ x ∈ S, x < w.heap.size) (hk0 : 0 ≤ t.k) (hk3 : t.k ≤ 3) :
    Calls Tryz.prog 152 #[.pointer (some ⟨b, 0, none⟩)] w (AtomPost S b n deep w (t :: ts) (.ok (some (.mk t.k t.t t.r [] t.a, ts)))) := by
  have hblt := H.lt
  have hT := H
  obtain ⟨v, hB, hT⟩ := hT
  obtain ⟨B, o, c, A, m, C, rfl, hb, c0, c1, c2, c3, _⟩ := hT.head
  have K0 := (Keep.refl [] w).alloc (.cells partZ 85)
  have h0 := K0.cell (show w.cell? ⟨b, 0, none⟩ = some (.slice (some ⟨B, o, none⟩) (ts.length + 1) c) from hB.cell 0) (by simp)
  have c0 := K0.cell c0 (by simp)
  unfold partZ at h0 c0
  have R0 := H.move (S' := w.heap.size :: S) K0 (by simp) (fun x hx => by rcases List.mem_cons.1 hx with rfl | h; exact .inr (by omega); exact .inl h)
  unfold partZ at R0
  have htk : takeR n t.k { data := #[] } (t :: ts) = .ok (t, ts) := by simp [takeR, isR]
  go_enter Tryz.func152, Tryz.ntmps152
  go_wp2_with fail
  refine (take_any (w.heap.size :: S) b (t :: ts) n deep t.k { data := #[] } _ R0 (by simp [hS])).mono ?_
  rw [htk]
  rintro e w1 ⟨K1, A2, m2, C2, rfl, hR2, R2⟩
  have B1 := (Blk.new w partZ 85).keep K1 (by simp; omega)
  have hl1 := B1.lt
  have cB := B1.cell
  have fB := B1.frozen
  unfold partZ at cB
  have hk : t.k = 0 ∨ t.k = 1 ∨ t.k = 2 ∨ t.k = 3 := by omega
  have BF := B1.set5 (.int .i64 t.k) (.string t.t) (.slice A2 m2 C2) (.slice none 0 0) (.int .i64 t.a)
  have fin : ∀ W, W = (((set5 w1 w.heap.size (.int .i64 t.k) (.string t.t) (.slice A2 m2 C2) (.slice none 0 0) (.int .i64 t.a)).alloc (.cells #[.int .i64 t.k, .string t.t, .slice A2 m2 C2, .int .i64 t.a] 132)).alloc (.cells #[.int .i64 0, .int .i64 1, .int .i64 2, .int .i64 3] 234)).drew →
      Keep [b] w W ∧ (∀ j, W.cell? ⟨w.heap.size, j, none⟩ = #[.int .i64 t.k, .string t.t, .slice A2 m2 C2, .slice none 0 0, .int .i64 t.a][j]?) ∧ PartAt S W (.mk t.k t.t t.r [] t.a) #[.int .i64 t.k, .string t.t, .slice A2 m2 C2, .slice none 0 0, .int .i64 t.a] ∧ Rdr S W b ts n deep := by
    rintro W rfl
    have KF : Keep [w.heap.size] w1 (((set5 w1 w.heap.size (.int .i64 t.k) (.string t.t) (.slice A2 m2 C2) (.slice none 0 0) (.int .i64 t.a)).alloc (.cells #[.int .i64 t.k, .string t.t, .slice A2 m2 C2, .int .i64 t.a] 132)).alloc (.cells #[.int .i64 0, .int .i64 1, .int .i64 2, .int .i64 3] 234)).drew := ((((Keep.refl _ _).set5 (by simp) _ _ _ _ _).alloc _).alloc _).drew
    have hS5 : ∀ x ∈ S, x ∈ w.heap.size :: S ∨ w1.heap.size ≤ x := fun x hx => .inl (by simp [hx])
    exact ⟨((((K0.mono (S' := [b]) (by simp)).trans K1).set5 (b := w.heap.size) (.inr (Nat.le_refl _)) _ _ _ _ _).alloc _).alloc _ |>.drew, (((BF.alloc _).alloc _).drew).cell, PartAt.of (Sl.move hR2 (by omega) KF (by simp) hS5) (SlOf.nil _ _ _), R2.move KF (fun x hx => .inl (by simp at hx; subst hx; exact ⟨by simp, by omega⟩)) hS5⟩
  have FIN := Lib.hid fin; clear fin BF
  rcases hk with hk | hk | hk | hk
  all_goals
    go_wp2
    go_region
    go_wp2
    have fin := FIN.out _ rfl
    unfold set5 at fin
    rw [hk] at fin
    obtain ⟨g1, g2, g3, g4⟩ := fin
    refine bodyPost_ret (v := .tuple #[.agg #[.int .i64 t.k, .string t.t, .slice A2 m2 C2, .slice none 0 0, .int .i64 t.a], .bool true]) (by rw [hk]; simp [results, Tryz.results152, go_sem, g2]) rfl ⟨g1, ?_⟩
    rw [hk]
    exact ⟨_, rfl, g3, g4⟩
end Go.Proofs.YtbpidoiellcccaaGreatDoor
