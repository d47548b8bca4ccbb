/- Who comes tg whom: the walk of comes. -/
import Derived.Test.YtbpidoiellcccaaGreatDoorK23
import Derived.Test.YtbpidoiellcccaaGreatDoorK15
import Derived.Test.YtbpidoiellcccaaGreatDoorK24
import Derived.Deep.DeepCutAuto
import Derived.Test.YtbpidoiellcccaaGreatDoorK14
import Derived.Test.YtbpidoiellcccaaGreatDoorK16
set_option linter.unusedVariables false
set_option linter.unusedSimpArgs false
namespace Go.Proofs.YtbpidoiellcccaaGreatDoor
open Go Go.RowKit Go.MapKept

theorem wp_append_que {o : Oper} {a : Act} {K : Act → World → Prop} {Q : Exit → Act → World → Prop} (s x : Operand) (t : TypeId) (ho : o.op = .call { callee := .builtin .append, args := #[s, x], argTypes := #[t, t] }) (ht : Tryz.prog.underlying t = some (.slice 3))
    {w : World} {base b : Nat} {v : Value} {xs : List Int} {z : Int} (hs : a.eval s = v) (hx : a.eval x = .slice (some ⟨b, 0, none⟩) 1 1) (h : QueV w base v xs) (hB : w.cell? ⟨b, 0, none⟩ = some (.int .i64 z)) (hl : xs.length + 1 ≤ 1000000) (hbase : base ≤ w.heap.size)
    (hK : ∀ A' C' w', QueV w' base (.slice A' (xs.length + 1) C') (xs ++ [z]) → Keep (ownB v) w w' → (∀ c ∈ ownB (.slice A' (xs.length + 1) C'), c ∈ ownB v ∨ c = w.heap.size) → K (a.put o.dst (.slice A' (xs.length + 1) C')) w') : o.wp Tryz.prog a w K Q := by
  obtain ⟨i0, hi0, hz0, hz1, hz2⟩ := info_parts info_int
  obtain ⟨v', w', hr, h2, h3, h4, A', C', rfl⟩ := run_append_que (P := Tryz.prog) (ty := o.type) w base t i0 ht hi0 hz0 hz1 hz2 v xs z h b hB hl hbase
  unfold Oper.wp execOp
  simp only [ho, resolve, invoke, builtin, Sem.run_bind, Sem.run_pure, Result.andThen_ok, List.map_toArray, List.map_cons, List.map_nil, hs, hx, hr]
  exact hK A' C' w' h2 h3 h4
theorem wpList_append_que {ops : Array Oper} {rest : List Oper} {o : Oper} {a : Act} {Q : Exit → Act → World → Prop} (hgd : o.guard = none) (s x : Operand) (t : TypeId) (ho : o.op = .call { callee := .builtin .append, args := #[s, x], argTypes := #[t, t] }) (ht : Tryz.prog.underlying t = some (.slice 3))
    {w : World} {base b : Nat} {v : Value} {xs : List Int} {z : Int} (hs : a.eval s = v) (hx : a.eval x = .slice (some ⟨b, 0, none⟩) 1 1) (h : QueV w base v xs) (hB : w.cell? ⟨b, 0, none⟩ = some (.int .i64 z)) (hl : xs.length + 1 ≤ 1000000) (hbase : base ≤ w.heap.size)
    (hK : ∀ A' C' w', QueV w' base (.slice A' (xs.length + 1) C') (xs ++ [z]) → Keep (ownB v) w w' → (∀ c ∈ ownB (.slice A' (xs.length + 1) C'), c ∈ ownB v ∨ c = w.heap.size) → wpList Tryz.prog ops Q rest (a.put o.dst (.slice A' (xs.length + 1) C')) w') : wpList Tryz.prog ops Q (o :: rest) a w :=
  wpList_plain hgd fun _ hk2 => wp_append_que s x t ho ht hs hx h hB hl hbase fun A' C' w' h2 h3 h4 => hk2 _ _ (hK A' C' w' h2 h3 h4)
/-- The rounds' world: mb is the map's block. -/
def ComI (ps : List ProdS) (fr tg mb : Nat) (P : Nat → Prop) (W : World) (l : List Int) (q : List Int) (v : Value) (wr : World) : Prop :=
  SeenI ps fr tg P l q ∧ SetI wr mb l ∧ QueV wr W.heap.size v q ∧ mb ∉ ownB v ∧ W.heap.size ≤ mb ∧ Keep [] W wr
set_option maxRecDepth 20000 in
set_option maxHeartbeats 4000000 in
theorem comes_any (A K : Option Addr) (C m D : Nat) (ps : List ProdS) (fr tg : Nat) (w : World) (HP : Prods [] w (.slice A ps.length C) ps) (hN : ps.length ≤ 1000) (hf : fr < ps.length) :
    Calls Tryz.prog 30 #[.agg #[.slice A ps.length C, .slice K m D], .int .i64 fr, .int .i64 tg] w fun e w' => (∃ b, e = .returned (.bool b) ∧ (b = true ↔ Comes (lfP ps) fr tg)) ∧ Keep [] w w' := by
  have hmm := @run_makeMap Tryz.prog
  have K0 := (Keep.refl [] w).alloc (.cells #[.slice A ps.length C, .slice K m D] 25)
  have HP0 : Prods [] _ (.slice A ps.length C) ps := SlOf.move HP prodRow_stab (by omega) K0 (by simp) (fun x hx => .inl hx)
  have B0 := Blk.new w #[.slice A ps.length C, .slice K m D] 25
  have HH := Lib.hid (⟨HP0, B0, K0⟩ : _ ∧ _ ∧ _)
  have HSZ := Lib.hid (SeenI.zero (tg := tg) hf)
  clear HP HP0 B0 K0
  generalize hnn : ps.length = N at *
  have HNN := Lib.hid hnn
  clear hnn
  go_enter Tryz.func30, Tryz.ntmps30
  go_wp2
  go_loopw [8] (fun tv wr => ∃ (l q : List Int) (u : Nat), Hid (ComI ps fr tg (w.heap.size + 1) (fun _ => False) (w.alloc (.cells #[.slice A N C, .slice K m D] 25)) l q tv wr) ∧ Hid (u = 2 * (N - l.length) + q.length) ∧ u ≤ 3000) (fun tv wr => 2 * (N - entN wr (w.heap.size + 1)) + (match tv with | .slice _ k _ => k | _ => 0))
  case atStart =>
    have KX := ((Keep.refl [] (w.alloc (.cells #[.slice A N C, .slice K m D] 25))).alloc (.map #[] 0)).alloc (.cells #[.int .i64 (fr : Int)] 3)
    refine ⟨[], [(fr : Int)], _, Lib.hid ⟨HSZ.out, ?_, QueV.one (Blk.new' _ _ _ (by simp)) (by simp), fun h => by have := mem_ownB.1 h; omega, by simp, KX⟩, Lib.hid rfl, by simp; omega⟩
    have := SetI.new (w.alloc (.cells #[.slice A N C, .slice K m D] 25)) 0
    simp only [World.size_alloc] at this
    exact this.keep ((Keep.refl [] _).alloc _) (by simp)
  case round =>
    obtain ⟨l, q, u, HI, HU, hu⟩ := hrel
    obtain ⟨wo, rfl⟩ : ∃ wo : World, wo = wr := ⟨_, rfl⟩
    obtain ⟨hS, hset, hq, hmo, hmb, KW⟩ := HI.out
    obtain ⟨g, o, Cq, cur, rfl, hrest⟩ := id hq
    cases q with
    | nil =>
      have HF := Lib.hid (⟨hS.end, HH.out.2.2.trans KW⟩ : _ ∧ _)
      clear hS hset hq hmo hmb KW HI hrest
      rw [List.length_nil]
      go_wp2
      go_ret
      exact ⟨⟨_, rfl, by simpa using HF.out.1⟩, HF.out.2⟩
    | cons z q =>
      obtain ⟨n, rfl⟩ : ∃ n : Nat, z = n := by
        rcases hS.todo z List.mem_cons_self with h | h
        · exact ⟨fr, h⟩
        · obtain ⟨k, e, _⟩ := hS.sound z h; exact ⟨k, e⟩
      obtain ⟨hS2, hnN, hcn⟩ := hS.pop
      have c0 := hq.cell 0 (by simp)
      have hnth : nth ((n : Int) :: q) 0 = n := rfl
      rw [hnth, Nat.add_zero] at c0
      have hq2 := hq.tail
      have hCq : q.length + 1 ≤ Cq := by have := hrest.2.2.1; simpa using this
      have hlen := hS.len
      rw [HNN.out] at hlen hnN
      have hql : q.length ≤ 3000 := by have := HU.out; simp at this; omega
      have hS0 : l.length = entN wo (w.heap.size + 1) := (entN_of hset).symm
      have hd : ((q.length : Int) + 1 > 0) := by omega
      have hQ2 : Cq ≠ 1 → QueV wo (w.alloc (.cells #[.slice A N C, .slice K m D] 25)).heap.size (.slice (some ⟨g, o + 1, none⟩) q.length (Cq - 1)) q := fun _ => hq2
      have hQ1 : Cq = 1 → q = [] ∧ QueV wo (w.alloc (.cells #[.slice A N C, .slice K m D] 25)).heap.size (.slice (some ⟨g, o, none⟩) 0 0) [] := fun h1 => by
        have h0 : q = [] := List.eq_nil_of_length_eq_zero (by omega)
        refine ⟨h0, ?_⟩
        subst h0
        obtain ⟨hb, hg, h3, h4, h5, h6⟩ := hrest
        exact ⟨g, o, 0, cur, rfl, hb, hg, by simp, by omega, by omega, by simp⟩
      have HQQ := Lib.hid (⟨hQ1, hQ2⟩ : _ ∧ _)
      have HI2 := Lib.hid (⟨hS2, hset, hmo, hmb, KW, hcn⟩ : _ ∧ _ ∧ _ ∧ _ ∧ _ ∧ _)
      have b0 := (HH.out.2.1.keep KW (by simp)).cell 0
      have b1 := (HH.out.2.1.keep KW (by simp)).cell 1
      clear hS hS2 hset hq hmo hmb KW HI hrest hq2 hcn hQ1 hQ2 hnth
      simp only [List.length_cons] at HU
      rw [List.length_cons]
      generalize hqz : q.length = ql at *
      have HQZ := Lib.hid hqz
      clear hqz
      go_upto_region 5 with fail
      go_cut [8] from 21 to 22 (fun v wx => wx = wo ∧ ∃ o' C', v = .slice (some ⟨g, o', none⟩) ql C' ∧ QueV wo (w.alloc (.cells #[.slice A N C, .slice K m D] 25)).heap.size v q)
      case first =>
        by_cases hC1 : Cq = 1
        · have h := HQQ.out.1 hC1
          have h0 : ql = 0 := by have := HQZ.out; rw [h.1] at this; simpa using this.symm
          subst hC1
          subst h0
          have HR := Lib.hid h
          clear h
          go_wp2_with fail
          go_meet
          exact ⟨rfl, _, _, rfl, by rw [HR.out.1]; exact HR.out.2⟩
        · have HR := Lib.hid (HQQ.out.2 hC1)
          obtain ⟨c1, hc1⟩ : ∃ c1, Cq = c1 + 1 := ⟨Cq - 1, by omega⟩
          subst hc1
          have hc0 : c1 ≠ 0 := by omega
          go_wp2_with fail
          go_meet
          exact ⟨rfl, _, _, rfl, HR.out⟩
      case rest =>
        obtain ⟨rfl, o', C', rfl, hq'⟩ := hcut
        have HQ := Lib.hid hq'
        clear hq' HQQ hd hCq c0
        have hL := lefts_any A K C m D n [] ps wc (by rw [HNN.out]; exact SlOf.move HH.out.1 prodRow_stab (by omega) HI2.out.2.2.2.2.1 (by simp) (fun x hx => .inl hx)) (by simp) (by rw [HNN.out]; omega)
        rw [HNN.out] at hL
        have hin : ∀ z ∈ leftsR ps n, ∃ k : Nat, z = k ∧ lfP ps n k = true := fun z hz => by
          have h1 := leftsR_in z hz
          refine ⟨z.toNat, by omega, (lfP_mem (by rw [HNN.out]; exact hnN)).2 ?_⟩
          rw [show ((z.toNat : Nat) : Int) = z by omega]
          exact hz
        have HNX := Lib.hid (fun (l q : List Int) (h : SeenI ps fr tg (fun x => x = n) l q) (ha : ∀ z ∈ leftsR ps n, z ∈ l ∧ z ≠ (tg : Int)) => h.next ha)
        generalize leftsR ps n = L at *
        have HL := Lib.hid hL
        have HIN := Lib.hid hin
        clear hL hin
        go_wp2_with fail
        refine HL.out.mono ?_
        rintro e w1 ⟨⟨v, rfl, HV⟩, K1⟩
        obtain ⟨AL, CL, rfl, hll, hc⟩ := HV.cells
        obtain ⟨hS2, hset, hmo, hmb, KW, hcn⟩ := HI2.out
        have hbq := HQ.out.base
        have hmq : w.heap.size + 1 ∉ ownB (.slice (some ⟨g, o', none⟩) ql C') := fun h => hmo (mem_ownB.2 (mem_ownB.1 h))
        have hcc : 0 < L.length → ∃ b o, AL = some ⟨b, o, none⟩ ∧ b ≠ w.heap.size + 1 ∧ b ∉ ownB (.slice (some ⟨g, o', none⟩) ql C') ∧ b < w1.heap.size ∧ ∀ j (hj : j < L.length), w1.cell? ⟨b, o + j, none⟩ = some (.int .i64 (nth L j)) := fun h0 => by
          rcases HV with ⟨h, _⟩ | ⟨b, o, C', e, h1, h2, _, _, _⟩
          · rw [h] at h0; simp at h0
          · obtain ⟨b', o', e', hc'⟩ := hc h0
            simp only [Value.slice.injEq] at e
            obtain ⟨rfl, _, _⟩ := e
            simp only [Option.some.injEq, Addr.mk.injEq, and_true] at e'
            obtain ⟨rfl, rfl⟩ := e'
            have := hset.lt
            refine ⟨b, o, rfl, by omega, fun hb => ?_, h2, fun j hj => ?_⟩
            · have := (hbq b hb).2; omega
            · rw [hc' j hj]; simp [nth, hj]
        have hst : ComI ps fr tg (w.heap.size + 1) (fun x => x = n) (w.alloc (.cells #[.slice A N C, .slice K m D] 25)) l q (.slice (some ⟨g, o', none⟩) ql C') w1 := ⟨hS2, hset.keep K1 (by simp), HQ.out.keep K1 (by simp), hmq, hmb, KW.trans K1⟩
        have HST := Lib.hid (⟨hst, by simp, Keep.refl _ _, fun b hb => .inl hb⟩ : ComI ps fr tg (w.heap.size + 1) (fun x => x = n) (w.alloc (.cells #[.slice A N C, .slice K m D] 25)) l q (.slice (some ⟨g, o', none⟩) ql C') w1 ∧ (∀ z ∈ L.take 0, z ∈ l ∧ z ≠ (tg : Int)) ∧ Keep ((w.heap.size + 1) :: ownB (.slice (some ⟨g, o', none⟩) ql C')) w1 w1 ∧ ∀ b ∈ ownB (.slice (some ⟨g, o', none⟩) ql C'), b ∈ ownB (.slice (some ⟨g, o', none⟩) ql C') ∨ w1.heap.size ≤ b)
        have HCC := Lib.hid hcc
        have HCN := Lib.hid hcn
        have HUU := Lib.hid HU.out
        have hlz0 : ql ≤ 3000 := hql
        clear hst hcc hcn hS2 hset hmo hmb KW hc HV HL K1 hbq
        generalize hlz : L.length = ll at *
        have HLZ := Lib.hid hlz
        clear hlz b0 b1
        go_wp2
        go_loopw [8, 27] (fun tv jv wr => ∃ (j : Nat) (l2 q2 : List Int), jv = .int .i64 j ∧ j ≤ ll ∧ Hid (ComI ps fr tg (w.heap.size + 1) (fun x => x = n) (w.alloc (.cells #[.slice A N C, .slice K m D] 25)) l2 q2 tv wr ∧ (∀ z ∈ L.take j, z ∈ l2 ∧ z ≠ (tg : Int)) ∧ Keep ((w.heap.size + 1) :: ownB (.slice (some ⟨g, o', none⟩) ql C')) w1 wr ∧ ∀ b ∈ ownB tv, b ∈ ownB (.slice (some ⟨g, o', none⟩) ql C') ∨ w1.heap.size ≤ b) ∧ 2 * (N - l2.length) + q2.length ≤ 2 * (N - l.length) + ql) (fun _ jv _ => ll - (intOf jv).toNat)
        case atStart => exact ⟨0, l, q, rfl, by omega, HST, by have := HQZ.out; omega⟩
        case round =>
          obtain ⟨j, l2, q2, rfl, hj, HJ, hmz⟩ := hrel
          obtain ⟨⟨hS, hset, hq, hmo, hmb, KW⟩, hall, K', n'⟩ := HJ.out
          by_cases hjl : j < ll
          · obtain ⟨bl, ol, rfl, hbm, hbn, hbl, hcl⟩ := HCC.out (by omega)
            have hjL : j < L.length := by rw [HLZ.out]; exact hjl
            have e0 := K'.cell (hcl j hjl) (fun hb => by
              rcases List.mem_cons.1 hb with h | h
              · exact hbm h
              · exact hbn h)
            obtain ⟨k, hk, hkn⟩ := HIN.out (nth L j) (by simp [nth, hjL])
            have htk : L.take (j + 1) = L.take j ++ [(k : Int)] := by
              rw [List.take_succ_eq_append_getElem hjL, ← hk]
              simp [nth, hjL]
            rw [hk] at e0
            have hjl2 : (j : Int) < (ll : Int) := by omega
            have hlk := set_look hset (k : Int)
            have hll2 := hS.len
            rw [HNN.out] at hll2
            have hql2 : q2.length + 1 ≤ 1000000 := by have := HU.out; omega
            have hsz : (w.alloc (.cells #[.slice A N C, .slice K m D] 25)).heap.size ≤ wr.heap.size := KW.size
            have hcmt : k = tg → Comes (lfP ps) fr tg := fun e => by
              subst e
              rcases HCN.out with h | h
              · rw [← h]; exact .one hkn
              · exact h.snoc hkn
            by_cases hkt : k = tg
            · have HF := Lib.hid (⟨hcmt hkt, HH.out.2.2.trans KW⟩ : _ ∧ _)
              have hkt2 : ((k : Int) == (tg : Int)) = true := by simp [hkt]
              clear hS hset hq hmo hmb KW hall K' n' HJ HST hlk hcl hcmt hkt
              go_wp2
              go_ret
              exact ⟨⟨_, rfl, by simpa using HF.out.1⟩, HF.out.2⟩
            · have hkt2 : ((k : Int) == (tg : Int)) = false := by simp; omega
              have hkt3 : (k : Int) ≠ (tg : Int) := by omega
              by_cases hkl : (k : Int) ∈ l2
              · rw [decide_eq_true hkl] at hlk
                have HN := Lib.hid (⟨⟨hS, hset, hq, hmo, hmb, KW⟩, fun z hz => by
                  rw [htk] at hz
                  rcases List.mem_append.1 hz with h | h
                  · exact hall z h
                  · rw [List.mem_singleton.1 h]; exact ⟨hkl, hkt3⟩, K', n'⟩ : ComI ps fr tg (w.heap.size + 1) (fun x => x = n) (w.alloc (.cells #[.slice A N C, .slice K m D] 25)) l2 q2 u8 wr ∧ (∀ z ∈ L.take (j + 1), z ∈ l2 ∧ z ≠ (tg : Int)) ∧ Keep ((w.heap.size + 1) :: ownB (.slice (some ⟨g, o', none⟩) ql C')) w1 wr ∧ ∀ b ∈ ownB u8, b ∈ ownB (.slice (some ⟨g, o', none⟩) ql C') ∨ w1.heap.size ≤ b)
                clear hS hset hq hmo hmb KW hall K' n' HJ HST hcl hcmt hkt hkt3 hkl
                go_wp2
                go_roundw
                case rel => exact ⟨j + 1, l2, q2, by go_num, by omega, HN, hmz⟩
                case measure => simp [intOf]; omega
              · rw [decide_eq_false hkl] at hlk
                obtain ⟨w2, hadd, HS2, K2⟩ := set_add hset (k : Int)
                rw [if_neg hkl] at HS2
                obtain ⟨gg, oo, CC, cc, rfl, _⟩ := id hq
                have HB := Lib.hid (⟨hS, HS2, K2, hq, hmo, hmb, KW, hall, K', n'⟩ : _ ∧ _ ∧ _ ∧ _ ∧ _ ∧ _ ∧ _ ∧ _ ∧ _ ∧ _)
                clear hS hset hq hmo hmb KW hall K' n' HJ HST hcl hcmt hkt HS2 K2
                generalize hq2z : q2.length = qz at *
                have HQ2 := Lib.hid hq2z
                clear hq2z
                go_wp2_with (at_builtin; refine Hid.out ?_)
                refine Lib.hid ?_
                obtain ⟨hS, HS2, K2, hq, hmo, hmb, KW, hall, K', n'⟩ := HB.out
                have K3 := (Keep.refl [] w2).alloc (.cells #[.int .i64 (k : Int)] 3)
                have hmo2 : ∀ b ∈ [w.heap.size + 1], b ∉ ownB (.slice (some ⟨gg, oo, none⟩) qz CC) := fun b hb => by simp at hb; subst hb; exact hmo
                have hs2 := K2.size
                have hq3 := (hq.keep K2 hmo2).keep K3 (by simp)
                refine wpList_append_que rfl _ _ 26 rfl Tryz.underlying26 (base := (w.alloc (.cells #[.slice A N C, .slice K m D] 25)).heap.size) (b := w2.heap.size) (v := .slice (some ⟨gg, oo, none⟩) qz CC) (xs := q2) (z := (k : Int)) rfl rfl
                  hq3 (by rw [(Blk.new w2 #[.int .i64 (k : Int)] 3).cell]; rfl) (by rw [HQ2.out]; exact hql2) (by simp at hsz ⊢; omega) ?_
                intro A9 C9 w9 O9 K9 n9
                rw [HQ2.out] at O9 n9 ⊢
                have hml : w.heap.size + 1 < w2.heap.size := HS2.lt
                have hbq := hq.base
                have K29 : Keep ((w.heap.size + 1) :: ownB (.slice (some ⟨gg, oo, none⟩) qz CC)) wr w9 := ((K2.mono (fun b hb => .inl (by simp at hb; simp [hb]))).trans (K3.mono (by simp))).then K9 (fun b hb => .inl (by simp [hb]))
                have hm9 : w.heap.size + 1 ∉ ownB (.slice A9 (qz + 1) C9) := fun h => by
                  rcases n9 _ h with h | h
                  · exact hmo h
                  · simp at h; omega
                have hCI : ComI ps fr tg (w.heap.size + 1) (fun x => x = n) (w.alloc (.cells #[.slice A N C, .slice K m D] 25)) (l2 ++ [(k : Int)]) (q2 ++ [(k : Int)]) (.slice A9 (qz + 1) C9) w9 := ⟨hS.put HCN.out hkn hkl, (HS2.keep K3 (by simp)).keep K9 hmo, O9, hm9, hmb, KW.then K29 (fun b hb => by
                  rcases List.mem_cons.1 hb with h | h
                  · exact .inr (by omega)
                  · exact .inr (hbq b h).1)⟩
                have HN := Lib.hid (⟨hCI, fun z hz => by
                  rw [htk] at hz
                  rcases List.mem_append.1 hz with h | h
                  · exact ⟨List.mem_append_left _ (hall z h).1, (hall z h).2⟩
                  · rw [List.mem_singleton.1 h]; exact ⟨by simp, hkt3⟩, K'.then K29 (fun b hb => by
                  rcases List.mem_cons.1 hb with h | h
                  · exact .inl (by simp [h])
                  · exact (n' b h).imp_left (fun h => by simp [h])), fun b hb => by
                  rcases n9 b hb with h | h
                  · exact n' b h
                  · have h1 := K'.size
                    simp at h
                    exact .inr (by omega)⟩ : ComI ps fr tg (w.heap.size + 1) (fun x => x = n) (w.alloc (.cells #[.slice A N C, .slice K m D] 25)) (l2 ++ [(k : Int)]) (q2 ++ [(k : Int)]) (.slice A9 (qz + 1) C9) w9 ∧ (∀ z ∈ L.take (j + 1), z ∈ l2 ++ [(k : Int)] ∧ z ≠ (tg : Int)) ∧ Keep ((w.heap.size + 1) :: ownB (.slice (some ⟨g, o', none⟩) ql C')) w1 w9 ∧ ∀ b ∈ ownB (.slice A9 (qz + 1) C9), b ∈ ownB (.slice (some ⟨g, o', none⟩) ql C') ∨ w1.heap.size ≤ b)
                have hl3 := hCI.1.len
                rw [HNN.out] at hl3
                have hmz2 : 2 * (N - (l2 ++ [(k : Int)]).length) + (q2 ++ [(k : Int)]).length ≤ 2 * (N - l.length) + ql := by
                  have := HQ2.out
                  simp at hl3 ⊢
                  omega
                have HMZ := Lib.hid hmz2
                clear hS HS2 K2 hq hmo hmb KW hall K' n' O9 K9 n9 hCI K29 hm9 hbq hml hq3 K3 hmo2 HB hl3 hmz2 hkt3 hkl
                go_wp2
                go_roundw
                case rel => exact ⟨j + 1, _, _, by go_num, by omega, HN, HMZ.out⟩
                case measure => simp [intOf]; omega
          · obtain rfl : j = ll := by omega
            have e : L.take j = L := by rw [← HLZ.out, List.take_length]
            rw [e] at hall
            have hCI : ComI ps fr tg (w.heap.size + 1) (fun _ => False) (w.alloc (.cells #[.slice A N C, .slice K m D] 25)) l2 q2 u8 wr := ⟨HNX.out _ _ hS hall, hset, hq, hmo, hmb, KW⟩
            have hE := entN_of hset
            have hE0 := hS0
            have hll2 := hS.len
            rw [HNN.out] at hll2
            obtain ⟨gg, oo, CC, cc, rfl, _⟩ := hq
            have HCI := Lib.hid hCI
            clear hCI hS hset hmo hmb KW hall K' n' HJ HST hE0
            go_wp2
            go_roundw
            case rel => exact ⟨l2, q2, _, HCI, Lib.hid rfl, by have := HU.out; omega⟩
            case measure => simp; omega
end Go.Proofs.YtbpidoiellcccaaGreatDoor
namespace Go.Proofs.YtbpidoiellcccaaGreatDoor
open Go Go.RowKit Go.MapKept

/-- What Circle answers. -/
def CirIs (ps : List ProdS) (z : Int) : Prop := (gmay ps = false ∧ z = -1) ∨ (gmay ps = true ∧ IsLeast (fun n => n < ps.length ∧ Comes (lfP ps) n n) z)
theorem CirIs.same {ps : List ProdS} {z y : Int} (h : CirIs ps z) (k : CirIs ps y) : z = y := by
  rcases h with ⟨h0, rfl⟩ | ⟨h0, h1⟩ <;> rcases k with ⟨k0, rfl⟩ | ⟨k0, k1⟩
  · rfl
  · rw [h0] at k0; cases k0
  · rw [h0] at k0; cases k0
  · exact h1.same k1 (fun _ => Iff.rfl)
/-- There is an order just if there is no circle. -/
theorem OrdIs.circle {ps : List ProdS} {r : List Int} {b : Bool} (h : OrdIs ps r b) (hg : gmay ps = true) : b = false ↔ ∃ n, n < ps.length ∧ Comes (lfP ps) n n := by
  rcases h with ⟨h0, _⟩ | ⟨_, r', h1, h2⟩
  · rw [h0] at hg; cases hg
  · have hf := (h1.few (N := ps.length) (fun n k h => lfP_lt h)).2
    rcases h2 with ⟨h2, _, rfl⟩ | ⟨h2, _, rfl⟩
    · exact ⟨fun _ => hf.1 h2, fun _ => rfl⟩
    · exact ⟨(by simp), fun h => absurd (hf.2 h) h2⟩
theorem OrdIs.may {ps : List ProdS} {r : List Int} {b : Bool} (h : OrdIs ps r b) (hb : b = true) : gmay ps = true := by
  rcases h with ⟨_, _, rfl⟩ | ⟨h0, _⟩
  · cases hb
  · exact h0
set_option maxRecDepth 20000 in
set_option maxHeartbeats 4000000 in
theorem circle_any (A K : Option Addr) (C m D : Nat) (ps : List ProdS) (w : World) (HP : Prods [] w (.slice A ps.length C) ps) :
    Calls Tryz.prog 16 #[.agg #[.slice A ps.length C, .slice K m D]] w fun e w' => (∃ z, e = .returned (.int .i64 z) ∧ CirIs ps z) ∧ Keep [] w w' := by
  have hmv : ∀ (x y : Value) (w : World), (Instr.extract (.tuple #[x, y]) 0).run Tryz.prog w = .ok x w := fun _ _ _ => rfl
  have hmv1 : ∀ (x y : Value) (w : World), (Instr.extract (.tuple #[x, y]) 1).run Tryz.prog w = .ok y w := fun _ _ _ => rfl
  have K0 := (Keep.refl [] w).alloc (.cells #[.slice A ps.length C, .slice K m D] 25)
  have HP0 : Prods [] _ (.slice A ps.length C) ps := SlOf.move HP prodRow_stab (by omega) K0 (by simp) (fun x hx => .inl hx)
  have B0 := Blk.new w #[.slice A ps.length C, .slice K m D] 25
  have HOR := Lib.hid (orderR_rank A K C m D ps _ HP0)
  have HH := Lib.hid (⟨HP0, B0, K0⟩ : _ ∧ _ ∧ _)
  have b0 := B0.cell 0
  have b1 := B0.cell 1
  clear HP HP0 B0 K0
  generalize hnn : ps.length = N at *
  have HNN := Lib.hid hnn
  clear hnn
  go_enter Tryz.func16, Tryz.ntmps16
  go_wp2_with fail
  refine HOR.out.mono ?_
  rintro e w1 ⟨⟨v, r, b, rfl, NV, hO⟩, K1⟩
  have c0 := (HH.out.2.1.keep K1 (by simp)).cell 0
  have c1 := (HH.out.2.1.keep K1 (by simp)).cell 1
  have HMY := Lib.hid (may_any [] (.slice A N C) (.slice K m D) ps w1 (SlOf.move HH.out.1 prodRow_stab (by omega) K1 (by simp) (fun x hx => .inl hx)))
  have HB := Lib.hid (⟨hO, K1⟩ : _ ∧ _)
  clear NV hO K1 HOR b0 b1
  cases b with
  | true =>
    have HF : Hid (CirIs ps (-1)) := Lib.hid (by
      have hg := HB.out.1.may rfl
      refine .inr ⟨hg, .inl ⟨rfl, fun n hn => ?_⟩⟩
      have := (HB.out.1.circle hg).2 ⟨n, hn⟩
      cases this)
    have HK := Lib.hid (HH.out.2.2.trans HB.out.2)
    clear HMY c0 c1
    go_wp2
    go_ret
    exact ⟨⟨_, rfl, HF.out⟩, HK.out⟩
  | false =>
    cases hg : gmay ps with
    | false =>
      have HF : Hid (CirIs ps (-1)) := Lib.hid (.inl ⟨hg, rfl⟩)
      rw [hg] at HMY
      go_wp2_with fail
      refine HMY.out.mono ?_
      rintro e w2 ⟨rfl, K2⟩
      have HK := Lib.hid ((HH.out.2.2.trans HB.out.2).trans K2)
      clear HMY c0 c1 K2
      go_wp2
      go_ret
      exact ⟨⟨_, rfl, HF.out⟩, HK.out⟩
    | true =>
      have hgl := gmay_len hg
      rw [HNN.out] at hgl
      have HG := Lib.hid hg
      rw [hg] at HMY
      clear hg
      go_wp2_with fail
      refine HMY.out.mono ?_
      rintro e w2 ⟨rfl, K2⟩
      have KW := HB.out.2.trans K2
      have d0 := (HH.out.2.1.keep KW (by simp)).cell 0
      have HK := Lib.hid KW
      clear HMY c0 c1 K2 KW
      go_wp2
      go_loopw [20] (fun iv wr => ∃ (n : Nat), iv = .int .i64 n ∧ n ≤ N ∧ Hid ((∀ k, k < n → ¬ Comes (lfP ps) k k) ∧ Keep [] (w.alloc (.cells #[.slice A N C, .slice K m D] 25)) wr)) (fun iv _ => N - (intOf iv).toNat)
      case atStart => exact ⟨0, rfl, by omega, Lib.hid ⟨fun k hk => by omega, HK.out⟩⟩
      case round =>
        obtain ⟨n, rfl, hn, HI⟩ := hrel
        by_cases hlt : n < N
        · have hlt2 : (n : Int) < (N : Int) := by omega
          have e0 := (HH.out.2.1.keep HI.out.2 (by simp)).cell 0
          have e1 := (HH.out.2.1.keep HI.out.2 (by simp)).cell 1
          have hC := comes_any A K C m D ps n n wr (by rw [HNN.out]; exact SlOf.move HH.out.1 prodRow_stab (by omega) HI.out.2 (by simp) (fun x hx => .inl hx)) (by rw [HNN.out]; omega) (by rw [HNN.out]; exact hlt)
          rw [HNN.out] at hC
          have HC := Lib.hid hC
          have HLT := Lib.hid hlt
          clear hC hlt
          go_wp2_with fail
          refine HC.out.mono ?_
          rintro e w3 ⟨⟨b, rfl, hb⟩, K3⟩
          have HB3 := Lib.hid (⟨hb, HI.out.2.trans K3⟩ : _ ∧ _)
          clear hb K3 HC e0 e1
          cases b with
          | true =>
            have HF : Hid (CirIs ps n ∧ Keep [] w w3) := Lib.hid ⟨.inr ⟨HG.out, .inr ⟨n, rfl, ⟨by rw [HNN.out]; exact HLT.out, HB3.out.1.1 rfl⟩, fun k hk => by
              by_cases h : n ≤ k
              · exact h
              · exact absurd hk.2 (HI.out.1 k (by omega))⟩⟩, HH.out.2.2.trans HB3.out.2⟩
            go_wp2
            go_ret
            exact ⟨⟨_, rfl, HF.out.1⟩, HF.out.2⟩
          | false =>
            have HN : Hid ((∀ k, k < n + 1 → ¬ Comes (lfP ps) k k) ∧ Keep [] (w.alloc (.cells #[.slice A N C, .slice K m D] 25)) w3) := Lib.hid ⟨fun k hk hc => by
              by_cases h : k = n
              · subst h; have := HB3.out.1.2 hc; cases this
              · exact HI.out.1 k (by omega) hc, HB3.out.2⟩
            go_wp2
            go_roundw
            case rel => exact ⟨n + 1, by go_num, by have := HLT.out; omega, HN⟩
            case measure => simp [intOf]; have := HLT.out; omega
        · obtain rfl : n = N := by omega
          have HF : Hid (CirIs ps (-1) ∧ Keep [] w wr) := Lib.hid ⟨.inr ⟨HG.out, .inl ⟨rfl, fun k hk => HI.out.1 k (by have := HNN.out; omega) hk.2⟩⟩, HH.out.2.2.trans HI.out.2⟩
          clear hlt
          go_wp2
          go_ret
          exact ⟨⟨_, rfl, HF.out.1⟩, HF.out.2⟩
end Go.Proofs.YtbpidoiellcccaaGreatDoor
namespace Go.Proofs.YtbpidoiellcccaaGreatDoor
open Go Go.RowKit Go.MapKept

def tR1 : ByteArray := ⟨#[97, 32, 61, 32, 98, 59, 32, 98, 32, 61, 32, 34, 120, 34, 59]⟩
def fR1 : FileS := ⟨[], [⟨⟨#[97]⟩, 0, .mk 0 ⟨#[98]⟩ [] [] 4, [], 0⟩, ⟨⟨#[98]⟩, 0, .mk 1 ⟨#[120]⟩ [] [] 11, [], 7⟩]⟩
def gR1 : GramS := ⟨[⟨[[⟨2, [], 1⟩]], 0, []⟩, ⟨[[⟨0, [⟨120, 120⟩], 0⟩]], 0, []⟩], []⟩
def tR2 : ByteArray := ⟨#[97, 32, 61, 32, 98, 59, 32, 98, 32, 61, 32, 99, 32, 97, 59, 32, 99, 32, 61, 32, 59]⟩
def fR2 : FileS := ⟨[], [⟨⟨#[97]⟩, 0, .mk 0 ⟨#[98]⟩ [] [] 4, [], 0⟩, ⟨⟨#[98]⟩, 0, .mk 4 ⟨#[]⟩ [] [.mk 0 ⟨#[99]⟩ [] [] 11, .mk 0 ⟨#[97]⟩ [] [] 13] 11, [], 7⟩, ⟨⟨#[99]⟩, 0, .mk 4 ⟨#[]⟩ [] [] 20, [], 16⟩]⟩
def gR2 : GramS := ⟨[⟨[[⟨2, [], 1⟩]], 0, []⟩, ⟨[[⟨2, [], 2⟩, ⟨2, [], 0⟩]], 0, []⟩, ⟨[[]], 0, []⟩], []⟩
theorem textR1 : TextOK 3 tR1 fR1 gR1 := by
  refine ⟨by decide, by decide, by decide, by kernel_rfl, by kernel_rfl, ⟨by decide, ?_, by decide, okFile_of (by kernel_rfl), by kernel_rfl, rfl⟩⟩
  · show [(⟨#[97]⟩ : ByteArray), ⟨#[98]⟩].Nodup
    decide
theorem textR2 : TextOK 3 tR2 fR2 gR2 := by
  refine ⟨by decide, by decide, by decide, by kernel_rfl, by kernel_rfl, ⟨by decide, ?_, by decide, okFile_of (by kernel_rfl), by kernel_rfl, rfl⟩⟩
  · show [(⟨#[97]⟩ : ByteArray), ⟨#[98]⟩, ⟨#[99]⟩].Nodup
    decide
/-- k is a left of n, without an order. -/
def lfA (ps : List ProdS) (n k : Nat) : Bool := decide (n < ps.length) && decide ((k : Int) ∈ leftsAll (emptyF ps) ((ps[n]?).map (·.a) |>.getD []))
theorem lfP_eq {ps : List ProdS} (hg : gmay ps = true) (n k : Nat) : lfP ps n k = lfA ps n k := by
  unfold lfP lfA
  by_cases hn : n < ps.length
  · simp only [hn, decide_true, Bool.true_and]
    congr 1
    refine propext ?_
    unfold leftsR
    rw [if_pos ⟨hg, by omega, by omega⟩]
    simp only [Int.toNat_natCast]
    constructor
    · intro h
      have h1 := (compI_sub _).2 _ h
      unfold sortI at h1
      rwa [List.mem_mergeSort] at h1
    · intro h
      refine compI_mem _ _ ?_
      unfold sortI
      rwa [List.mem_mergeSort]
  · simp [hn]
theorem gmR1 : gmay gR1.p = true := by kernel_rfl
theorem gmR2 : gmay gR2.p = true := by kernel_rfl
theorem lfR1 (n k : Nat) : lfP gR1.p n k = true ↔ n = 0 ∧ k = 1 := by
  constructor
  · intro h
    have hl := lfP_lt h
    have e : gR1.p.length = 2 := by kernel_rfl
    rw [e] at hl
    rw [lfP_eq gmR1] at h
    have h00 : lfA gR1.p 0 0 = false := by kernel_rfl
    have h10 : lfA gR1.p 1 0 = false := by kernel_rfl
    have h11 : lfA gR1.p 1 1 = false := by kernel_rfl
    have hn : n = 0 ∨ n = 1 := by omega
    have hk : k = 0 ∨ k = 1 := by omega
    rcases hn with rfl | rfl <;> rcases hk with rfl | rfl
    · rw [h00] at h; cases h
    · exact ⟨rfl, rfl⟩
    · rw [h10] at h; cases h
    · rw [h11] at h; cases h
  · rintro ⟨rfl, rfl⟩
    rw [lfP_eq gmR1]
    kernel_rfl
theorem ordR1 : OrdIs gR1.p [1, 0] true := by
  have e : gR1.p.length = 2 := by kernel_rfl
  refine .inr ⟨gmR1, [1, 0], ?_, .inr ⟨by rw [e]; decide, rfl, rfl⟩⟩
  refine .step (n := 1) ⟨by simp [allS, e], fun k hk => by have := (lfR1 1 k).1 hk; omega⟩ (fun m hm => ?_) (.step (n := 0) ⟨by simp [del, allS, e], fun k hk => ?_⟩ (fun m _ => Nat.zero_le m) (.done (fun n hn => ?_)))
  · by_cases h : m = 0
    · subst h
      have := hm.2 1 ((lfR1 0 1).2 ⟨rfl, rfl⟩)
      simp [allS, e] at this
    · omega
  · have := (lfR1 0 k).1 hk
    obtain rfl := this.2
    simp [del]
  · have := hn.1
    simp [del, allS, e] at this
    omega
theorem cirR1 : CirIs gR1.p (-1) := .inr ⟨gmR1, .inl ⟨rfl, fun n hn => by
  have := (ordR1.circle gmR1).2 ⟨n, hn⟩
  cases this⟩⟩
theorem cirR2 : CirIs gR2.p 0 := by
  have h01 : lfP gR2.p 0 1 = true := by rw [lfP_eq gmR2]; kernel_rfl
  have h10 : lfP gR2.p 1 0 = true := by rw [lfP_eq gmR2]; kernel_rfl
  exact .inr ⟨gmR2, .inr ⟨0, rfl, ⟨by decide, .more h01 (.one h10)⟩, fun m _ => Nat.zero_le m⟩⟩
theorem risR : Rises [3, 1, 3] [1, 3, 3] := ⟨by decide, by simp⟩
end Go.Proofs.YtbpidoiellcccaaGreatDoor
namespace Go.Proofs.YtbpidoiellcccaaGreatDoor
open Go Go.RowKit Go.MapKept

structure AwRF (g h : GramS) : Prop where
  a : OrdIs g.p [1, 0] true
  b : CirIs g.p (-1)
  c : CirIs h.p 0
theorem awRF : AwRF gR1 gR2 := ⟨ordR1, cirR1, cirR2⟩
theorem IntC.lit {w : World} {b : Nat} {cs : Array Value} {xs : List Int} (B : Blk w b cs 3) (hl : xs.length ≤ 1000000) (hc : ∀ i, i < xs.length → cs[i]? = some (.int .i64 (nth xs i))) : IntC w (.slice (some ⟨b, 0, none⟩) xs.length xs.length) xs :=
  ⟨_, _, rfl, hl, fun _ => ⟨b, 0, rfl, fun i hi => by rw [Nat.zero_add, B.cell, hc i hi]; simp [nth, hi]⟩⟩
theorem SlOf.litI {w : World} {b : Nat} {cs : Array Value} {xs : List Int} (B : Blk w b cs 3) (hl : xs.length ≤ 1000000) (hc : ∀ i, i < xs.length → cs[i]? = some (.int .i64 (nth xs i))) : SlOf IntRow [] w 1 (.slice (some ⟨b, 0, none⟩) xs.length xs.length) xs := by
  refine ⟨xs.map (fun x => #[Value.int .i64 x]), ⟨some ⟨b, 0, none⟩, xs.length, by simp, by simp; omega, fun _ => ⟨b, 0, rfl, by simp, fun i hi => ⟨by simp, fun j hj => ?_⟩⟩⟩, by simp, fun i hi hi' => by simp [IntRow]⟩
  obtain rfl : j = 0 := by omega
  have hi' : i < xs.length := by simpa using hi
  rw [show 0 + i * 1 + 0 = i by omega, B.cell, hc i hi']
  simp [nth, hi']
theorem lit2 : ∀ i, i < ([1, 0] : List Int).length → (#[Value.int .i64 1, .int .i64 0] : Array Value)[i]? = some (.int .i64 (nth [1, 0] i)) := fun i hi => by
  match i, hi with
  | 0, _ => rfl
  | 1, _ => rfl
theorem lit3 : ∀ i, i < ([3, 1, 3] : List Int).length → (#[Value.int .i64 3, .int .i64 1, .int .i64 3] : Array Value)[i]? = some (.int .i64 (nth [3, 1, 3] i)) := fun i hi => by
  match i, hi with
  | 0, _ => rfl
  | 1, _ => rfl
  | 2, _ => rfl
theorem lit4 : ∀ i, i < ([1, 3, 3] : List Int).length → (#[Value.int .i64 1, .int .i64 3, .int .i64 3] : Array Value)[i]? = some (.int .i64 (nth [1, 3, 3] i)) := fun i hi => by
  match i, hi with
  | 0, _ => rfl
  | 1, _ => rfl
  | 2, _ => rfl
set_option maxRecDepth 20000 in
set_option maxHeartbeats 4000000 in
theorem awakeR_any (w : World) : Calls Tryz.prog 9 #[] w fun e w' => e = .returned (.bool true) ∧ Keep [] w w' := by
  have hf := fun w => file_known [] tR1 fR1 w (by simp) textR1.size textR1.no1 textR1.no2 textR1.lex textR1.parse
  have hf2 := fun w => file_known [] tR2 fR2 w (by simp) textR2.size textR2.no1 textR2.no2 textR2.lex textR2.parse
  have ho := textR1.of
  have ho2 := textR2.of
  have hA := awRF
  generalize fR1 = f at hf ho
  generalize gR1 = g at ho hA
  generalize fR2 = fx at hf2 ho2
  generalize gR2 = gx at ho2 hA
  have HF := Lib.hid hf
  have HF2 := Lib.hid hf2
  have HO := Lib.hid ho
  have HO2 := Lib.hid ho2
  have HA := Lib.hid hA
  clear hf ho hA hf2 ho2
  have hmv : ∀ (x y z : Value) (w : World), (Instr.extract (.tuple #[x, y, z]) 0).run Tryz.prog w = .ok x w := fun _ _ _ _ => rfl
  have hmv1 : ∀ (x y z : Value) (w : World), (Instr.extract (.tuple #[x, y, z]) 1).run Tryz.prog w = .ok y w := fun _ _ _ _ => rfl
  have hmv2 : ∀ (x y z : Value) (w : World), (Instr.extract (.tuple #[x, y, z]) 2).run Tryz.prog w = .ok z w := fun _ _ _ _ => rfl
  have hmx : ∀ (x y : Value) (w : World), (Instr.extract (.tuple #[x, y]) 0).run Tryz.prog w = .ok x w := fun _ _ _ => rfl
  have hmx1 : ∀ (x y : Value) (w : World), (Instr.extract (.tuple #[x, y]) 1).run Tryz.prog w = .ok y w := fun _ _ _ => rfl
  go_enter Tryz.func9, Tryz.ntmps9
  go_wp2_with fail
  refine (HF.out _).mono ?_
  rintro e w1 ⟨K1, row, rfl, hfile⟩
  clear HF
  obtain ⟨A1, C1, D1, E1, rfl, hk1, hr1⟩ := hfile
  have KF := (Keep.refl [] w1).alloc (.cells #[.slice A1 f.keys.length C1, .slice D1 f.rules.length E1] 49)
  have hcall := of_known [] 3 f g #[.slice A1 f.keys.length C1, .slice D1 f.rules.length E1] _ HO.out (by simp) ⟨_, _, _, _, rfl, SlOf.move hk1 strRow_stab (by omega) KF (by simp) (fun x hx => .inl hx), SlOf.move hr1 ruleAt_stab (by omega) KF (by simp) (fun x hx => .inl hx)⟩
  have HC := Lib.hid hcall; clear hcall hk1 hr1
  go_wp2_with fail
  refine HC.out.mono ?_
  rintro e w2 ⟨row2, rfl, hg, K2⟩
  clear HC
  obtain ⟨A2, C2, D2, E2, rfl, hP, hK⟩ := hg
  have K3 := (Keep.refl [] w2).alloc (.cells #[.slice A2 g.p.length C2, .slice D2 g.keys.length E2] 25)
  have B3 := Blk.new w2 #[.slice A2 g.p.length C2, .slice D2 g.keys.length E2] 25
  have hP3 : Prods [] _ (.slice A2 g.p.length C2) g.p := SlOf.move hP prodRow_stab (by omega) K3 (by simp) (fun x hx => .inl hx)
  have KS : Keep [] w _ := (((K1.trans KF).trans K2).trans K3)
  have HOR := Lib.hid (orderR_rank A2 D2 C2 g.keys.length E2 g.p _ hP3)
  have HG3 := Lib.hid (⟨B3, hP3, KS⟩ : _ ∧ _ ∧ _)
  clear K1 KF K2 hP hK K3 B3 hP3 KS
  go_wp2_with fail
  refine HOR.out.mono ?_
  rintro e w4 ⟨⟨v, r, b, rfl, NV, hO⟩, K4⟩
  obtain ⟨rfl, rfl⟩ := hO.same HA.out.a
  have HG4 := Lib.hid (⟨HG3.out.1.keep K4 (by simp), SlOf.move HG3.out.2.1 prodRow_stab (by omega) K4 (by simp) (fun x hx => .inl hx), HG3.out.2.2.trans K4, NV⟩ : Blk w4 w2.heap.size _ _ ∧ Prods [] w4 _ _ ∧ Keep [] w w4 ∧ NumV w4 _ v [1, 0])
  clear hO NV K4 HOR HG3
  go_wp2_with fail
  refine (HF2.out _).mono ?_
  rintro e w5 ⟨K5, row, rfl, hfile⟩
  clear HF2
  obtain ⟨A5, C5, D5, E5, rfl, hk5, hr5⟩ := hfile
  have KF := (Keep.refl [] w5).alloc (.cells #[.slice A5 fx.keys.length C5, .slice D5 fx.rules.length E5] 49)
  have hcall := of_known [] 3 fx gx #[.slice A5 fx.keys.length C5, .slice D5 fx.rules.length E5] _ HO2.out (by simp) ⟨_, _, _, _, rfl, SlOf.move hk5 strRow_stab (by omega) KF (by simp) (fun x hx => .inl hx), SlOf.move hr5 ruleAt_stab (by omega) KF (by simp) (fun x hx => .inl hx)⟩
  have HC := Lib.hid hcall; clear hcall hk5 hr5
  go_wp2_with fail
  refine HC.out.mono ?_
  rintro e w6 ⟨row6, rfl, hg, K6⟩
  clear HC
  obtain ⟨A6, C6, D6, E6, rfl, hPx, hKx⟩ := hg
  have K7 := (Keep.refl [] w6).alloc (.cells #[.slice A6 gx.p.length C6, .slice D6 gx.keys.length E6] 25)
  have B7 := Blk.new w6 #[.slice A6 gx.p.length C6, .slice D6 gx.keys.length E6] 25
  have hP7 : Prods [] _ (.slice A6 gx.p.length C6) gx.p := SlOf.move hPx prodRow_stab (by omega) K7 (by simp) (fun x hx => .inl hx)
  have K8 := (Keep.refl [] (w6.alloc (.cells #[.slice A6 gx.p.length C6, .slice D6 gx.keys.length E6] 25))).alloc (.cells #[.int .i64 1, .int .i64 0] 3)
  have K48 := (((K5.trans KF).trans K6).trans K7).trans K8
  have hlit : IntC ((w6.alloc (.cells #[.slice A6 gx.p.length C6, .slice D6 gx.keys.length E6] 25)).alloc (.cells #[.int .i64 1, .int .i64 0] 3)) (.slice (some ⟨w6.heap.size + 1, 0, none⟩) 2 2) [1, 0] := IntC.lit (xs := [1, 0]) (Blk.new' _ _ _ (by simp)) (by simp) lit2
  have hcall := ints_c v _ [1, 0] [1, 0] _ (IntC.own (HG4.out.2.2.2.keep K48 (by simp)) (by simp)) hlit
  have hdec : decide (([1, 0] : List Int) = [1, 0]) = true := by decide
  rw [hdec] at hcall
  have HC := Lib.hid hcall
  have HG8 := Lib.hid (⟨B7.keep K8 (by simp), SlOf.move hP7 prodRow_stab (by omega) K8 (by simp) (fun x hx => .inl hx), HG4.out.1.keep K48 (by simp), SlOf.move HG4.out.2.1 prodRow_stab (by omega) K48 (by simp) (fun x hx => .inl hx), HG4.out.2.2.1.trans K48⟩ : Blk _ w6.heap.size _ _ ∧ Prods [] _ _ _ ∧ Blk _ w2.heap.size _ _ ∧ Prods [] _ _ _ ∧ Keep [] w _)
  clear hcall hlit hdec K5 KF K6 K7 K8 K48 B7 hP7 hPx hKx HG4
  go_wp2_with fail
  refine HC.out.mono ?_
  rintro e w9 ⟨rfl, K9⟩
  clear HC
  have K10 := (Keep.refl [] w9).alloc (.cells #[.int .i64 3, .int .i64 1, .int .i64 3] 3)
  have K90 := K9.trans K10
  have hFI := first_any (some ⟨w9.heap.size, 0, none⟩) 3 [3, 1, 3] _ (SlOf.litI (xs := [3, 1, 3]) (Blk.new w9 #[.int .i64 3, .int .i64 1, .int .i64 3] 3) (by simp) lit3) (by simp)
  have HFI := Lib.hid hFI
  have HG10 := Lib.hid (⟨HG8.out.1.keep K90 (by simp), SlOf.move HG8.out.2.1 prodRow_stab (by omega) K90 (by simp) (fun x hx => .inl hx), HG8.out.2.2.1.keep K90 (by simp), SlOf.move HG8.out.2.2.2.1 prodRow_stab (by omega) K90 (by simp) (fun x hx => .inl hx), HG8.out.2.2.2.2.trans K90⟩ : Blk _ w6.heap.size _ _ ∧ Prods [] _ _ _ ∧ Blk _ w2.heap.size _ _ ∧ Prods [] _ _ _ ∧ Keep [] w _)
  clear K9 K10 K90 hFI HG8
  go_wp2_with fail
  refine HFI.out.mono ?_
  rintro e w11 ⟨⟨v11, s, rfl, N11, hri⟩, K11⟩
  obtain rfl := hri.same risR
  clear HFI hri
  have K12 := (Keep.refl [] w11).alloc (.cells #[.int .i64 1, .int .i64 3, .int .i64 3] 3)
  have K112 := K11.trans K12
  have hlit : IntC (w11.alloc (.cells #[.int .i64 1, .int .i64 3, .int .i64 3] 3)) (.slice (some ⟨w11.heap.size, 0, none⟩) 3 3) [1, 3, 3] := IntC.lit (xs := [1, 3, 3]) (Blk.new _ _ _) (by simp) lit4
  have hcall := ints_c v11 _ [1, 3, 3] [1, 3, 3] _ (IntC.own (N11.keep K12 (by simp)) (by simp)) hlit
  have hdec : decide (([1, 3, 3] : List Int) = [1, 3, 3]) = true := by decide
  rw [hdec] at hcall
  have HC := Lib.hid hcall
  have HG12 := Lib.hid (⟨HG10.out.1.keep K112 (by simp), SlOf.move HG10.out.2.1 prodRow_stab (by omega) K112 (by simp) (fun x hx => .inl hx), HG10.out.2.2.1.keep K112 (by simp), SlOf.move HG10.out.2.2.2.1 prodRow_stab (by omega) K112 (by simp) (fun x hx => .inl hx), HG10.out.2.2.2.2.trans K112⟩ : Blk _ w6.heap.size _ _ ∧ Prods [] _ _ _ ∧ Blk _ w2.heap.size _ _ ∧ Prods [] _ _ _ ∧ Keep [] w _)
  clear hcall hlit hdec K11 K12 K112 N11 HG10
  go_wp2_with fail
  refine HC.out.mono ?_
  rintro e w13 ⟨rfl, K13⟩
  clear HC
  have P13 : Prods [] w13 (.slice A2 g.p.length C2) g.p := SlOf.move HG12.out.2.2.2.1 prodRow_stab (by omega) K13 (by simp) (fun x hx => .inl hx)
  have c13 := (HG12.out.2.2.1.keep K13 (by simp)).cell
  have HCI := Lib.hid (circle_any A2 D2 C2 g.keys.length E2 g.p w13 P13)
  have HK13 := Lib.hid K13
  clear K13 P13
  go_wp2_with fail
  refine HCI.out.mono ?_
  rintro e w14 ⟨⟨z, rfl, hz⟩, K14⟩
  obtain rfl := hz.same HA.out.b
  have K134 := HK13.out.trans K14
  have P14 : Prods [] w14 (.slice A6 gx.p.length C6) gx.p := SlOf.move HG12.out.2.1 prodRow_stab (by omega) K134 (by simp) (fun x hx => .inl hx)
  have c14 := (HG12.out.1.keep K134 (by simp)).cell
  have HCJ := Lib.hid (circle_any A6 D6 C6 gx.keys.length E6 gx.p w14 P14)
  have HK14 := Lib.hid (HG12.out.2.2.2.2.trans K134)
  clear K14 K134 P14 HCI c13 hz
  go_wp2_with fail
  refine HCJ.out.mono ?_
  rintro e w15 ⟨⟨z, rfl, hz⟩, K15⟩
  obtain rfl := hz.same HA.out.c
  have HKF := Lib.hid (HK14.out.trans K15)
  clear K15 HCJ c14 hz
  go_wp2
  go_ret
  exact ⟨rfl, HKF.out⟩
end Go.Proofs.YtbpidoiellcccaaGreatDoor
