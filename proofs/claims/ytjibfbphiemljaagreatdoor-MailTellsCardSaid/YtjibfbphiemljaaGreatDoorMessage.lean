/- YtjibfbphiemljaaGreatDoorMessage -/
import Derived.Test.YtjibfbphiemljaaGreatDoorReads
set_option linter.unusedSimpArgs false
set_option linter.unusedVariables false
namespace Go.Proofs.YtjibfbphiemljaaGreatDoor.Code
open Go.Fw
theorem nat_beq0 : Nat.beq 0 0 = true := rfl
theorem own_cell {α : Type} {es : Nat} {E : El α es} {sc : AVal} {H : Heap} {n0 : Nat} {xs : List α} (O : E.Own sc H n0 xs) : aCells 1 sc = some [sc] := by
  obtain ⟨_, ⟨rfl, _⟩ | ⟨b, ex, rfl, _⟩⟩ := O <;> rfl
theorem cell_ptr (b o : Nat) : aCells 1 (.ptr b o) = some [.ptr b o] := rfl
theorem cell_slice : aCells 1 .nilSlice = some [.nilSlice] := rfl
section
variable {N q r : Nat} {h : Heap} {st : Option (List UInt8)}
theorem mmsg (Q : MS N q r h st) : ∃ (m : Ms) (sc sk : AVal) (H : Heap), E tbl 60 [.ptr q 0] h = some (.agg (m.cells sc sk), H) ∧ MsAt H m sc sk ∧ m.Wf ∧ (m.cards.length ≤ 255 ∧ m.keys.length ≤ 255) ∧ Step N q r msgP st m h H := by
  obtain ⟨k, h1, e1, hk, S1, n1⟩ := mbyte Q
  have r0 := Q.ptr
  have r1 := S1.ms.ptr
  have w0 : I64 0 := by decide
  have u0 : U32 0 := by decide
  have wk := i64_nat hk
  by_cases k1 : k = 1
  · have b1 : ((k : Int) == 1) = true := by simp [k1]
    obtain ⟨tag, g2, a2, b2, T2, _⟩ := mint S1.ms
    obtain ⟨op, g3, a3, b3, T3, _⟩ := mbyte T2.ms
    obtain ⟨key, g4, a4, b4, T4, _⟩ := mkey T3.ms
    obtain ⟨n, g5, a5, b5, T5, _⟩ := mint T4.ms
    obtain ⟨sta, g6, a6, b6, T6, _⟩ := mbyte T5.ms
    obtain ⟨seq, g7, a7, b7, T7, _⟩ := mint T6.ms
    have r2 := T2.ms.ptr; have r3 := T3.ms.ptr; have r4 := T4.ms.ptr; have r5 := T5.ms.ptr; have r6 := T6.ms.ptr
    refine ⟨{ noM k with tag := tag, op := op, ka := key.1, ki := key.2, n := n, st := sta, seq := seq }, .nilSlice, .nilSlice, g7, ?_, ⟨srcC_nil _, srcK_nil _⟩, ⟨wk, i64_nat b3, i64_nat b6, w0, b2, b5, b7, u0, by simp [noM]⟩, by simp [noM], step_end T7.ms ?_ ((((((S1.only.trans T2.only).trans T3.only).trans T4.only).trans T5.only).trans T6.only).trans T7.only)⟩
    · rw [c60]
      simp only [S60, List.getD_cons_zero, List.getD_cons_succ, Option.bind_some, cond_bool, cond_true, fill_cons, fill_nil, aCells_agg, aCells_int, ble_dec, decide_true, spl_s, spl_z, spl_c, List.length_cons, List.length_nil, Nat.zero_add, Nat.reduceAdd, Nat.le_refl, Nat.reduceLeDiff, nilchk_ptr, faddr_ptr, load_ptr, from_one, rdL_z, rdL_t, Option.map_some, from_agg, bin_eql, aggCells_agg, nat_beq0, oneOr_one, ans_one, cp_cons, pairOk_some, ↓reduceIte, lookLog_cons, logRd_ptr, stays_rd, beqO_same, checkPairs_nil, Bool.and_true, Nat.reduceEqDiff, r0, e1, b1, r1, a2, r2, a3, a4, r4, a5, r5, a6, r6, a7, Ms.cells, noM]
    · unfold msgP
      rw [S1.bind]
      subst k1
      show (left (st.bind byteP)).bind askP = _
      unfold askP Pr.map
      rw [T2.bind, T3.bind, T4.bind, T5.bind, T6.bind, T7.bind]
      rfl
  · have b1 : ((k : Int) == 1) = false := by simp only [beq_eq_false_iff_ne, ne_eq]; omega
    by_cases k2 : k = 2
    · have b1' : ((k : Int) == 2) = true := by simp [k2]
      obtain ⟨tag, g2, a2, b2, T2, _⟩ := mint S1.ms
      obtain ⟨op, g3, a3, b3, T3, _⟩ := mbyte T2.ms
      obtain ⟨key, g4, a4, b4, T4, _⟩ := mkey T3.ms
      obtain ⟨code, g5, a5, b5, T5, _⟩ := mbyte T4.ms
      obtain ⟨full, g6, a6, T6, _⟩ := mbit T5.ms
      obtain ⟨seq, g7, a7, b7, T7, _⟩ := mint T6.ms
      obtain ⟨sum, g8, a8, b8, T8, _⟩ := msum T7.ms
      obtain ⟨cs, sc, g9, a9, O9, l9, f9, T9⟩ := mcards T8.ms
      have r2 := T2.ms.ptr; have r3 := T3.ms.ptr; have r4 := T4.ms.ptr; have r5 := T5.ms.ptr; have r6 := T6.ms.ptr
      have o9 := own_cell O9
      refine ⟨{ noM k with tag := tag, op := op, ka := key.1, ki := key.2, code := code, full := full, seq := seq, sum := sum, cards := cs }, sc, .nilSlice, g9, ?_, ⟨O9.src, srcK_nil _⟩, ⟨wk, i64_nat b3, w0, i64_nat b5, b2, w0, b7, b8, f9⟩, ⟨l9, by simp [noM]⟩, step_end T9.ms ?_ ((((((((S1.only.trans T2.only).trans T3.only).trans T4.only).trans T5.only).trans T6.only).trans T7.only).trans T8.only).trans T9.only)⟩
      · rw [c60]
        simp only [S60, List.getD_cons_zero, List.getD_cons_succ, Option.bind_some, cond_bool, cond_true, cond_false, fill_cons, fill_nil, aCells_agg, aCells_int, aCells_bool, ble_dec, decide_true, spl_s, spl_z, spl_c, List.length_cons, List.length_nil, Nat.zero_add, Nat.reduceAdd, Nat.le_refl, Nat.reduceLeDiff, nilchk_ptr, faddr_ptr, load_ptr, from_one, rdL_z, rdL_t, Option.map_some, from_agg, bin_eql, aggCells_agg, nat_beq0, oneOr_one, ans_one, cp_cons, pairOk_some, ↓reduceIte, lookLog_cons, logRd_ptr, stays_rd, beqO_same, checkPairs_nil, Bool.and_true, Nat.reduceEqDiff, r0, e1, b1, b1', r1, a2, r2, a3, a4, r4, a5, r5, a6, r6, a7, a8, a9, o9, Ms.cells, noM]
      · unfold msgP
        rw [S1.bind]
        subst k2
        show (left (st.bind byteP)).bind ansP = _
        unfold ansP Pr.map
        rw [T2.bind, T3.bind, T4.bind, T5.bind, T6.bind, T7.bind, T8.bind, T9.bind]
        rfl
    · have b2 : ((k : Int) == 2) = false := by simp only [beq_eq_false_iff_ne, ne_eq]; omega
      by_cases k3 : k = 3 ∨ k = 4
      · obtain ⟨cs, sc, g9, a9, O9, l9, f9, T9⟩ := mcards S1.ms
        have o9 := own_cell O9
        refine ⟨{ noM k with cards := cs }, sc, .nilSlice, g9, ?_, ⟨O9.src, srcK_nil _⟩, ⟨wk, w0, w0, w0, w0, w0, w0, u0, f9⟩, ⟨l9, by simp [noM]⟩, step_end T9.ms ?_ (S1.only.trans T9.only)⟩
        · rw [c60]
          by_cases k3' : k = 3
          · have b3 : ((k : Int) == 3) = true := by simp [k3']
            simp only [S60, List.getD_cons_zero, List.getD_cons_succ, Option.bind_some, cond_bool, cond_true, cond_false, fill_cons, fill_nil, aCells_agg, aCells_int, ble_dec, decide_true, spl_s, spl_z, spl_c, List.length_cons, List.length_nil, Nat.zero_add, Nat.reduceAdd, Nat.le_refl, Nat.reduceLeDiff, nilchk_ptr, faddr_ptr, load_ptr, from_one, rdL_z, rdL_t, Option.map_some, from_agg, bin_eql, aggCells_agg, nat_beq0, oneOr_one, ans_one, cp_cons, pairOk_some, ↓reduceIte, lookLog_cons, logRd_ptr, stays_rd, checkPairs_nil, Bool.and_true, Nat.reduceEqDiff, r0, e1, b1, b2, b3, r1, a9, o9, Ms.cells, noM]
          · have b3 : ((k : Int) == 3) = false := by simp only [beq_eq_false_iff_ne, ne_eq]; omega
            have b4 : ((k : Int) == 4) = true := by simp; omega
            simp only [S60, List.getD_cons_zero, List.getD_cons_succ, Option.bind_some, cond_bool, cond_true, cond_false, fill_cons, fill_nil, aCells_agg, aCells_int, ble_dec, decide_true, spl_s, spl_z, spl_c, List.length_cons, List.length_nil, Nat.zero_add, Nat.reduceAdd, Nat.le_refl, Nat.reduceLeDiff, nilchk_ptr, faddr_ptr, load_ptr, from_one, rdL_z, rdL_t, Option.map_some, from_agg, bin_eql, aggCells_agg, nat_beq0, oneOr_one, ans_one, cp_cons, pairOk_some, ↓reduceIte, lookLog_cons, logRd_ptr, stays_rd, checkPairs_nil, Bool.and_true, Nat.reduceEqDiff, r0, e1, b1, b2, b3, b4, r1, a9, o9, Ms.cells, noM]
        · unfold msgP
          rw [S1.bind]
          have : bodyP k = cardsP.map fun cards => { noM k with cards := cards } := by
            unfold bodyP; rw [if_neg k1, if_neg k2, if_pos k3]
          rw [this]
          unfold Pr.map
          rw [T9.bind]
      · have b3 : ((k : Int) == 3) = false := by simp only [beq_eq_false_iff_ne, ne_eq]; omega
        have b4 : ((k : Int) == 4) = false := by simp only [beq_eq_false_iff_ne, ne_eq]; omega
        by_cases k5 : k = 5
        · have b5 : ((k : Int) == 5) = true := by simp [k5]
          obtain ⟨cs, sc, g9, a9, O9, l9, T9⟩ := mkeys S1.ms
          have o9 := own_cell O9
          refine ⟨{ noM k with keys := cs }, .nilSlice, sc, g9, ?_, ⟨srcC_nil _, O9.src⟩, ⟨wk, w0, w0, w0, w0, w0, w0, u0, by simp [noM]⟩, ⟨by simp [noM], l9⟩, step_end T9.ms ?_ (S1.only.trans T9.only)⟩
          · rw [c60]
            simp only [S60, List.getD_cons_zero, List.getD_cons_succ, Option.bind_some, cond_bool, cond_true, cond_false, fill_cons, fill_nil, aCells_agg, aCells_int, ble_dec, decide_true, spl_s, spl_z, spl_c, List.length_cons, List.length_nil, Nat.zero_add, Nat.reduceAdd, Nat.le_refl, Nat.reduceLeDiff, nilchk_ptr, faddr_ptr, load_ptr, from_one, rdL_z, rdL_t, Option.map_some, from_agg, bin_eql, aggCells_agg, nat_beq0, oneOr_one, ans_one, cp_cons, pairOk_some, ↓reduceIte, lookLog_cons, logRd_ptr, stays_rd, checkPairs_nil, Bool.and_true, Nat.reduceEqDiff, r0, e1, b1, b2, b3, b4, b5, r1, a9, o9, Ms.cells, noM]
          · unfold msgP
            rw [S1.bind]
            have : bodyP k = keysP.map fun keys => { noM k with keys := keys } := by
              unfold bodyP; rw [if_neg k1, if_neg k2, if_neg k3, if_pos k5]
            rw [this]
            unfold Pr.map
            rw [T9.bind]
        · have b5 : ((k : Int) == 5) = false := by simp only [beq_eq_false_iff_ne, ne_eq]; omega
          refine ⟨noM k, .nilSlice, .nilSlice, h1, ?_, msAt_no k h1, ⟨wk, w0, w0, w0, w0, w0, w0, u0, by simp [noM]⟩, by simp [noM], step_end S1.ms ?_ S1.only⟩
          · rw [c60]
            simp only [S60, List.getD_cons_zero, List.getD_cons_succ, Option.bind_some, cond_bool, cond_true, cond_false, fill_cons, fill_nil, aCells_agg, aCells_int, ble_dec, decide_true, spl_s, spl_z, spl_c, List.length_cons, List.length_nil, Nat.zero_add, Nat.reduceAdd, Nat.le_refl, Nat.reduceLeDiff, nilchk_ptr, faddr_ptr, load_ptr, from_one, rdL_z, rdL_t, Option.map_some, from_agg, bin_eql, aggCells_agg, nat_beq0, oneOr_one, ans_one, cp_cons, pairOk_some, ↓reduceIte, lookLog_cons, logRd_ptr, stays_rd, checkPairs_nil, Bool.and_true, Nat.reduceEqDiff, r0, e1, b1, b2, b3, b4, b5, Ms.cells, noM]
          · unfold msgP
            rw [S1.bind]
            have : bodyP k = Pr.ret (noM k) := by
              unfold bodyP; rw [if_neg k1, if_neg k2, if_neg k3, if_neg k5]
            rw [this]
end
abbrev tRead : List UInt8 := [114, 101, 97, 100]
structure ReadOk (h : Heap) (l : List UInt8) (m : Ms) (sc sk e : AVal) (H : Heap) : Prop where
  went : Went h H
  at' : MsAt H m sc sk
  wf : m.Wf
  len : m.cards.length ≤ 255 ∧ m.keys.length ≤ 255
  ok : ∀ m', readM l = .inl m' → m = m' ∧ e = .nilIface
  no : ∀ p, readM l = .inr p → m = noM 0 ∧ p.2 ≠ 0 ∧ Rep H H.next (.fault tRead (.fault p.1 (.code p.2))) e
theorem noM_wf : (noM 0).Wf := ⟨by decide, by decide, by decide, by decide, by decide, by decide, by decide, by decide, by simp [noM]⟩
abbrev zMs : List AVal := [.int .i64 0, .int .i64 0, .int .i64 0, .int .i64 0, .int .i64 0, .int .i64 0, .int .i64 0, .str [], .str [], .bool false, .int .u32 0, .nilSlice, .nilSlice]
theorem read_ok {a : AVal} {h : Heap} {l : List UInt8} (S : Go.Fw.Bs a h l) (hl : l.length ≤ 140737488355328) :
    ∃ m sc sk e H, E tbl 27 [a] h = some (.tuple [.agg (m.cells sc sk), e], H) ∧ ReadOk h l m sc sk e H := by
  obtain ⟨r, h1, e1, R1, W1, hr, hb⟩ := new_eq S hl
  obtain ⟨q, hq⟩ : ∃ q, q = h1.next := ⟨_, rfl⟩
  have Q0 : MS (q + 1) q r (h1.alloc [.ptr r 0, .bool false]) (some l) := by
    have hrq : r < q := by rw [hq]; exact R1.lt
    refine ⟨l, false, false, ⟨by rw [hq]; simp, by omega, by omega, by omega, by rw [hq]; exact alloc_same _ _, ?_, ?_⟩, rfl⟩
    · obtain ⟨lt, s, f1, f2, f3⟩ := R1
      exact ⟨by simp; omega, s, by rw [alloc_old _ _ (by omega)]; exact f1, f2.mono (by simp) fun b hb => alloc_old _ _ (by have := f2.blk b hb; omega), f3⟩
    · intro s x hs c hc
      rw [alloc_old _ _ (by omega)] at hs
      obtain ⟨lt, s', f1, f2, f3⟩ := R1
      rw [f1] at hs
      simp only [Option.some.injEq, Blk.mk.injEq, List.cons.injEq] at hs
      obtain ⟨⟨rfl, rfl, _⟩, _⟩ := hs
      have := (hb s' _ f1 c hc).2
      omega
  obtain ⟨m, sc, sk, H, e2, A, wf, len, S2⟩ := mmsg Q0
  obtain ⟨l', bad, odd, Q2, el⟩ := S2.ms
  have WH : Went h H := ⟨by have := W1.next; have := S2.only.next; simp at this; omega, fun b hb => by
    have hn := W1.next
    have := R1.lt
    rw [S2.only.old b (by simp; omega) (by omega) (by omega), alloc_old _ _ (by omega), W1.old b hb]⟩
  have dn := (done_eq Q2.rd).1
  have r0 := S2.ms.ptr
  have r1 : H.rd q 1 1 = some [.bool odd] := rd_of Q2.blk 1 1 (by simp)
  have hmsg : msgP l = (some l).bind msgP := rfl
  by_cases good : bad = false ∧ odd = false ∧ l' = []
  · obtain ⟨rfl, rfl, rfl⟩ := good
    have hm : msgP l = some (m, []) := by
      rw [hmsg]
      cases hz : (some l).bind msgP with
      | none => rw [hz] at el; cases el
      | some z =>
        rw [hz] at el
        have := S2.val z hz
        obtain ⟨z1, z2⟩ := z
        simp [left] at el
        simp at this
        rw [this, el]
    obtain ⟨e3, H3, a3, R3, W3⟩ := right_ok A
    by_cases hw : (whyM m).2 = 0
    · rw [erW_ok hw] at R3
      obtain rfl : e3 = .nilIface := R3
      refine ⟨m, sc, sk, .nilIface, H3, ?_, WH.trans W3, A.went W3, wf, len, fun m' hm' => ?_, fun p hp => ?_⟩
      · rw [c27]
        have nn : aBin .neq (.iface true []) .nilIface .nilIface = some (.bool false) := rfl
        simp only [S27, List.getD_cons_zero, Option.bind_some, cond_bool, cond_true, cond_false, fill_cons, fill_nil, aCells_agg, ble_dec, decide_true, spl_z, spl_c, List.length_cons, List.length_nil, Nat.zero_add, Nat.reduceAdd, Nat.le_refl, Nat.reduceLeDiff, nilchk_ptr, faddr_ptr, load_ptr, from_one, rdL_z, rdL_t, Option.map_some, from_agg, ans_one, Bool.and_true, e1, cell_ptr, cellsQ_agg, ← hq, e2, r0, dn, un_not, Bool.not_false, Bool.not_true, r1, g_or, pff, List.length_nil, a3, nn, oneOr_two]
      · simp [readM, hm, hw] at hm'
        exact ⟨hm', rfl⟩
      · simp [readM, hm, hw] at hp
    · obtain ⟨s, x, rfl⟩ : ∃ s x, e3 = .iface s x := R3.iface (by rw [erW_no hw]; simp)
      obtain ⟨v4, H4, a4, R4, W4⟩ := wrap_ok tRead R3 (Nat.le_refl _)
      refine ⟨noM 0, .nilSlice, .nilSlice, v4, H4, ?_, (WH.trans W3).trans W4, msAt_no 0 H4, noM_wf, by simp [noM], fun m' hm' => ?_, fun p hp => ?_⟩
      · rw [c27]
        have nn : aBin .neq (.iface true []) (.iface s x) .nilIface = some (.bool true) := if_nil' _ _ _ _
        simp only [S27, List.getD_cons_zero, Option.bind_some, cond_bool, cond_true, cond_false, fill_cons, fill_nil, aCells_agg, ble_dec, decide_true, spl_z, spl_c, List.length_cons, List.length_nil, Nat.zero_add, Nat.reduceAdd, Nat.le_refl, Nat.reduceLeDiff, nilchk_ptr, faddr_ptr, load_ptr, from_one, rdL_z, rdL_t, Option.map_some, from_agg, ans_one, Bool.and_true, e1, cell_ptr, cellsQ_agg, ← hq, e2, r0, dn, un_not, Bool.not_false, Bool.not_true, r1, g_or, pff, List.length_nil, a3, nn, a4, oneOr_two, Ms.cells, noM]
      · simp [readM, hm, hw] at hm'
      · simp [readM, hm, hw] at hp
        subst hp
        rw [erW_no hw] at R4
        exact ⟨rfl, hw, R4⟩
  · have hbad : readM l = .inr (tBytes, 12) := by
      unfold readM
      rw [hmsg]
      cases hz : (some l).bind msgP with
      | none => rfl
      | some z =>
        obtain ⟨z1, z2⟩ := z
        rw [hz] at el
        cases z2 with
        | cons c z2 => rfl
        | nil =>
          exfalso
          simp [left] at el
          cases bad <;> cases odd <;> simp_all
    obtain ⟨e3, H3, a3, R3, W3⟩ := new_ok tBytes 12 H
    obtain ⟨v4, H4, a4, R4, W4⟩ := wrap_ok tRead R3 (Nat.le_refl _)
    refine ⟨noM 0, .nilSlice, .nilSlice, v4, H4, ?_, (WH.trans W3).trans W4, msAt_no 0 H4, noM_wf, by simp [noM], fun m' hm' => (by rw [hbad] at hm'; cases hm'), fun p hp => ?_⟩
    · have hd : (!(!bad && decide (l'.length = 0)) || odd) = true := by
        cases bad with
        | true => simp
        | false => cases odd with
          | true => simp
          | false =>
            have : l'.length ≠ 0 := fun h => good ⟨rfl, rfl, List.length_eq_zero_iff.1 h⟩
            simp [this]
      rw [c27]
      simp only [S27, List.getD_cons_zero, Option.bind_some, cond_bool, cond_true, fill_cons, fill_nil, aCells_agg, ble_dec, decide_true, spl_z, spl_c, List.length_cons, List.length_nil, Nat.zero_add, Nat.reduceAdd, Nat.le_refl, Nat.reduceLeDiff, nilchk_ptr, faddr_ptr, load_ptr, from_one, rdL_z, rdL_t, Option.map_some, from_agg, ans_one, e1, cell_ptr, cellsQ_agg, ← hq, e2, r0, dn, un_not, r1, g_or, p_or, hd, a3, a4, oneOr_two, Ms.cells, noM]
    · rw [hbad] at hp
      cases hp
      exact ⟨rfl, by decide, R4⟩
end Go.Proofs.YtjibfbphiemljaaGreatDoor.Code
