/- YtjibfbphiemljaaGreatDoorRefH -/
import Derived.Test.YtjibfbphiemljaaGreatDoorRefG
set_option linter.unusedSimpArgs false
set_option linter.unusedVariables false
namespace Go.Proofs.YtjibfbphiemljaaGreatDoor.Code
open Go.Fw
structure RawOk (h : Heap) (m : Ms) (sc sk : AVal) : Prop where
  at' : MsAt h m sc sk
  sum : U32 m.sum
  sz : m.Sz
  len : m.cards.length ≤ 281474976710656 ∧ m.keys.length ≤ 281474976710656
theorem mailTells {h : Heap} (R : Rdy h) {s : AVal} {l : List Int} (I : Ints .i64 s h l) (lt : ∀ b, slBlk s = some b → b < h.next) (hl : l.length * 8 ≤ 140737488355328) (what n : Int) {m : Ms} {sc sk : AVal} (W : RawOk h m sc sk)
    {b : AVal} {bl : List UInt8} (B : Go.Fw.Bs b h bl) (Rb : El.Room b) (at_ : Int) (turn : UInt8) :
    ∃ h', E tbl 4 [s, .int .i64 what, .int .i64 n, .agg (m.cells sc sk), b, .int .i64 at_, .int .u8 (turn.toNat : Int)] h = some (.bool true, h') := by
  obtain ⟨m1, c1, k1, H1, e1, K1, W1⟩ := new_tape I lt (by omega)
  have RM := right_of K1.right
  have X1 := right_tx RM
  have L1 := RM.len
  have R1 := R.went W1
  obtain ⟨x, H2, e2, F2⟩ := bytes6_ok K1.at' K1.wf.sum RM
  have small := bytes_small m1 RM
  have hpos : 0 < (bytesM m1).length := by unfold bytesM; simp
  have lx : aLen false x = some (.int .i64 (bytesM m1).length) := Fw.Src.len F2.bs
  have w3 : IntKind.i64.wrap (((bytesM m1).length : Int) - 1) = ((bytesM m1).length : Int) - 1 := IntWalk.i64_in _ (by omega)
  have e3 := bwithin_ok at_ 0 (((bytesM m1).length : Int) - 1) H2 (by omega) (by omega) (by omega)
  obtain ⟨q1, q2⟩ := within_in at_ 0 (((bytesM m1).length : Int) - 1) (by omega)
  obtain ⟨k, hk⟩ : ∃ k : Nat, within at_ 0 (((bytesM m1).length : Int) - 1) = (k : Int) := ⟨_, (Int.toNat_of_nonneg q1).symm⟩
  rw [hk] at e3 q2
  have hkl : k < (bytesM m1).length := by omega
  obtain ⟨p, H3, e4, e5, e6, F3, _, _⟩ := F2.set k hkl ((bytesM m1)[k] ^^^ turn)
  have e7 := Go.Fw.u8_xor (bytesM m1)[k] turn
  have W3 : Went h H3 := W1.trans F3.went
  have A3 : MsAt H3 m1 c1 k1 := K1.at'.went F3.went
  have B3 := W3.src B
  obtain ⟨b', e8, B8, R8, l8⟩ : ∃ b', (if 300 < bl.length then aSliceSl 1 b none (some (.int .i64 300)) none = some b' else b' = b) ∧ Go.Fw.Bs b' H3 (bl.take 300) ∧ El.Room b' ∧ True := by
    by_cases hb : 300 < bl.length
    · obtain ⟨b', e, S, Rm, _⟩ := Bs.pre B3 Rb 300 (by omega)
      exact ⟨b', by rw [if_pos hb]; exact e, S, Rm, trivial⟩
    · exact ⟨b, by rw [if_neg hb], by rw [List.take_of_length_le (by omega)]; exact B3, Rb, trivial⟩
  have lb : aLen false b = some (.int .i64 bl.length) := Fw.Src.len B3
  obtain ⟨H4, e9, W4⟩ := lsame_ok (R.went W3) A3 K1.wf.sum X1.sz (by omega) (by omega)
  have W04 := W3.trans W4
  obtain ⟨m5, c5', k5, H5, e10, K5⟩ := odd_ok (A3.went W4) K1.wf.sum X1 (L := 64) L1 (by omega) what n
  have W05 := W04.trans K5.went
  have L5 := K5.len
  obtain ⟨H6, e11, W6⟩ := lsame_ok (R.went W05) K5.at' K5.sum K5.tx.sz (by omega) (by omega)
  have W06 := W05.trans W6
  obtain ⟨m7, c7', k7, H7, e12, K7⟩ := odd_ok (((A3.went W4).went K5.went).went W6) K1.wf.sum X1 (L := 64) L1 (by omega) what n
  have L7 := K7.len
  have W07 := W06.trans K7.went
  obtain ⟨n7, e13, _, _⟩ := and_eq n 7 (by omega) (by omega)
  obtain ⟨m8, c8', k8, H8, e14, K8⟩ := odd_ok K7.at' K7.sum K7.tx (L := 134) (by omega) (by omega) at_ n7
  have L8 := K8.len
  have W08 := W07.trans K8.went
  obtain ⟨H9, e15, W9⟩ := lsame_ok (R.went W08) K8.at' K8.sum K8.tx.sz (by omega) (by omega)
  have W09 := W08.trans W9
  have Lr := W.len
  obtain ⟨H10, e16, W10⟩ := lsame_ok (R.went W09) (W.at'.went W09) W.sum W.sz (by omega) (by omega)
  have W010 := W09.trans W10
  have V10 := (((((W4.trans K5.went).trans W6).trans K7.went).trans K8.went).trans W9).trans W10
  obtain ⟨H11, e17, W11⟩ := reads_ok (R.went W010) (V10.src F3.bs) F3.own.room (by rw [List.length_set]; omega)
  have W011 := W010.trans W11
  obtain ⟨H12, e18, W12⟩ := reads_ok (R.went W011) ((V10.trans W11).src B8) R8 (by rw [List.length_take]; omega)
  have W012 := W011.trans W12
  have V12 := (V10.trans W11).trans W12
  have s1 := same_ok (A3.went V12) (W.at'.went W012) (by omega) (by omega)
  have s2 := same6_ok (A3.went V12) (W.at'.went W012) (by omega) (by omega)
  obtain ⟨H13, e19, W13⟩ := known_ok (R.went W012)
  have ic := ints_cell I
  have db : ∀ x : Bool, (x == x) = true := fun x => by cases x <;> rfl
  simp only [Ms.cells] at e1 e2 e9 e10 e11 e12 e14 e15 e16 s1 s2
  refine ⟨H13, ?_⟩
  rw [c4]
  by_cases hb : 300 < bl.length
  · rw [if_pos hb] at e8
    have i1 : decide ((bl.length : Int) > 300) = true := decide_eq_true (by omega)
    simp only [S4, Ms.cells, ic, e1, e2, lx, w3, e3, e4, e5, e6, e7, lb, i1, e8, gtt, pk_t, e9, e10, e11, e12, e13, e14, e15, e16, e17, e18, s1, s2, bin_bool_eql, db, e19, stays_lrd, lookB_if, bin_sub, List.getD_cons_zero, List.getD_cons_succ, Option.bind_some, cond_bool, cond_true, fill_cons, fill_nil, aCells_agg, aCells_int, cellsQ_agg, ble_dec, decide_true, spl_z, spl_c, List.length_cons, List.length_nil, Nat.zero_add, Nat.reduceAdd, Nat.le_refl, Nat.reduceLeDiff, from_one, rdL_z, rdL_t, Option.map_some, from_agg, bin_gtr, aggCells_agg, nat_beq0, ans_one, cp_cons, pairOk_some, ↓reduceIte, lookLog_cons, beqO_same, checkPairs_nil, Bool.and_true, Bool.true_and, Nat.reduceEqDiff, g_and]
  · rw [if_neg hb] at e8
    subst e8
    have i1 : decide ((bl.length : Int) > 300) = false := decide_eq_false (by omega)
    simp only [S4, Ms.cells, ic, e1, e2, lx, w3, e3, e4, e5, e6, e7, lb, i1, gtt, pk_t, e9, e10, e11, e12, e13, e14, e15, e16, e17, e18, s1, s2, bin_bool_eql, db, e19, stays_lrd, lookB_if, bin_sub, List.getD_cons_zero, List.getD_cons_succ, Option.bind_some, cond_bool, cond_true, cond_false, fill_cons, fill_nil, aCells_agg, aCells_int, cellsQ_agg, ble_dec, decide_true, spl_z, spl_c, List.length_cons, List.length_nil, Nat.zero_add, Nat.reduceAdd, Nat.le_refl, Nat.reduceLeDiff, from_one, rdL_z, rdL_t, Option.map_some, from_agg, bin_gtr, aggCells_agg, nat_beq0, ans_one, cp_cons, pairOk_some, ↓reduceIte, lookLog_cons, beqO_same, checkPairs_nil, Bool.and_true, Bool.true_and, Nat.reduceEqDiff, g_and]
end Go.Proofs.YtjibfbphiemljaaGreatDoor.Code
