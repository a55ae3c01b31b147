/- YtjibfbphiemljaaGreatDoorRefF -/
import Derived.Test.YtjibfbphiemljaaGreatDoorRefE
set_option linter.unusedSimpArgs false
set_option linter.unusedVariables false
namespace Go.Proofs.YtjibfbphiemljaaGreatDoor.Code
open Go.Fw
theorem odd_ok {h : Heap} {L : Nat} {m : Ms} {sc sk : AVal} (A : MsAt h m sc sk) (hu : U32 m.sum) (X : TxSz m) (hl : m.cards.length ≤ L ∧ m.keys.length ≤ L) (hL : L ≤ 1000000) (what n : Int) :
    ∃ m' sc' sk' H, E tbl 8 [.agg (m.cells sc sk), .int .i64 what, .int .i64 n] h = some (.agg (m'.cells sc' sk'), H) ∧ OddOk h L m' sc' sk' H := by
  have e1 := bwithin_ok what 0 13 h (by omega) (by omega) (by omega)
  obtain ⟨q1, q2⟩ := within_in what 0 13 (by omega)
  obtain ⟨k, hk⟩ : ∃ k : Nat, within what 0 13 = (k : Int) := ⟨_, (Int.toNat_of_nonneg q1).symm⟩
  rw [hk] at q2 e1
  have k13 : k ≤ 13 := by omega
  have W0 := Went.refl h
  have L0 : m.cards.length ≤ L + 70 ∧ m.keys.length ≤ L + 70 := by omega
  have bf : ∀ a b : Int, a ≠ b → (a == b) = false := fun a b h => by simpa using h
  have hs : m.cells sc sk = [.int .i64 m.kind, .int .i64 m.op, .int .i64 m.st, .int .i64 m.code, .int .i64 m.tag, .int .i64 m.n, .int .i64 m.seq, .str m.ka, .str m.ki, .bool m.full, .int .u32 m.sum, sc, sk] := rfl
  by_cases k0 : k = 0
  · subst k0
    have b0 : (((0 : Nat) : Int) == 0) = true := rfl
    refine ⟨{ m with kind := n }, sc, sk, h, ?_, ⟨W0, ⟨A.cards, A.keys⟩, hu, X, L0⟩⟩
    rw [c8]
    simp only [S8, Ms.cells, e1, b0, List.getD_cons_zero, List.getD_cons_succ, Option.bind_some, cond_bool, cond_true, fill_cons, fill_nil, aCells_agg, aCells_int, cell_slice, cell_str, cellsQ_agg, ble_dec, decide_true, spl_s, spl_z, spl_c, reps_one, List.length_cons, List.length_nil, Nat.zero_add, Nat.reduceAdd, Nat.le_refl, Nat.reduceLeDiff, rdL_z, rdL_t, Option.map_some, from_agg, bin_eql, conv_int, aggCells_agg, nat_beq0, oneOr_one, ans_one]
  have b0 := bf (k : Int) 0 (by omega)
  by_cases k1 : k = 1
  · subst k1
    have b1 : (((1 : Nat) : Int) == 1) = true := rfl
    refine ⟨{ m with op := n }, sc, sk, h, ?_, ⟨W0, ⟨A.cards, A.keys⟩, hu, X, L0⟩⟩
    rw [c8]
    simp only [S8, Ms.cells, e1, b0, b1, List.getD_cons_zero, List.getD_cons_succ, Option.bind_some, cond_bool, cond_true, cond_false, fill_cons, fill_nil, aCells_agg, aCells_int, cell_slice, cell_str, cellsQ_agg, ble_dec, decide_true, spl_s, spl_z, spl_c, reps_one, List.length_cons, List.length_nil, Nat.zero_add, Nat.reduceAdd, Nat.le_refl, Nat.reduceLeDiff, rdL_z, rdL_t, Option.map_some, from_agg, bin_eql, conv_int, aggCells_agg, nat_beq0, oneOr_one, ans_one]
  have b1 := bf (k : Int) 1 (by omega)
  by_cases k2 : k = 2
  · subst k2
    have b2 : (((2 : Nat) : Int) == 2) = true := rfl
    refine ⟨{ m with st := n }, sc, sk, h, ?_, ⟨W0, ⟨A.cards, A.keys⟩, hu, X, L0⟩⟩
    rw [c8]
    simp only [S8, Ms.cells, e1, b0, b1, b2, List.getD_cons_zero, List.getD_cons_succ, Option.bind_some, cond_bool, cond_true, cond_false, fill_cons, fill_nil, aCells_agg, aCells_int, cell_slice, cell_str, cellsQ_agg, ble_dec, decide_true, spl_s, spl_z, spl_c, reps_one, List.length_cons, List.length_nil, Nat.zero_add, Nat.reduceAdd, Nat.le_refl, Nat.reduceLeDiff, rdL_z, rdL_t, Option.map_some, from_agg, bin_eql, conv_int, aggCells_agg, nat_beq0, oneOr_one, ans_one]
  have b2 := bf (k : Int) 2 (by omega)
  by_cases k3 : k = 3
  · subst k3
    have b3 : (((3 : Nat) : Int) == 3) = true := rfl
    refine ⟨{ m with code := n }, sc, sk, h, ?_, ⟨W0, ⟨A.cards, A.keys⟩, hu, X, L0⟩⟩
    rw [c8]
    simp only [S8, Ms.cells, e1, b0, b1, b2, b3, List.getD_cons_zero, List.getD_cons_succ, Option.bind_some, cond_bool, cond_true, cond_false, fill_cons, fill_nil, aCells_agg, aCells_int, cell_slice, cell_str, cellsQ_agg, ble_dec, decide_true, spl_s, spl_z, spl_c, reps_one, List.length_cons, List.length_nil, Nat.zero_add, Nat.reduceAdd, Nat.le_refl, Nat.reduceLeDiff, rdL_z, rdL_t, Option.map_some, from_agg, bin_eql, conv_int, aggCells_agg, nat_beq0, oneOr_one, ans_one]
  have b3 := bf (k : Int) 3 (by omega)
  by_cases k4 : k = 4
  · subst k4
    have b4 : (((4 : Nat) : Int) == 4) = true := rfl
    refine ⟨{ m with tag := n }, sc, sk, h, ?_, ⟨W0, ⟨A.cards, A.keys⟩, hu, X, L0⟩⟩
    rw [c8]
    simp only [S8, Ms.cells, e1, b0, b1, b2, b3, b4, List.getD_cons_zero, List.getD_cons_succ, Option.bind_some, cond_bool, cond_true, cond_false, fill_cons, fill_nil, aCells_agg, aCells_int, cell_slice, cell_str, cellsQ_agg, ble_dec, decide_true, spl_s, spl_z, spl_c, reps_one, List.length_cons, List.length_nil, Nat.zero_add, Nat.reduceAdd, Nat.le_refl, Nat.reduceLeDiff, rdL_z, rdL_t, Option.map_some, from_agg, bin_eql, conv_int, aggCells_agg, nat_beq0, oneOr_one, ans_one]
  have b4 := bf (k : Int) 4 (by omega)
  by_cases k5 : k = 5
  · subst k5
    have b5 : (((5 : Nat) : Int) == 5) = true := rfl
    refine ⟨{ m with n := n }, sc, sk, h, ?_, ⟨W0, ⟨A.cards, A.keys⟩, hu, X, L0⟩⟩
    rw [c8]
    simp only [S8, Ms.cells, e1, b0, b1, b2, b3, b4, b5, List.getD_cons_zero, List.getD_cons_succ, Option.bind_some, cond_bool, cond_true, cond_false, fill_cons, fill_nil, aCells_agg, aCells_int, cell_slice, cell_str, cellsQ_agg, ble_dec, decide_true, spl_s, spl_z, spl_c, reps_one, List.length_cons, List.length_nil, Nat.zero_add, Nat.reduceAdd, Nat.le_refl, Nat.reduceLeDiff, rdL_z, rdL_t, Option.map_some, from_agg, bin_eql, conv_int, aggCells_agg, nat_beq0, oneOr_one, ans_one]
  have b5 := bf (k : Int) 5 (by omega)
  by_cases k6 : k = 6
  · subst k6
    have b6 : (((6 : Nat) : Int) == 6) = true := rfl
    refine ⟨{ m with seq := n }, sc, sk, h, ?_, ⟨W0, ⟨A.cards, A.keys⟩, hu, X, L0⟩⟩
    rw [c8]
    simp only [S8, Ms.cells, e1, b0, b1, b2, b3, b4, b5, b6, List.getD_cons_zero, List.getD_cons_succ, Option.bind_some, cond_bool, cond_true, cond_false, fill_cons, fill_nil, aCells_agg, aCells_int, cell_slice, cell_str, cellsQ_agg, ble_dec, decide_true, spl_s, spl_z, spl_c, reps_one, List.length_cons, List.length_nil, Nat.zero_add, Nat.reduceAdd, Nat.le_refl, Nat.reduceLeDiff, rdL_z, rdL_t, Option.map_some, from_agg, bin_eql, conv_int, aggCells_agg, nat_beq0, oneOr_one, ans_one]
  have b6 := bf (k : Int) 6 (by omega)
  by_cases k7 : k = 7
  · subst k7
    have b7 : (((7 : Nat) : Int) == 7) = true := rfl
    have e2 := bwithin_ok n 0 3 (h.alloc (oddTexts.map .str)) (by omega) (by omega) (by omega)
    obtain ⟨p1, p2⟩ := within_in n 0 3 (by omega)
    obtain ⟨t, mt, a1, a2⟩ := str_at (n := 4) (L := oddTexts) rfl (alloc_same h _) (within n 0 3) p1 (by omega)
    have fl : aFill (reps [.str []] 4) [(0, 1, (.str [])), (1, 1, (.str [65])), (2, 1, (.str [111, 107])), (3, 1, (.str [48, 49, 50, 51, 52, 53, 54, 55, 56, 57, 97, 98, 99, 100, 101, 102, 103]))] = some (oddTexts.map .str) := rfl
    have ht : t.length ≤ 255 := by
      have : ∀ x ∈ oddTexts, x.length ≤ 255 := by decide
      exact this t mt
    refine ⟨{ m with ka := t }, sc, sk, h.alloc (oddTexts.map .str), ?_, ⟨Went.alloc _ _, ⟨(A.went (Went.alloc _ _)).cards, (A.went (Went.alloc _ _)).keys⟩, hu, ⟨⟨ht, X.1.2⟩, X.2⟩, L0⟩⟩
    rw [c8]
    simp only [S8, fl, Ms.cells, e1, b0, b1, b2, b3, b4, b5, b6, b7, List.getD_cons_zero, List.getD_cons_succ, Option.bind_some, cond_bool, cond_true, cond_false, fill_cons, fill_nil, aCells_agg, aCells_int, cell_slice, cell_str, cellsQ_agg, ble_dec, decide_true, spl_s, spl_z, spl_c, reps_one, List.length_cons, List.length_nil, Nat.zero_add, Nat.reduceAdd, Nat.le_refl, Nat.reduceLeDiff, load_ptr, from_one, rdL_z, rdL_t, Option.map_some, from_agg, bin_eql, conv_int, aggCells_agg, nat_beq0, oneOr_one, ans_one, e2, a1, a2]
  have b7 := bf (k : Int) 7 (by omega)
  by_cases k8 : k = 8
  · subst k8
    have b8 : (((8 : Nat) : Int) == 8) = true := rfl
    refine ⟨{ m with full := !m.full }, sc, sk, h, ?_, ⟨W0, ⟨A.cards, A.keys⟩, hu, X, L0⟩⟩
    rw [c8]
    simp only [S8, Ms.cells, e1, b0, b1, b2, b3, b4, b5, b6, b7, b8, List.getD_cons_zero, List.getD_cons_succ, Option.bind_some, cond_bool, cond_true, cond_false, fill_cons, fill_nil, aCells_agg, aCells_int, aCells_bool, cell_slice, cell_str, cellsQ_agg, ble_dec, decide_true, spl_s, spl_z, spl_c, reps_one, List.length_cons, List.length_nil, Nat.zero_add, Nat.reduceAdd, Nat.le_refl, Nat.reduceLeDiff, from_one, rdL_z, rdL_t, rdL_s, Option.map_some, from_agg, bin_eql, conv_int, aggCells_agg, nat_beq0, oneOr_one, ans_one, un_not]
  have b8 := bf (k : Int) 8 (by omega)
  by_cases k9 : k = 9
  · subst k9
    have b9 : (((9 : Nat) : Int) == 9) = true := rfl
    refine ⟨{ m with sum := IntKind.u32.wrap n }, sc, sk, h, ?_, ⟨W0, ⟨A.cards, A.keys⟩, by show U32 (IntKind.u32.wrap n); rw [IntKind.wrap_u32]; unfold U32; omega, X, L0⟩⟩
    rw [c8]
    simp only [S8, Ms.cells, e1, b0, b1, b2, b3, b4, b5, b6, b7, b8, b9, List.getD_cons_zero, List.getD_cons_succ, Option.bind_some, cond_bool, cond_true, cond_false, fill_cons, fill_nil, aCells_agg, aCells_int, cell_slice, cell_str, cellsQ_agg, ble_dec, decide_true, spl_s, spl_z, spl_c, reps_one, List.length_cons, List.length_nil, Nat.zero_add, Nat.reduceAdd, Nat.le_refl, Nat.reduceLeDiff, rdL_z, rdL_t, Option.map_some, from_agg, bin_eql, conv_int, aggCells_agg, nat_beq0, oneOr_one, ans_one]
  have b9 := bf (k : Int) 9 (by omega)
  by_cases k10 : k = 10
  · subst k10
    have b10 : (((10 : Nat) : Int) == 10) = true := rfl
    obtain ⟨o, H1, e2, O1, W1⟩ := src_again (bytes := 88) (zero := zCd) A.cards (by omega) (by omega)
    obtain ⟨o2, H2, e3, O2, K2⟩ := El.Own.snoc (bytes := 88) (zero := zCd) O1 (⟨[], [], n, 0, 0, 0, 0, 0, false⟩ : Cd) W1.next (by omega) (by omega)
    rw [cdE_f] at e3
    have W2 : Went h H2 := K2.went W1 fun b hb => (O1.blk b hb).1
    have oc := own_cell O2
    refine ⟨{ m with cards := m.cards ++ [⟨[], [], n, 0, 0, 0, 0, 0, false⟩] }, o2, sk, H2, ?_, ⟨W2, ⟨O2.src, W2.src A.keys⟩, hu, ⟨X.1, fun c hc => ?_, X.2.2⟩, by simp; omega⟩⟩
    · simp only [Cd.cells] at e3
      rw [c8]
      simp only [S8, Ms.cells, e1, b0, b1, b2, b3, b4, b5, b6, b7, b8, b9, b10, reps_z, List.getD_cons_zero, List.getD_cons_succ, Option.bind_some, cond_bool, cond_true, cond_false, fill_cons, fill_nil, aCells_agg, aCells_int, cell_slice, cell_str, cellsQ_agg, ble_dec, decide_true, spl_s, spl_z, spl_c, reps_one, List.length_cons, List.length_nil, Nat.zero_add, Nat.reduceAdd, Nat.le_refl, Nat.reduceLeDiff, from_one, rdL_z, rdL_t, rdL_s, Option.map_some, from_agg, bin_eql, conv_int, aggCells_agg, nat_beq0, oneOr_one, ans_one, e2, e3, oc]
    · rcases List.mem_append.1 hc with h | h
      · exact X.2.1 c h
      · rw [List.mem_singleton] at h
        subst h
        simp
  have b10 := bf (k : Int) 10 (by omega)
  by_cases k11 : k = 11
  · subst k11
    have b11 : (((11 : Nat) : Int) == 11) = true := rfl
    obtain ⟨o, H1, e2, O1, W1⟩ := src_again (bytes := 32) (zero := [.str [], .str []]) A.keys (by omega) (by omega)
    have WA := Went.alloc H1 (([[98], []] : List (List UInt8)).map .str)
    have e3 := bwithin_ok n 0 1 (H1.alloc (([[98], []] : List (List UInt8)).map .str)) (by omega) (by omega) (by omega)
    obtain ⟨p1, p2⟩ := within_in n 0 1 (by omega)
    obtain ⟨t, mt, a1, a2⟩ := str_at (n := 2) (L := [[98], []]) rfl (alloc_same H1 _) (within n 0 1) p1 (by omega)
    have ht : t.length ≤ 255 := by
      have : ∀ x ∈ ([[98], []] : List (List UInt8)), x.length ≤ 255 := by decide
      exact this t mt
    obtain ⟨o2, H2, e4, O2, K2⟩ := El.Own.snoc (bytes := 32) (zero := [.str [], .str []]) (WA.own O1) (([97], t) : Ky) (Nat.le_trans W1.next WA.next) (by omega) (by omega)
    rw [kyE_f] at e4
    have W2 : Went h H2 := K2.went (W1.trans WA) fun b hb => (O1.blk b hb).1
    have oc := own_cell O2
    refine ⟨{ m with keys := m.keys ++ [([97], t)] }, sc, o2, H2, ?_, ⟨W2, ⟨W2.src A.cards, O2.src⟩, hu, ⟨X.1, X.2.1, fun c hc => ?_⟩, by simp; omega⟩⟩
    · simp only [List.map_cons, List.map_nil] at e3 e4 a2
      rw [c8]
      simp only [S8, Ms.cells, e1, b0, b1, b2, b3, b4, b5, b6, b7, b8, b9, b10, b11, reps_z, reps_two, List.cons_append, List.nil_append, List.getD_cons_zero, List.getD_cons_succ, Option.bind_some, cond_bool, cond_true, cond_false, fill_cons, fill_nil, aCells_agg, aCells_int, cell_slice, cell_str, cellsQ_agg, ble_dec, decide_true, spl_s, spl_z, spl_c, reps_one, List.length_cons, List.length_nil, Nat.zero_add, Nat.reduceAdd, Nat.le_refl, Nat.reduceLeDiff, load_ptr, from_one, rdL_z, rdL_t, rdL_s, Option.map_some, from_agg, bin_eql, conv_int, aggCells_agg, nat_beq0, oneOr_one, ans_one, e2, e3, a1, a2, e4, oc]
    · rcases List.mem_append.1 hc with h | h
      · exact X.2.2 c h
      · rw [List.mem_singleton] at h
        subst h
        exact ⟨by simp, ht⟩
  have b11 := bf (k : Int) 11 (by omega)
  by_cases k12 : k = 12
  · subst k12
    have b12 : (((12 : Nat) : Int) == 12) = true := rfl
    obtain ⟨o, l, H, e2, W2, O2, l2, f2⟩ := cards_many (n := n) (m := m) (sk := sk) W0
    refine ⟨{ m with cards := l }, o, sk, H, ?_, ⟨W2, ⟨O2.src, W2.src A.keys⟩, hu, ⟨X.1, fun c hc => ?_, X.2.2⟩, by simp only; omega⟩⟩
    · simp only [Ms.cells] at e2
      rw [c8]
      simp only [S8, Ms.cells, e1, b0, b1, b2, b3, b4, b5, b6, b7, b8, b9, b10, b11, b12, List.getD_cons_zero, List.getD_cons_succ, Option.bind_some, cond_bool, cond_true, cond_false, fill_cons, fill_nil, aCells_agg, aCells_int, cell_slice, cell_str, cellsQ_agg, ble_dec, decide_true, spl_s, spl_z, spl_c, reps_one, List.length_cons, List.length_nil, Nat.zero_add, Nat.reduceAdd, Nat.le_refl, Nat.reduceLeDiff, rdL_z, rdL_t, Option.map_some, from_agg, bin_eql, conv_int, aggCells_agg, nat_beq0, nat_beq11, oneOr_one, ans_one, e2]
    · rw [f2 c hc]; decide
  have b12 := bf (k : Int) 12 (by omega)
  refine ⟨{ m with ki := [] }, sc, sk, h, ?_, ⟨W0, ⟨A.cards, A.keys⟩, hu, ⟨⟨X.1.1, by simp⟩, X.2⟩, L0⟩⟩
  rw [c8]
  simp only [S8, Ms.cells, e1, b0, b1, b2, b3, b4, b5, b6, b7, b8, b9, b10, b11, b12, List.getD_cons_zero, List.getD_cons_succ, Option.bind_some, cond_bool, cond_true, cond_false, fill_cons, fill_nil, aCells_agg, aCells_int, cell_slice, cell_str, cellsQ_agg, ble_dec, decide_true, spl_s, spl_z, spl_c, reps_one, List.length_cons, List.length_nil, Nat.zero_add, Nat.reduceAdd, Nat.le_refl, Nat.reduceLeDiff, rdL_z, rdL_t, Option.map_some, from_agg, bin_eql, conv_int, aggCells_agg, nat_beq0, oneOr_one, ans_one]
end Go.Proofs.YtjibfbphiemljaaGreatDoor.Code
