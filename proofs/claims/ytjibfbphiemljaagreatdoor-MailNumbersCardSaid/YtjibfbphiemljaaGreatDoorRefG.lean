/- MailNumbers: the sentence. -/
import Derived.Test.YtjibfbphiemljaaGreatDoorRefF
namespace Go.Proofs.YtjibfbphiemljaaGreatDoor.Code
set_option linter.unusedSimpArgs false
set_option linter.unusedVariables false
open Go.Fw

theorem app_le : ∀ a ∈ keyApps, a.length ≤ 255 := by decide
theorem id_le : ∀ a ∈ keyIds, a.length ≤ 255 := by decide
theorem right_tx {m : Ms} (R : RightM m) : TxSz m := by
  have nl : ∀ {s : List UInt8}, nameB s = true → s.length ≤ 255 := fun h => by have := name_len h; omega
  refine ⟨?_, fun c hc => ?_, fun k hk => ?_⟩
  · have ho := R.op
    have hz := R.zero
    have hk := R.kind
    unfold opB at ho
    by_cases h12 : m.kind = 1 ∨ m.kind = 2
    · rw [if_pos h12] at ho
      by_cases h5 : m.op = 5
      · rw [if_pos h5] at ho
        simp only [Bool.and_eq_true, decide_eq_true_eq] at ho
        rw [ho.1, ho.2]
        simp
      · rw [if_neg h5] at ho
        simp only [Bool.and_eq_true, decide_eq_true_eq, keyB] at ho
        exact ⟨nl ho.2.1, nl ho.2.2⟩
    · have h1 : ¬ m.kind = 1 := fun h => h12 (.inl h)
      have h2 : ¬ m.kind = 2 := fun h => h12 (.inr h)
      unfold zeroB at hz
      rw [if_neg h1, if_neg h2] at hz
      simp only [Bool.and_eq_true, decide_eq_true_eq] at hz
      rw [hz.1.1.1.1.2, hz.1.1.1.2]
      simp
  · have := R.all.1 c hc
    unfold cardB at this
    simp only [Bool.and_eq_true] at this
    exact ⟨nl this.1.1.1.1.1.1.1, nl this.1.1.1.1.1.1.2⟩
  · have := R.all.2 k hk
    unfold keyB at this
    rw [Bool.and_eq_true] at this
    exact ⟨nl this.1, nl this.2⟩

theorem shl_bit (k : Nat) : ∃ t : UInt8, aBin .shl .plain (.int .u8 1) (.int .u64 (IntKind.u64.wrap ((k : Int).tmod 8))) = some (.int .u8 (t.toNat : Int)) := by
  have h1 : (k : Int).tmod 8 = ((k % 8 : Nat) : Int) := by rw [Int.tmod_eq_emod_of_nonneg (by omega)]; omega
  have h2 : IntKind.u64.wrap ((k % 8 : Nat) : Int) = ((k % 8 : Nat) : Int) := by rw [IntKind.wrap_u64]; omega
  rw [h1, h2]
  have h3 : k % 8 < 8 := Nat.mod_lt _ (by omega)
  generalize k % 8 = r at h3
  have : r = 0 ∨ r = 1 ∨ r = 2 ∨ r = 3 ∨ r = 4 ∨ r = 5 ∨ r = 6 ∨ r = 7 := by omega
  rcases this with rfl | rfl | rfl | rfl | rfl | rfl | rfl | rfl
  · exact ⟨1, rfl⟩
  · exact ⟨2, rfl⟩
  · exact ⟨4, rfl⟩
  · exact ⟨8, rfl⟩
  · exact ⟨16, rfl⟩
  · exact ⟨32, rfl⟩
  · exact ⟨64, rfl⟩
  · exact ⟨128, rfl⟩

abbrev oddNs : List Int := [-2, -1, 0, 1, 5, 6, 255, 256]
theorem gtt (a b : Option J) : guardV (.bool true) true a b = a := rfl
theorem gtf (a b : Option J) : guardV (.bool false) true a b = b := rfl
theorem gff (a b : Option J) : guardV (.bool false) false a b = a := rfl

abbrev k0 (k : Int) : AVal := .int .i64 k
section
variable {h : Heap} {m : Ms} {sc sk : AVal}
/-- Each number, for one thing. -/
theorem num2 (R : Rdy h) (A : MsAt h m sc sk) (hu : U32 m.sum) (X : TxSz m) (hl : m.cards.length ≤ 64 ∧ m.keys.length ≤ 64) (k what : Int) :
    ∃ H, loop (L3_2 (E tbl)) [k0 k, k0 what, .slice h.next 0 8 8 1 true, .int .i64 8, .int .i64 0, .agg (m.cells sc sk)] (h.alloc (oddNs.map (.int .i64))) = some (1, [k0 k, k0 what, .agg (m.cells sc sk)], H) ∧ Went h H := by
  have key : ∃ res, loop (L3_2 (E tbl)) [k0 k, k0 what, .slice h.next 0 8 8 1 true, .int .i64 8, .int .i64 0, .agg (m.cells sc sk)] (h.alloc (oddNs.map (.int .i64))) = some res ∧ ∃ H, res = (1, [k0 k, k0 what, .agg (m.cells sc sk)], H) ∧ Went h H := by
    refine loop_ok (fun j xs G => ∃ i : Nat, j + i = 8 ∧ Went (h.alloc (oddNs.map (.int .i64))) G ∧ xs = [k0 k, k0 what, .slice h.next 0 8 8 1 true, .int .i64 8, .int .i64 (i : Int), .agg (m.cells sc sk)]) _ ?_ 8 _ _ ⟨0, rfl, Went.refl _, rfl⟩
    rintro j xs G ⟨i, hj, W, rfl⟩
    have WG := (Went.alloc h (oddNs.map (.int .i64))).trans W
    have hb : G.blk h.next = some ⟨oddNs.map (.int .i64), true⟩ := by rw [W.old _ (by simp), alloc_same]
    by_cases hi : i < 8
    · left
      have i1 : decide ((i : Int) < 8) = true := decide_eq_true (by omega)
      have ws := wrap_succ i (by omega)
      obtain ⟨n, _, a1, a2⟩ := int_at (n := 8) (L := oddNs) rfl hb (i : Int) (by omega) (by omega)
      obtain ⟨m', sc', sk', H1, e1, K1⟩ := odd_ok (A.went WG) hu X hl (by omega) what n
      obtain ⟨H2, e2, W2⟩ := lsame_ok ((R.went WG).went K1.went) K1.at' K1.sum K1.tx.sz (by have := K1.len; omega) (by have := K1.len; omega)
      refine ⟨_, H2, ?_, j - 1, by omega, i + 1, by omega, (W.trans K1.went).trans W2, rfl⟩
      simp only [k0, Ms.cells] at e1 e2 ⊢
      simp only [L3_2, i1, a1, a2, e1, e2, ws, bin_add, List.getD_cons_zero, List.getD_cons_succ, Option.bind_some, cond_bool, cond_true, cond_false, load_ptr, from_one, rdL_z, rdL_t, Option.map_some, from_agg, bin_lss, aggCells_agg, un_not, Bool.not_true]
    · right
      have i1 : decide ((i : Int) < 8) = false := decide_eq_false (by omega)
      refine ⟨0, _, G, ?_, G, rfl, WG⟩
      simp only [L3_2, i1, k0, Ms.cells, List.getD_cons_zero, List.getD_cons_succ, Option.bind_some, cond_bool, cond_false, Nat.zero_add, rdL_z, rdL_t, Option.map_some, from_agg, bin_lss, aggCells_agg]
  obtain ⟨_, e, H, rfl, W⟩ := key
  exact ⟨H, e, W⟩
/-- Each thing. -/
theorem num1 (R : Rdy h) (A : MsAt h m sc sk) (hu : U32 m.sum) (X : TxSz m) (hl : m.cards.length ≤ 64 ∧ m.keys.length ≤ 64) (k : Int) :
    ∃ H, loop (L3_1 (E tbl)) [k0 k, .int .i64 0, .agg (m.cells sc sk)] h = some (1, [k0 k, .agg (m.cells sc sk)], H) ∧ Went h H := by
  have key : ∃ res, loop (L3_1 (E tbl)) [k0 k, .int .i64 0, .agg (m.cells sc sk)] h = some res ∧ ∃ H, res = (1, [k0 k, .agg (m.cells sc sk)], H) ∧ Went h H := by
    refine loop_ok (fun j xs G => ∃ i : Nat, j + i = 14 ∧ Went h G ∧ xs = [k0 k, .int .i64 (i : Int), .agg (m.cells sc sk)]) _ ?_ 14 _ _ ⟨0, rfl, Went.refl _, rfl⟩
    rintro j xs G ⟨i, hj, W, rfl⟩
    by_cases hi : i < 14
    · left
      have i1 : decide ((i : Int) < 14) = true := decide_eq_true (by omega)
      have ws := wrap_succ i (by omega)
      obtain ⟨H1, e1, W1⟩ := num2 (R.went W) (A.went W) hu X hl k (i : Int)
      have fl : aFill (reps [.int .i64 0] 8) [(0, 1, (.int .i64 (-2))), (1, 1, (.int .i64 (-1))), (2, 1, (.int .i64 0)), (3, 1, (.int .i64 1)), (4, 1, (.int .i64 5)), (5, 1, (.int .i64 6)), (6, 1, (.int .i64 255)), (7, 1, (.int .i64 256))] = some (oddNs.map (.int .i64)) := rfl
      have ln : aLen false (.slice G.next 0 8 8 1 true) = some (.int .i64 8) := rfl
      refine ⟨_, H1, ?_, j - 1, by omega, i + 1, by omega, W.trans W1, rfl⟩
      simp only [k0, Ms.cells] at e1 ⊢
      simp only [L3_1, i1, fl, ln, e1, ws, bin_add, List.getD_cons_zero, List.getD_cons_succ, Option.bind_some, cond_bool, cond_true, bin_lss, aggCells_agg, nat_beq11]
    · right
      have i1 : decide ((i : Int) < 14) = false := decide_eq_false (by omega)
      refine ⟨0, _, G, ?_, G, rfl, W⟩
      simp only [L3_1, i1, k0, Ms.cells, List.getD_cons_zero, List.getD_cons_succ, Option.bind_some, cond_bool, cond_false, fill_cons, fill_nil, aCells_int, ble_dec, Nat.zero_add, Nat.reduceAdd, bin_lss, aggCells_agg]
  obtain ⟨_, e, H, rfl, W⟩ := key
  exact ⟨H, e, W⟩
/-- Bytes cut off, bytes turned. -/
theorem num3 (R : Rdy h) {b : AVal} {l : List UInt8} (S : Go.Fw.Bs b h l) (Rm : El.Room b) (hl : l.length ≤ 100000) (k : Nat) :
    ∃ H, loop (L3_3 (E tbl)) [.int .i64 (k : Int), b, .int .i64 0] h = some (1, [.int .i64 (k : Int)], H) ∧ Went h H := by
  have key : ∃ res, loop (L3_3 (E tbl)) [.int .i64 (k : Int), b, .int .i64 0] h = some res ∧ ∃ H, res = (1, [.int .i64 (k : Int)], H) ∧ Went h H := by
    refine loop_ok (fun j xs G => ∃ i : Nat, j + i = l.length + 1 ∧ Went h G ∧ xs = [.int .i64 (k : Int), b, .int .i64 (i : Int)]) _ ?_ (l.length + 1) _ _ ⟨0, rfl, Went.refl _, rfl⟩
    rintro j xs G ⟨i, hj, W, rfl⟩
    have SG := W.src S
    have ln : aLen false b = some (.int .i64 l.length) := Fw.Src.len SG
    by_cases c : i ≤ l.length ∧ k < 12
    · left
      obtain ⟨hi, hk⟩ := c
      have i1 : decide ((i : Int) ≤ (l.length : Int)) = true := decide_eq_true (by omega)
      have i2 : decide ((k : Int) < 12) = true := decide_eq_true (by omega)
      have ws := wrap_succ i (by omega)
      obtain ⟨v1, e1, S1, R1, _⟩ := Bs.pre SG Rm i hi
      obtain ⟨H1, e2, W1⟩ := reads_ok (R.went W) S1 R1 (by rw [List.length_take]; omega)
      obtain ⟨v2, H2, e3, F2⟩ := Bs.again (W1.src S1) (by rw [List.length_take]; omega)
      obtain ⟨v3, H3, e4, F3⟩ := F2.byte 1 (by rw [List.length_take]; omega)
      have WG3 := (W.trans W1).trans F3.went
      obtain ⟨H4, e5, W4⟩ := reads_ok (R.went WG3) F3.bs F3.own.room (by rw [List.length_append, List.length_take]; simp; omega)
      have WG4 := WG3.trans W4
      have one : (((1 : UInt8).toNat : Nat) : Int) = 1 := rfl
      rw [one] at e4
      by_cases hlt : i < l.length
      · have i3 : decide ((i : Int) < (l.length : Int)) = true := decide_eq_true (by omega)
        obtain ⟨v5, H5, e6, F5⟩ := Bs.again (WG4.src S) (by omega)
        obtain ⟨t, e7⟩ := shl_bit k
        obtain ⟨p, H6, e8, e9, e10, F6, _, _⟩ := F5.set i hlt (l[i] ^^^ t)
        have e11 := Go.Fw.u8_xor l[i] t
        have W6 : Went h H6 := WG4.trans F6.went
        obtain ⟨H7, e12, W7⟩ := reads_ok (R.went W6) F6.bs F6.own.room (by rw [List.length_set]; omega)
        have rm : aBin .rem .plain (.int .i64 (k : Int)) (.int .i64 8) = some (.int .i64 ((k : Int).tmod 8)) := by rw [bin_rem, if_neg (by decide)]
        refine ⟨_, H7, ?_, j - 1, by omega, i + 1, by omega, W6.trans W7, rfl⟩
        simp only [L3_3, nat_beq10, ln, i1, i2, i3, gff, pff, pk_t, e1, e2, reps_z, e3, e4, e5, e6, rm, e7, e8, e9, e10, e11, e12, ws, bin_add, List.getD_cons_zero, List.getD_cons_succ, Option.bind_some, cond_bool, cond_true, cond_false, fill_cons, fill_nil, aCells_int, ble_dec, decide_true, spl_z, spl_c, reps_one, List.length_cons, List.length_nil, Nat.zero_add, Nat.le_refl, from_one, bin_lss, bin_leq, conv_int, nat_beq11, un_not, g_and, Bool.not_true]
      · have i3 : decide ((i : Int) < (l.length : Int)) = false := decide_eq_false (by omega)
        refine ⟨_, H4, ?_, j - 1, by omega, i + 1, by omega, WG4, rfl⟩
        simp only [L3_3, nat_beq10, ln, i1, i2, i3, gff, pff, pk_t, e1, e2, reps_z, e3, e4, e5, ws, bin_add, List.getD_cons_zero, List.getD_cons_succ, Option.bind_some, cond_bool, cond_true, cond_false, fill_cons, fill_nil, aCells_int, ble_dec, decide_true, spl_z, spl_c, reps_one, List.length_cons, List.length_nil, Nat.zero_add, Nat.le_refl, bin_lss, bin_leq, nat_beq11, un_not, g_and, Bool.not_true]
    · right
      refine ⟨0, _, G, ?_, G, rfl, W⟩
      have hb : (decide ((i : Int) ≤ (l.length : Int)) && decide ((k : Int) < 12)) = false := by
        by_cases h1 : i ≤ l.length
        · have : decide ((k : Int) < 12) = false := decide_eq_false (fun h => c ⟨h1, by omega⟩)
          rw [this, Bool.and_false]
        · have : decide ((i : Int) ≤ (l.length : Int)) = false := decide_eq_false (by omega)
          rw [this, Bool.false_and]
      simp only [L3_3, ln, List.getD_cons_zero, List.getD_cons_succ, Option.bind_some, cond_bool, cond_true, cond_false, fill_cons, fill_nil, aCells_int, ble_dec, decide_true, spl_z, spl_c, reps_one, List.length_cons, List.length_nil, Nat.zero_add, Nat.le_refl, bin_lss, bin_leq, g_and, p_and, hb]
  obtain ⟨_, e, H, rfl, W⟩ := key
  exact ⟨H, e, W⟩
end

theorem u8_small (i : Nat) (h : i < 8) (G : Heap) : aConv (.toInt .u8) (.int .i64 (i : Int)) G = some (.int .u8 (((UInt8.ofNat i).toNat : Nat) : Int), G) := toU8 i .i64 G
/-- Short rows of bytes. -/
theorem num4 {h : Heap} (R : Rdy h) : ∃ H, loop (L3_4 (E tbl)) [.int .i64 0] h = some (1, [], H) ∧ Went h H := by
  have key : ∃ res, loop (L3_4 (E tbl)) [.int .i64 0] h = some res ∧ ∃ H, res = (1, [], H) ∧ Went h H := by
    refine loop_ok (fun j xs G => ∃ i : Nat, j + i = 8 ∧ Went h G ∧ xs = [.int .i64 (i : Int)]) _ ?_ 8 _ _ ⟨0, rfl, Went.refl _, rfl⟩
    rintro j xs G ⟨i, hj, W, rfl⟩
    by_cases hi : i < 8
    · left
      have i1 : decide ((i : Int) < 8) = true := decide_eq_true (by omega)
      have ws := wrap_succ i (by omega)
      have F1 := Fresh.lit G [UInt8.ofNat i] (n := 1) rfl true
      obtain ⟨H1, e1, W1⟩ := reads_ok ((R.went W).went F1.went) F1.bs F1.own.room (by simp)
      have F2 := Fresh.lit H1 [UInt8.ofNat i, 0] (n := 2) rfl true
      have WG := (W.trans F1.went).trans W1
      obtain ⟨H2, e2, W2⟩ := reads_ok ((R.went WG).went F2.went) F2.bs F2.own.room (by simp)
      have c1 := fun G => u8_small i hi G
      simp only [byteCells, List.map_cons, List.map_nil] at e1 e2
      have z0 : (((0 : UInt8).toNat : Nat) : Int) = 0 := rfl
      rw [z0] at e2
      refine ⟨_, H2, ?_, j - 1, by omega, i + 1, by omega, (WG.trans F2.went).trans W2, rfl⟩
      simp only [L3_4, i1, c1, gff, pff, reps_two, List.cons_append, List.nil_append, e1, e2, ws, bin_add, List.getD_cons_zero, Option.bind_some, cond_bool, cond_true, cond_false, fill_cons, fill_nil, aCells_int, ble_dec, decide_true, spl_s, spl_z, spl_c, reps_one, List.length_cons, List.length_nil, Nat.zero_add, Nat.reduceAdd, Nat.le_refl, Nat.reduceLeDiff, bin_lss, un_not, Bool.not_true]
    · right
      have i1 : decide ((i : Int) < 8) = false := decide_eq_false (by omega)
      exact ⟨0, _, G, by simp only [L3_4, i1, List.getD_cons_zero, Option.bind_some, cond_bool, cond_true, cond_false, fill_cons, fill_nil, aCells_int, ble_dec, decide_true, spl_z, spl_c, reps_one, List.length_cons, List.length_nil, Nat.zero_add, Nat.reduceAdd, Nat.le_refl, bin_lss, conv_int], G, rfl, W⟩
  obtain ⟨_, e, H, rfl, W⟩ := key
  exact ⟨H, e, W⟩

theorem num0 {h : Heap} (R : Rdy h) : ∃ H, loop (L3_0 (E tbl)) [.int .i64 0] h = some (1, [], H) ∧ Went h H := by
  have key : ∃ res, loop (L3_0 (E tbl)) [.int .i64 0] h = some res ∧ ∃ H, res = (1, [], H) ∧ Went h H := by
    refine loop_ok (fun j xs G => ∃ i : Nat, j + i = 60 ∧ Went h G ∧ xs = [.int .i64 (i : Int)]) _ ?_ 60 _ _ ⟨0, rfl, Went.refl _, rfl⟩
    rintro j xs G ⟨i, hj, W, rfl⟩
    by_cases hi : i < 60
    · left
      have i1 : decide ((i : Int) < 60) = true := decide_eq_true (by omega)
      have ws := wrap_succ i (by omega)
      obtain ⟨s, tl, H1, e1, O1, l1, W1⟩ := ltape_ok i (by omega) G
      have I1 := Fw.Src.ints O1.src
      obtain ⟨m, sc, sk, H2, e2, K2, W2⟩ := new_tape I1 (fun b hb => (O1.blk b hb).2) (by omega)
      have RM := right_of K2.right
      have X := right_tx RM
      have R2 := ((R.went W).went W1).went W2
      obtain ⟨H3, e3, W3⟩ := lsame_ok R2 K2.at' K2.wf.sum X.sz (by have := RM.len; omega) (by have := RM.len; omega)
      obtain ⟨H4, e4, W4⟩ := num1 (R2.went W3) (K2.at'.went W3) K2.wf.sum X RM.len (i : Int)
      have A4 := (K2.at'.went W3).went W4
      obtain ⟨v5, H5, e5, F5⟩ := bytes6_ok A4 K2.wf.sum RM
      have R5 := ((R2.went W3).went W4).went F5.went
      obtain ⟨H6, e6, W6⟩ := num3 R5 F5.bs F5.own.room (bytes_small m RM) i
      have ic := ints_cell I1
      refine ⟨_, H6, ?_, j - 1, by omega, i + 1, by omega, (((((W.trans W1).trans W2).trans W3).trans W4).trans F5.went).trans W6, rfl⟩
      simp only [k0, Ms.cells] at e2 e3 e4 e5
      simp only [L3_0, i1, e1, ic, e2, e3, e4, e5, e6, ws, bin_add, List.getD_cons_zero, List.getD_cons_succ, Option.bind_some, cond_bool, cond_true, cond_false, fill_cons, fill_nil, aCells_agg, cellsQ_agg, ble_dec, decide_true, spl_z, spl_c, List.length_cons, List.length_nil, Nat.zero_add, Nat.reduceAdd, Nat.le_refl, Nat.reduceLeDiff, rdL_z, rdL_t, Option.map_some, from_agg, bin_lss, aggCells_agg, nat_beq11, un_not, Bool.not_true]
    · right
      have i1 : decide ((i : Int) < 60) = false := decide_eq_false (by omega)
      exact ⟨0, _, G, by simp only [L3_0, i1, List.getD_cons_zero, Option.bind_some, cond_bool, cond_true, cond_false, fill_cons, fill_nil, cellsQ_agg, ble_dec, decide_true, List.length_cons, List.length_nil, Nat.zero_add, Nat.reduceAdd, Nat.le_refl, Nat.reduceLeDiff, from_agg, bin_lss], G, rfl, W⟩
  obtain ⟨_, e, H, rfl, W⟩ := key
  exact ⟨H, e, W⟩

theorem mailNumbersL {h : Heap} (R : Rdy h) : ∃ h', E tbl 3 [] h = some (.bool true, h') := by
  obtain ⟨H1, e1, W1⟩ := num0 R
  obtain ⟨H2, e2, W2⟩ := num4 (R.went W1)
  have R2 := (R.went W1).went W2
  have F3 := Fresh.lit H2 [1] (n := 1) rfl true
  obtain ⟨v4, H4, e4, F4⟩ := rint_eq F3.bs 5 (by simp)
  have R4 := (R2.went F3.went).went F4.went
  obtain ⟨H5, e5, W5⟩ := reads_ok R4 F4.bs F4.own.room (by simp)
  obtain ⟨H6, e6, W6⟩ := known_ok (R4.went W5)
  have one : (((1 : UInt8).toNat : Nat) : Int) = 1 := rfl
  simp only [byteCells, List.map_cons, List.map_nil, one] at e4
  refine ⟨H6, ?_⟩
  rw [c3]
  simp only [S3, e1, e2, e4, e5, e6, gtt, pk_t, List.getD_cons_zero, Option.bind_some, cond_true, fill_cons, fill_nil, aCells_int, ble_dec, decide_true, spl_z, spl_c, reps_one, List.length_cons, List.length_nil, Nat.zero_add, Nat.le_refl, nat_beq11, ans_one]
end Go.Proofs.YtjibfbphiemljaaGreatDoor.Code
