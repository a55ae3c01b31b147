/- Chapter 17: QueueNumbers, QueuePlays. -/
import Derived.Test.YthnilenennobeaaKnown
namespace Go.Proofs.Ythnilenennobeaa.Code
set_option linter.unusedSimpArgs false
set_option linter.unusedVariables false
open Go.Fw

theorem tape_made (k : Nat) (h : Heap) : ∃ (s : AVal) (l : List Int) (H : Heap), loop (L3_1 (E tbl)) [.int .i64 k, .nilSlice, .int .i64 0] h = some (1, [.int .i64 k, s], H) ∧ Own 1 s H h.next l.length (l.map (.int .i64)) ∧ l.length = 900 ∧ Went h H := by
  have key := loop_ok (f := L3_1 (E tbl)) (fun m xs G => ∃ (i : Nat) (s : AVal) (l : List Int), m + i = 900 ∧ l.length = i ∧ Own 1 s G h.next l.length (l.map (.int .i64)) ∧ Went h G ∧ xs = [.int .i64 k, s, .int .i64 i])
    (fun r => ∃ (s : AVal) (l : List Int) (G : Heap), r = (1, [.int .i64 k, s], G) ∧ Own 1 s G h.next l.length (l.map (.int .i64)) ∧ l.length = 900 ∧ Went h G) ?_ 900 _ h ⟨0, .nilSlice, [], rfl, rfl, Own.nil _ _ _, Went.refl _, rfl⟩
  · obtain ⟨r, e, s, l, G, rfl, a, b, c⟩ := key
    simp only [Int.cast_ofNat_Int] at e
    exact ⟨s, l, G, e, a, b, c⟩
  · rintro m xs G ⟨i, s, l, m1, hl, O, W, rfl⟩
    by_cases h1 : i < 900
    · left
      have i1 : (i : Int) < 900 := by omega
      have w1 : IntKind.i64.wrap ((i : Int) + 1) = ((i + 1 : Nat) : Int) := wrap_succ _ (by omega)
      obtain ⟨x, hx⟩ : ∃ x : Int, ((aBin .mul .plain (.int .i64 i) (.int .i64 i)).bind fun v3 => (aBin .mul .plain v3 (.int .i64 7)).bind fun v4 => (aBin .mul .plain (.int .i64 k) (.int .i64 53)).bind fun v5 => (aBin .add .plain v4 v5).bind fun v6 => (aBin .mul .plain (.int .i64 i) (.int .i64 k)).bind fun v7 => (aBin .add .plain v6 v7).bind fun v8 => aBin .rem .plain v8 (.int .i64 211)) = some (.int .i64 x) := ⟨_, rfl⟩
      obtain ⟨s', G2, e2, O2, K2⟩ := Own.snoc (bytes := 8) (zero := [.int .i64 0]) (news := [.int .i64 x]) O (by omega) rfl W.next (by omega) (by omega)
      refine ⟨_, G2, ?_, m - 1, by omega, i + 1, s', l ++ [x], by omega, by simp [hl], by simpa using O2, K2.went W fun b hb => (O.blk b hb).1, rfl⟩
      simp only [Option.bind_eq_some_iff] at hx
      obtain ⟨v3, x3, v4, x4, v5, x5, v6, x6, v7, x7, v8, x8, x9⟩ := hx
      simp only [L3_1, List.getD_cons_zero, List.getD_cons_succ, bin_lss, i1, decide_true, Option.bind_some, cond_bool, cond_true, x3, x4, x5, x6, x7, x8, x9]
      simp [e2, w1]
    · right
      obtain rfl : i = 900 := by omega
      exact ⟨0, _, G, by simp [L3_1], s, l, G, rfl, O, hl, W⟩

theorem queueNumbers_true (h0 : Heap) : ∃ h', E tbl 3 [] h0 = some (.bool true, h') := by
  have key := loop_ok (f := L3_0 (E tbl)) (fun m xs G => ∃ (i : Nat), m + i = 30 ∧ xs = [.int .i64 i]) (fun r => ∃ G, r = (1, [], G)) ?_ 30 _ h0 ⟨0, rfl, rfl⟩
  · obtain ⟨r, e, G, rfl⟩ := key
    simp only [Int.cast_ofNat_Int] at e
    obtain ⟨H, e2, _⟩ := known_ok G
    refine ⟨H, ?_⟩
    rw [c3]
    simp [S3, e, e2, beq_dec]
  · rintro m xs G ⟨i, m1, rfl⟩
    by_cases h1 : i < 30
    · left
      have i1 : (i : Int) < 30 := by omega
      have w1 : IntKind.i64.wrap ((i : Int) + 1) = ((i + 1 : Nat) : Int) := wrap_succ _ (by omega)
      obtain ⟨s, l, H, e1, O1, l1, W1⟩ := tape_made i G
      have P0 := Own.lit 1 H (([0, 1, 2, 1, 3, 4, 5, 6, 7] : List Int).map (.int .i64)) 9 rfl true
      have hr : (10 : Int) ≠ 0 := by omega
      have hm : (i : Int).tmod 10 = ((i % 10 : Nat) : Int) := by rw [Int.tmod_eq_emod_of_nonneg (by omega)]; omega
      obtain ⟨s', e3, S3', R3, b3⟩ := Fw.Src.cut P0.src P0.room none (some (i % 10)) 0 (i % 10) rfl rfl (by omega) (by omega)
      simp only [Option.map_some, Option.map_none] at e3
      have hlt : i % 10 < 10 := Nat.mod_lt _ (by omega)
      have I3 : Ints .i64 s' (H.alloc (([0, 1, 2, 1, 3, 4, 5, 6, 7] : List Int).map (.int .i64))) (([0, 1, 2, 1, 3, 4, 5, 6, 7] : List Int).take (i % 10)) := by
        have : ((([0, 1, 2, 1, 3, 4, 5, 6, 7] : List Int).map (AVal.int .i64)).drop (0 * 1)).take ((i % 10 - 0) * 1) = (([0, 1, 2, 1, 3, 4, 5, 6, 7] : List Int).take (i % 10)).map (AVal.int .i64) := by
          rw [Nat.zero_mul, List.drop_zero, Nat.sub_zero, Nat.mul_one, List.map_take]
        rw [this] at S3'
        exact S3'.ints
      have W2 : Went H (H.alloc (([0, 1, 2, 1, 3, 4, 5, 6, 7] : List Int).map (.int .i64))) := Went.alloc _ _
      obtain ⟨G2, e4, W4⟩ := play_ok (s2 := .nilSlice) (lr := []) I3 (fun b hb => by have := b3 b hb; cases this; simp) (by simp; omega) (W2.own O1).src.ints (fun b hb => by have := ((W2.own O1).blk b hb).2; exact this) (by omega) ⟨rfl, .inl ⟨rfl, rfl⟩⟩
      refine ⟨_, G2, ?_, m - 1, by omega, i + 1, by omega, rfl⟩
      simp only [List.map_cons, List.map_nil] at e3 e4
      generalize i % 10 = r10 at e3 e4 hm
      simp [L3_0, i1, e1, beq_dec, bin_rem, hm, e3, e4, w1]
    · right
      obtain rfl : i = 30 := by omega
      exact ⟨0, _, G, by simp [L3_0], G, rfl⟩

theorem some_made {s0 x1 x2 : AVal} {h : Heap} {l : List Int} (I : Ints .i64 s0 h l) (lt : ∀ b, slBlk s0 = some b → b < h.next) (sz : l.length ≤ 17592186044416) :
    ∃ (s : AVal) (l' : List Int) (H : Heap), loop (L4_0 (E tbl)) [s0, x1, x2, .nilSlice, .int .i64 l.length, .int .i64 0] h = some (1, [s0, x1, x2, s], H) ∧ Own 1 s H h.next l'.length (l'.map (.int .i64)) ∧ l'.length = l.length ∧ Went h H := by
  have key := loop_ok (f := L4_0 (E tbl)) (fun m xs G => ∃ (i : Nat) (s : AVal) (l' : List Int), m + i = l.length ∧ l'.length = i ∧ Own 1 s G h.next l'.length (l'.map (.int .i64)) ∧ Went h G ∧ xs = [s0, x1, x2, s, .int .i64 l.length, .int .i64 i])
    (fun r => ∃ (s : AVal) (l' : List Int) (G : Heap), r = (1, [s0, x1, x2, s], G) ∧ Own 1 s G h.next l'.length (l'.map (.int .i64)) ∧ l'.length = l.length ∧ Went h G) ?_ l.length _ h ⟨0, .nilSlice, [], rfl, rfl, Own.nil _ _ _, Went.refl _, rfl⟩
  · obtain ⟨r, e, s, l', G, rfl, a, b, c⟩ := key
    simp only [Int.cast_ofNat_Int] at e
    exact ⟨s, l', G, e, a, b, c⟩
  · rintro m xs G ⟨i, s, l', m1, hl, O, W, rfl⟩
    by_cases h1 : i < l.length
    · left
      have i1 : (i : Int) < (l.length : Int) := by omega
      have w1 : IntKind.i64.wrap ((i : Int) + 1) = ((i + 1 : Nat) : Int) := wrap_succ _ (by omega)
      obtain ⟨a, e1, e2⟩ := (I.mono fun b hb => W.old b (lt b hb)).at i h1
      generalize l.getD i 0 = y at e2
      have e3 := within_ok y 0 6 G (by omega) (by omega) (by omega)
      obtain ⟨s', G2, e4, O2, K2⟩ := Own.snoc (bytes := 8) (zero := [.int .i64 0]) (news := [.int .i64 (within y 0 6)]) O (by omega) rfl W.next (by omega) (by omega)
      refine ⟨_, G2, ?_, m - 1, by omega, i + 1, s', l' ++ [within y 0 6], by omega, by simp [hl], by simpa using O2, K2.went W fun b hb => (O.blk b hb).1, rfl⟩
      simp [L4_0, i1, e1, e2, e3, e4, w1]
    · right
      obtain rfl : i = l.length := by omega
      exact ⟨0, _, G, by simp [L4_0], s, l', G, rfl, O, hl, W⟩

/-- Rows of a card's cells are cards. -/
theorem cards_of : ∀ {R : List (List AVal)}, (∀ r ∈ R, ∃ vs, LeafsOk [.str, .str, .int .i64, .int .i64, .int .i64, .int .i64, .int .i64, .int .i64, .bool] r vs) → ∃ l : List Cd, l.length = R.length ∧ R.flatten = ccells l
  | [], _ => ⟨[], rfl, rfl⟩
  | r :: R, h => by
    obtain ⟨l, hl, e⟩ := cards_of (R := R) fun x hx => h x (by simp [hx])
    obtain ⟨vs, k⟩ := h r (by simp)
    have len := k.len
    match r, vs, k, len with
    | [a, b, c, d, x, y, z, u, v], [_, _, _, _, _, _, _, _, _], k, _ =>
      obtain ⟨k1, k2, k3, k4, k5, k6, k7, k8, k9, _⟩ := k
      cases a <;> simp only [LeafOk] at k1
      cases b <;> simp only [LeafOk] at k2
      cases c <;> simp only [LeafOk] at k3
      cases d <;> simp only [LeafOk] at k4
      cases x <;> simp only [LeafOk] at k5
      cases y <;> simp only [LeafOk] at k6
      cases z <;> simp only [LeafOk] at k7
      cases u <;> simp only [LeafOk] at k8
      cases v <;> simp only [LeafOk] at k9
      obtain ⟨rfl, _⟩ := k3
      obtain ⟨rfl, _⟩ := k4
      obtain ⟨rfl, _⟩ := k5
      obtain ⟨rfl, _⟩ := k6
      obtain ⟨rfl, _⟩ := k7
      obtain ⟨rfl, _⟩ := k8
      exact ⟨⟨_, _, _, _, _, _, _, _, _⟩ :: l, by simp [hl], by rw [List.flatten_cons, e]; rfl⟩

theorem queuePlays_true (h0 : Heap) {s0 : AVal} {l0 : List Int} (I0 : Ints .i64 s0 h0 l0) (lt0 : ∀ b, slBlk s0 = some b → b < h0.next) (_ : ∀ x ∈ l0, (Lit.int .i64 x).wf = true) (sz0 : l0.length * 8 ≤ 140737488355328) (rm0 : ∀ b off n cap es ex, s0 = .slice b off n cap es ex → n ≤ cap)
    {s1 : AVal} {l1 : List Int} (I1 : Ints .i64 s1 h0 l1) (lt1 : ∀ b, slBlk s1 = some b → b < h0.next) (_ : ∀ x ∈ l1, (Lit.int .i64 x).wf = true) (sz1 : l1.length * 8 ≤ 140737488355328) (_ : ∀ b off n cap es ex, s1 = .slice b off n cap es ex → n ≤ cap)
    {s2 : AVal} {R : List (List AVal)} (S2 : Src 9 s2 h0 R.length R.flatten) (m2 : ∀ r ∈ R, ∃ vs, LeafsOk [.str, .str, .int .i64, .int .i64, .int .i64, .int .i64, .int .i64, .int .i64, .bool] r vs) (sz2 : R.length * 88 ≤ 140737488355328) :
    ∃ h', E tbl 4 [s0, s1, s2] h0 = some (.bool true, h') := by
  obtain ⟨lr, hlr, er⟩ := cards_of m2
  have R2 : SrcC s2 h0 lr := by rw [SrcC, hlr, ← er]; exact S2
  obtain ⟨s, l', H, e1, O1, l1', W1⟩ := some_made (x1 := s1) (x2 := s2) I0 lt0 (by omega)
  have I0' := I0.mono fun b hb => W1.old b (lt0 b hb)
  have lt0' := fun b hb => Nat.lt_of_lt_of_le (lt0 b hb) W1.next
  obtain ⟨s0', l0', e2, I2, lt2, sz2'⟩ : ∃ (s0' : AVal) (l0' : List Int), (∀ {k : List AVal → Heap → Option J}, ((condV (.bool (decide (12 < (l0.length : Int)))) ((aSliceSl 1 s0 none (some (.int .i64 12)) none).bind fun v13 => some (0, [v13, s1, s2, s], H)) (some (0, [s0, s1, s2, s], H))) = some (0, [s0', s1, s2, s], H))) ∧ Ints .i64 s0' H l0' ∧ (∀ b, slBlk s0' = some b → b < H.next) ∧ l0'.length ≤ 20000000000000 := by
    by_cases h12 : 12 < l0.length
    · have S0 := ints_src I0' lt0'
      obtain ⟨s', e3, S3, _, b3⟩ := Fw.Src.cut S0 rm0 none (some 12) 0 12 rfl rfl (by omega) (by omega)
      simp only [Option.map_some, Option.map_none, Int.cast_ofNat_Int] at e3
      refine ⟨s', l0.take 12, ?_, ?_, fun b hb => lt0' b (b3 b hb), by rw [List.length_take]; omega⟩
      · intro _
        have i12 : (12 : Int) < (l0.length : Int) := by omega
        simp [i12, e3]
      · have : ((l0.map (AVal.int .i64)).drop (0 * 1)).take ((12 - 0) * 1) = (l0.take 12).map (AVal.int .i64) := by simp [List.map_take]
        rw [this] at S3
        exact S3.ints
    · refine ⟨s0, l0, ?_, I0', lt0', by omega⟩
      intro _
      have i12 : ¬ (12 : Int) < (l0.length : Int) := by omega
      simp [i12]
  obtain ⟨G1, e3, W3⟩ := play_ok (s2 := .nilSlice) (lr := []) O1.src.ints (fun b hb => (O1.blk b hb).2) (by omega) (I1.mono fun b hb => W1.old b (lt1 b hb)) (fun b hb => Nat.lt_of_lt_of_le (lt1 b hb) W1.next) (by omega) ⟨rfl, .inl ⟨rfl, rfl⟩⟩
  have W13 := W1.trans W3
  obtain ⟨G2, e4, W4⟩ := play_ok (I2.mono fun b hb => W3.old b (lt2 b hb)) (fun b hb => Nat.lt_of_lt_of_le (lt2 b hb) W3.next) sz2' (I1.mono fun b hb => W13.old b (lt1 b hb)) (fun b hb => Nat.lt_of_lt_of_le (lt1 b hb) W13.next) (by omega) (W13.src R2)
  have W14 := (W13.trans W4).trans (Went.alloc G2 (([0, 1] : List Int).map (.int .i64)))
  obtain ⟨G3, e5, W5⟩ := play_ok (Ints.lit .i64 G2 [0, 1] 2 rfl true) (fun b hb => by cases hb; simp) (by simp) (I1.mono fun b hb => W14.old b (lt1 b hb)) (fun b hb => Nat.lt_of_lt_of_le (lt1 b hb) W14.next) (by omega) (W14.src R2)
  obtain ⟨G4, e6, _⟩ := known_ok G3
  refine ⟨G4, ?_⟩
  have e2' := @e2 (fun _ _ => none)
  simp only [List.map_cons, List.map_nil] at e5
  rw [c4]
  simp only [S4, I0.len, Option.bind_some, e1, beq_dec, decide_true, cond_true, List.getD_cons_zero, List.getD_cons_succ, bin_gtr, gt_iff_lt, e2', e3, e4, guard_bool, beq_self_eq_true]
  simp [e4, e5, e6]
end Go.Proofs.Ythnilenennobeaa.Code
