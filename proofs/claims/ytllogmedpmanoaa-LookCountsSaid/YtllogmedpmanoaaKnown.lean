/- Known runs; LookNumbers. -/
import Derived.Test.YtllogmedpmanoaaSameAll
namespace Go.Proofs.Ytllogmedpmanoaa.Code
set_option linter.unusedSimpArgs false
set_option linter.unusedVariables false
open Go.Fw

def ka : Cd := ⟨[97], [120], 1, 0, 0, 0, 0, 0, false⟩
def kb : Cd := ⟨[97], [121], 1, 3, 0, 0, 0, 0, false⟩
def kc : Cd := ⟨[97], [122], 1, 0, 0, 0, 0, 0, false⟩
def kL : List Cd := [kc, kb, ka]
theorem known_facts : (findC kL [97]).length = 2 ∧ pickC (findC kL [97]) (-1) = kc ∧ (findC kL [98]).length = 0 ∧ (appsC kL).length = 1 := by decide +kernel
theorem known_count : aBin .eql (.cells [1, 1, 1, 1]) (.agg (cntV kL)) (.agg [.int .i64 0, .int .i64 2, .int .i64 0, .int .i64 1]) = some (.bool true) := by
  have h : cnt kL 0 = 0 ∧ cnt kL 1 = 2 ∧ cnt kL 2 = 0 ∧ cnt kL 3 = 1 := by decide +kernel
  obtain ⟨h0, h1, h2, h3⟩ := h
  unfold cntV
  rw [h0, h1, h2, h3]
  rfl
theorem key_built (x : Tx) : aFill [.str [], .str []] [(0, 1, .str [97]), (1, 1, .str x)] = some [.str [97], .str x] := rfl
theorem card_built (x : Tx) : aFill zCd [(0, 2, .agg [.str [97], .str x]), (2, 1, .int .i64 1)] = some [.str [97], .str x, .int .i64 1, .int .i64 0, .int .i64 0, .int .i64 0, .int .i64 0, .int .i64 0, .bool false] := rfl
theorem card_built3 (x : Tx) : aFill zCd [(0, 2, .agg [.str [97], .str x]), (2, 1, .int .i64 1), (3, 1, .int .i64 3)] = some [.str [97], .str x, .int .i64 1, .int .i64 3, .int .i64 0, .int .i64 0, .int .i64 0, .int .i64 0, .bool false] := rfl
theorem rows_built : aFill (reps zCd 3) [(0, 9, .agg kc.cells), (9, 9, .agg kb.cells), (18, 9, .agg ka.cells)] = some (cdE.rws kL) := by kernel_rfl
theorem card_self : aBin .eql (.cells [2, 2, 1, 1, 1, 1, 1, 1, 0]) (.agg kc.cells) (.agg kc.cells) = some (.bool true) := by kernel_rfl
theorem count_built : aFill [.int .i64 0, .int .i64 0, .int .i64 0, .int .i64 0] [(0, 1, .int .i64 0), (1, 1, .int .i64 2), (2, 1, .int .i64 0), (3, 1, .int .i64 1)] = some [.int .i64 0, .int .i64 2, .int .i64 0, .int .i64 1] := rfl

theorem known_ok (h : Heap) : ∃ H, E tbl 8 [] h = some (.bool true, H) ∧ Went h H := by
  obtain ⟨p1, p2, p3, p4⟩ := known_facts
  have S : SrcC (.slice h.next 0 3 3 9 true) (h.alloc (cdE.rws kL)) kL := (El.Own.lit (E := cdE) h kL (n := 3) rfl true).src
  have W0 := Went.alloc h (cdE.rws kL)
  obtain ⟨h1, e1, W1⟩ := pick_ok S (by decide) [97] (-1)
  obtain ⟨h2, e2, W2⟩ := pick_ok (W1.src S) (by decide) [98] 0
  obtain ⟨o3, h3, e3, S3, W3⟩ := find_ok ((W1.trans W2).src S) (by decide) [97]
  have W13 := (W1.trans W2).trans W3
  obtain ⟨o4, h4, e4, S4, W4⟩ := apps_ok (W13.src S) (by decide)
  have e5 := count_ok ((W13.trans W4).src S) (by decide)
  have ln3 : aLen false o3 = some (.int .i64 2) := by have := S3.len; rw [p1] at this; exact this
  have ln4 : aLen false o4 = some (.int .i64 1) := by have := S4.len; rw [p4] at this; exact this
  rw [p1, p2] at e1
  rw [p3] at e2
  have d2 : decide (0 < 2) = true := rfl
  have d0 : decide (0 < 0) = false := rfl
  rw [d2] at e1
  rw [d0] at e2
  have rb := rows_built
  have cself := card_self
  have q2 : ((2 : Int) == 2) = true := rfl
  have q1 : ((1 : Int) == 1) = true := rfl
  refine ⟨h4, ?_, W0.trans (W13.trans W4)⟩
  have kcc : kc.cells = [.str [97], .str [122], .int .i64 1, .int .i64 0, .int .i64 0, .int .i64 0, .int .i64 0, .int .i64 0, .bool false] := rfl
  have kbc : kb.cells = [.str [97], .str [121], .int .i64 1, .int .i64 3, .int .i64 0, .int .i64 0, .int .i64 0, .int .i64 0, .bool false] := rfl
  have kac : ka.cells = [.str [97], .str [120], .int .i64 1, .int .i64 0, .int .i64 0, .int .i64 0, .int .i64 0, .int .i64 0, .bool false] := rfl
  have kct := known_count
  generalize (pickC (findC kL [98]) 0) = pc at e2
  generalize cdE.rws kL = R at *
  generalize cntV kL = V at *
  rw [kcc] at e1 rb cself
  rw [kbc, kac] at rb
  rw [c8]
  simp only [S8, S8g, key_built, card_built, card_built3, Option.bind_some, aCells_agg, List.length_cons, List.length_nil, Nat.zero_add, Nat.reduceAdd, if_true, ble_dec, Nat.le_refl, decide_true, cond_true, spl_c, spl_z, rdL_t, rdL_z, Option.map_some, from_agg, rb, e1, e2, ext_0, ext_1, Cd.cells, e3, ln3, bin_eql, q2, guard_bool, BEq.rfl, List.getD_cons_zero, pick_bool, cself, un_not, Bool.not_false, e4, ln4, q1, e5, count_built, kct, ans_one]

theorem tape_made (k : Nat) (h : Heap) : ∃ (s : AVal) (l : List Int) (H : Heap), loop (L3_1 (E tbl)) [.int .i64 k, .nilSlice, .int .i64 0] h = some (1, [.int .i64 k, s], H) ∧ Own 1 s H h.next l.length (l.map (.int .i64)) ∧ l.length = 120 ∧ Went h H := by
  have key := loop_ok (f := L3_1 (E tbl)) (fun m xs G => ∃ (i : Nat) (s : AVal) (l : List Int), m + i = 120 ∧ l.length = i ∧ Own 1 s G h.next l.length (l.map (.int .i64)) ∧ Went h G ∧ xs = [.int .i64 k, s, .int .i64 i])
    (fun r => ∃ (s : AVal) (l : List Int) (G : Heap), r = (1, [.int .i64 k, s], G) ∧ Own 1 s G h.next l.length (l.map (.int .i64)) ∧ l.length = 120 ∧ Went h G) ?_ 120 _ h ⟨0, .nilSlice, [], rfl, rfl, Own.nil _ _ _, Went.refl _, rfl⟩
  · obtain ⟨r, e, s, l, G, rfl, a, b, c⟩ := key
    simp only [Int.cast_ofNat_Int] at e
    exact ⟨s, l, G, e, a, b, c⟩
  · rintro m xs G ⟨i, s, l, m1, hl, O, W, rfl⟩
    by_cases h1 : i < 120
    · left
      have i1 : (i : Int) < 120 := by omega
      have w1 : IntKind.i64.wrap ((i : Int) + 1) = ((i + 1 : Nat) : Int) := wrap_succ _ (by omega)
      obtain ⟨x, hx⟩ : ∃ x : Int, ((aBin .mul .plain (.int .i64 i) (.int .i64 i)).bind fun v3 => (aBin .mul .plain v3 (.int .i64 7)).bind fun v4 => (aBin .mul .plain (.int .i64 k) (.int .i64 79)).bind fun v5 => (aBin .add .plain v4 v5).bind fun v6 => (aBin .mul .plain (.int .i64 i) (.int .i64 k)).bind fun v7 => (aBin .add .plain v6 v7).bind fun v8 => aBin .rem .plain v8 (.int .i64 211)) = some (.int .i64 x) := ⟨_, rfl⟩
      obtain ⟨s', G2, e2, O2, K2⟩ := Own.snoc (bytes := 8) (zero := [.int .i64 0]) (news := [.int .i64 x]) O (by omega) rfl W.next (by omega) (by omega)
      refine ⟨_, G2, ?_, m - 1, by omega, i + 1, s', l ++ [x], by omega, by simp [hl], by simpa using O2, K2.went W fun b hb => (O.blk b hb).1, rfl⟩
      simp only [Option.bind_eq_some_iff] at hx
      obtain ⟨v3, x3, v4, x4, v5, x5, v6, x6, v7, x7, v8, x8, x9⟩ := hx
      simp only [L3_1, List.getD_cons_zero, List.getD_cons_succ, bin_lss, i1, decide_true, Option.bind_some, cond_bool, cond_true, x3, x4, x5, x6, x7, x8, x9]
      simp [e2, w1]
    · right
      obtain rfl : i = 120 := by omega
      exact ⟨0, _, G, by simp [L3_1], s, l, G, rfl, O, hl, W⟩


theorem turns_ok {o : AVal} {G : Heap} {lc : List Cd} (S : SrcC o G lc) (hl : lc.length ≤ 12) (app : Tx) {ns : AVal} {ts : List Int} (N : Ints .i64 ns G ts) (lt : ∀ b, slBlk ns = some b → b < G.next) (ht : ts.length ≤ 1000) (x0 x3 x4 x5 : AVal) :
    ∃ H, loop (L3_3 (E tbl)) [x0, o, .str app, x3, x4, x5, ns, .int .i64 ts.length, .int .i64 0] G = some (1, [x0, o, x3, x4, x5], H) ∧ Went G H := by
  have key := loop_ok (f := L3_3 (E tbl)) (fun m xs F => ∃ (i : Nat), m + i = ts.length ∧ Went G F ∧ xs = [x0, o, .str app, x3, x4, x5, ns, .int .i64 ts.length, .int .i64 i])
    (fun r => ∃ F, r = (1, [x0, o, x3, x4, x5], F) ∧ Went G F) ?_ ts.length _ G ⟨0, rfl, Went.refl _, rfl⟩
  · obtain ⟨r, e, F, rfl, a⟩ := key
    exact ⟨F, e, a⟩
  · rintro m xs F ⟨i, m1, W, rfl⟩
    by_cases h1 : i < ts.length
    · left
      have i1 : (i : Int) < (ts.length : Int) := by omega
      have w1 : IntKind.i64.wrap ((i : Int) + 1) = ((i + 1 : Nat) : Int) := wrap_succ _ (by omega)
      obtain ⟨a, e1, e2⟩ := (N.mono fun b hb => W.old b (lt b hb)).at i h1
      obtain ⟨H, e3, W3⟩ := same_ok (W.src S) hl app (ts.getD i 0)
      refine ⟨_, H, ?_, m - 1, by omega, i + 1, by omega, W.trans W3, rfl⟩
      simp only [L3_3, List.getD_cons_zero, List.getD_cons_succ, bin_lss, i1, decide_true, Option.bind_some, cond_bool, cond_true, e1, e2, from_one, e3, un_not, Bool.not_true, cond_false, bin_add, w1]
    · right
      obtain rfl : i = ts.length := by omega
      exact ⟨0, _, F, by simp [L3_3], F, rfl, W⟩

def bounds : List Int := [-9223372036854775808, -3, -1, 0, 1, 5, 9223372036854775807]
theorem each_ok {o : AVal} {G : Heap} {lc : List Cd} (S : SrcC o G lc) (hl : lc.length ≤ 12) {rw_ : AVal} {apps : List Tx} (A : SrcT rw_ G apps) (ha : apps.length ≤ 1000) (x0 : AVal) :
    ∃ H, loop (L3_2 (E tbl)) [x0, o, rw_, .int .i64 apps.length, .int .i64 0] G = some (1, [x0], H) ∧ Went G H := by
  have key := loop_ok (f := L3_2 (E tbl)) (fun m xs F => ∃ (i : Nat), m + i = apps.length ∧ Went G F ∧ xs = [x0, o, rw_, .int .i64 apps.length, .int .i64 i])
    (fun r => ∃ F, r = (1, [x0], F) ∧ Went G F) ?_ apps.length _ G ⟨0, rfl, Went.refl _, rfl⟩
  · obtain ⟨r, e, F, rfl, a⟩ := key
    exact ⟨F, e, a⟩
  · rintro m xs F ⟨i, m1, W, rfl⟩
    by_cases h1 : i < apps.length
    · left
      have i1 : (i : Int) < (apps.length : Int) := by omega
      have w1 : IntKind.i64.wrap ((i : Int) + 1) = ((i + 1 : Nat) : Int) := wrap_succ _ (by omega)
      obtain ⟨a, e1, e2⟩ := El.Src.el (E := txE) (W.src A) i h1
      have I := Ints.lit .i64 F bounds 7 rfl true
      have W1 := Went.alloc F (bounds.map (.int .i64))
      obtain ⟨H, e3, W3⟩ := turns_ok ((W.trans W1).src S) hl apps[i] I (fun b hb => by cases hb; simp) (by decide) x0 rw_ (.int .i64 apps.length) (.int .i64 i)
      have fb : aFill (reps [.int .i64 0] 7) [(0, 1, .int .i64 (-9223372036854775808)), (1, 1, .int .i64 (-3)), (2, 1, .int .i64 (-1)), (3, 1, .int .i64 0), (4, 1, .int .i64 1), (5, 1, .int .i64 5), (6, 1, .int .i64 9223372036854775807)] = some (bounds.map (.int .i64)) := rfl
      have l7 : aLen false (.slice F.next 0 7 7 1 true) = some (.int .i64 7) := rfl
      have b7 : (bounds.length : Int) = 7 := rfl
      rw [b7] at e3
      simp only [txE_f] at e2
      refine ⟨_, H, ?_, m - 1, by omega, i + 1, by omega, (W.trans W1).trans W3, rfl⟩
      simp only [L3_2, List.getD_cons_zero, List.getD_cons_succ, bin_lss, i1, decide_true, Option.bind_some, cond_bool, cond_true, e1, e2, from_one, fb, l7, e3, nat_beq11, bin_add, w1]
    · right
      obtain rfl : i = apps.length := by omega
      exact ⟨0, _, F, by simp [L3_2], F, rfl, W⟩

def appL : List Tx := [[97, 112, 112], [98], [97, 112, 112, 49], [122, 57], []]
theorem lookNumbers_true (h0 : Heap) : ∃ h', E tbl 3 [] h0 = some (.bool true, h') := by
  have key := loop_ok (f := L3_0 (E tbl)) (fun m xs G => ∃ (i : Nat), m + i = 40 ∧ xs = [.int .i64 i]) (fun r => ∃ G, r = (1, [], G)) ?_ 40 _ h0 ⟨0, rfl, rfl⟩
  · obtain ⟨r, e, G, rfl⟩ := key
    simp only [Int.cast_ofNat_Int] at e
    have N : SrcC .nilSlice G [] := ⟨rfl, .inl ⟨rfl, rfl⟩⟩
    obtain ⟨H1, e1, _⟩ := same_ok N (by decide) [] 0
    obtain ⟨H, e2, _⟩ := known_ok H1
    refine ⟨H, ?_⟩
    rw [c3]
    simp [S3, e, e1, e2, beq_dec]
  · rintro m xs G ⟨i, m1, rfl⟩
    by_cases h1 : i < 40
    · left
      have i1 : (i : Int) < 40 := by omega
      have w1 : IntKind.i64.wrap ((i : Int) + 1) = ((i + 1 : Nat) : Int) := wrap_succ _ (by omega)
      obtain ⟨s, l, H, e1, O1, l1, W1⟩ := tape_made i G
      have T0 : Fw.Tape H.next s l (H.alloc [s, .int .i64 0]) := Tape.make O1.src.ints (fun b hb => (O1.blk b hb).2) (by omega)
      obtain ⟨o, lc, H2, e2, O2, l2, _, _⟩ := cards_ok T0 12 (by omega)
      have W3 := Went.alloc H2 (txE.rws appL)
      have A : SrcT (.slice H2.next 0 5 5 1 true) (H2.alloc (txE.rws appL)) appL := (El.Own.lit (E := txE) H2 appL (n := 5) rfl true).src
      obtain ⟨H4, e4, W4⟩ := each_ok (W3.src O2.src) l2 A (by decide) (.int .i64 i)
      have fa : aFill (reps [.str []] 5) [(0, 1, .str [97, 112, 112]), (1, 1, .str [98]), (2, 1, .str [97, 112, 112, 49]), (3, 1, .str [122, 57]), (4, 1, .str [])] = some (txE.rws appL) := rfl
      have l5 : aLen false (.slice H2.next 0 5 5 1 true) = some (.int .i64 5) := rfl
      have b5 : (appL.length : Int) = 5 := rfl
      rw [b5] at e4
      have cs : aCells 1 s = some [s] := O1.cell
      have ft : aFill [.nilSlice, .int .i64 0] [(0, 1, s)] = some [s, .int .i64 0] := by
        simp only [fill_cons, fill_nil, cs, Option.bind_some, List.length_cons, List.length_nil, spl_c, spl_z]
        rfl
      refine ⟨_, H4, ?_, m - 1, by omega, i + 1, by omega, rfl⟩
      simp only [Int.cast_ofNat_Int] at e2
      simp only [L3_0, List.getD_cons_zero, List.getD_cons_succ, bin_lss, i1, decide_true, Option.bind_some, cond_bool, cond_true, e1, nat_beq11, ft, cellsQ_agg, e2, fa, l5, e4, bin_add, w1]
    · right
      obtain rfl : i = 40 := by omega
      exact ⟨0, _, G, by simp [L3_0], G, rfl⟩
end Go.Proofs.Ytllogmedpmanoaa.Code
