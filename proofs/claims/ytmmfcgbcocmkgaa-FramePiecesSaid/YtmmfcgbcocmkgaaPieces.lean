/- Chapter 3: FramePieces. -/
import Derived.Test.YtmmfcgbcocmkgaaBack
namespace Go.Proofs.Ytmmfcgbcocmkgaa.Code
set_option linter.unusedSimpArgs false
set_option linter.unusedVariables false
open Go.Fw

/-- A part of what is right is right. -/
theorem parse_part (B : List UInt8) (hB : (parse B).2.1 = 0) (j : Nat) : (parse (B.take j)).2.1 = 0 := by
  have h := (parse_app _ (B.take j) (B.drop j) (Nat.le_refl _)).1
  rw [List.take_append_drop] at h
  by_cases hw : (parse (B.take j)).2.1 = 0
  · exact hw
  · rw [h hw] at hB
    exact hB
theorem parse_go (B : List UInt8) (hB : (parse B).2.1 = 0) (j k : Nat) :
    (parse (B.take (j + k))).1 = (parse (B.take j)).1 ++ (parse ((parse (B.take j)).2.2 ++ (B.drop j).take k)).1 ∧ (parse (B.take (j + k))).2 = (parse ((parse (B.take j)).2.2 ++ (B.drop j).take k)).2 := by
  have h := (parse_app _ (B.take j) ((B.drop j).take k) (Nat.le_refl _)).2 (parse_part B hB j)
  rw [← List.take_add] at h
  rw [h]
  exact ⟨rfl, rfl⟩

theorem Only.src {p : Nat} {G H : Heap} (O : Only p G H) {s : AVal} {l : List UInt8} (S : Bs s G l) (hs : ∀ c, slBlk s = some c → c ≠ p) : Bs s H l := Fw.Src.kept S O.next fun c hc => O.old c (S.blk c hc) (hs c hc)

theorem pieces_loop {G8 : Heap} {p q : Nat} {cs sB : AVal} {B : List UInt8} {lc : List Int} (hB : (parse B).2.1 = 0) (hl : B.length ≤ 1000) (I : Ints .i64 cs G8 lc) (hcs : ∀ c, slBlk cs = some c → c ≠ q) (hcl : ∀ c, slBlk cs = some c → c < G8.next) (S : Bs sB G8 B) (R : El.Room sB) (hsB : ∀ c, slBlk sB = some c → c ≠ q) (T : St q G8 .nilSlice [] 0) (x4 x5 : AVal) :
    ∃ y G s', loop (L7_0 (E tbl)) [cs, sB, .ptr p 0, .ptr q 0, x4, x5, .nilSlice, .int .i64 0] G8 = some (1, [.ptr p 0, .ptr q 0, x4, x5, y], G) ∧ Outs G8.next G y (parse B).1 ∧ St q G s' (parse B).2.2 0 ∧ Only q G8 G := by
  have hq := T.lt
  have ln := I.len
  have key := loop_ok (f := L7_0 (E tbl)) (fun m xs G => ∃ (i j : Nat) (sR y s' : AVal), m + i = 40 ∧ j ≤ B.length ∧ (i = 40 ∨ lc.length < i → j = B.length) ∧ i ≤ lc.length + 1 ∧ Bs sR G8 (B.drop j) ∧ El.Room sR ∧ (∀ c, slBlk sR = some c → c ≠ q) ∧ Outs G8.next G y (parse (B.take j)).1 ∧ St q G s' (parse (B.take j)).2.2 0 ∧ (∀ c, slBlk s' = some c → slBlk y ≠ some c) ∧ Only q G8 G ∧ xs = [cs, sR, .ptr p 0, .ptr q 0, x4, x5, y, .int .i64 i])
    (fun r => ∃ y G s', r = (1, [.ptr p 0, .ptr q 0, x4, x5, y], G) ∧ Outs G8.next G y (parse B).1 ∧ St q G s' (parse B).2.2 0 ∧ Only q G8 G) ?_ 40 _ G8 ⟨0, 0, sB, .nilSlice, .nilSlice, rfl, by omega, fun h => by omega, by omega, by simpa using S, R, hsB, Outs.nil _ _, (show St q G8 .nilSlice (parse (B.take 0)).2.2 0 from T), (fun c (hc : slBlk AVal.nilSlice = some c) => by cases hc), Only.refl _ _, rfl⟩
  · obtain ⟨r, e, y, G, s', rfl, a⟩ := key
    simp only [Int.cast_ofNat_Int] at e
    exact ⟨y, G, s', e, a⟩
  · rintro m xs G ⟨i, j, sR, y, s', m1, hj, hend, hil, SR, RR, hsR, Y, Tq, hsy, On, rfl⟩
    by_cases h1 : i ≤ lc.length ∧ i < 40
    · left
      have i1 : (i : Int) ≤ (lc.length : Int) := by omega
      have i2 : (i : Int) < 40 := by omega
      have w1 : IntKind.i64.wrap ((i : Int) + 1) = ((i + 1 : Nat) : Int) := wrap_succ _ (by omega)
      have SG := Only.src On SR hsR
      have lr := SG.len
      have hrl : (B.drop j).length = B.length - j := List.length_drop
      have fin : ∀ k : Nat, k ≤ (B.drop j).length → ∃ sR' y' s2 G2, (((aSliceSl 1 sR none (some (.int .i64 k)) none).bind fun v28 => (E tbl 18 [.ptr q 0, v28] G).bind fun r29 => (aExtract 0 r29.1).bind fun v30 => (aExtract 1 r29.1).bind fun v31 => (aSliceSl 1 sR (some (.int .i64 k)) none none).bind fun v32 => (aBin .neq .plain v31 (.int .i64 0)).bind fun v33 =>
 condV v33
 (some (2, [(.bool false)], r29.2))
 ((aAppend 1 24 [.nilSlice] false y v30 r29.2).bind fun r34 =>
 (aBin .add .plain (.int .i64 i) (.int .i64 1)).bind fun v35 =>
 some (0, [cs, v32, .ptr p 0, .ptr q 0, x4, x5, r34.1, v35], r34.2))) = some (0, [cs, sR', .ptr p 0, .ptr q 0, x4, x5, y', .int .i64 ((i + 1 : Nat) : Int)], G2)) ∧
          Bs sR' G8 (B.drop (j + k)) ∧ El.Room sR' ∧ (∀ c, slBlk sR' = some c → c ≠ q) ∧ Outs G8.next G2 y' (parse (B.take (j + k))).1 ∧ St q G2 s2 (parse (B.take (j + k))).2.2 0 ∧ (∀ c, slBlk s2 = some c → slBlk y' ≠ some c) ∧ Only q G8 G2 := by
        intro k hk
        obtain ⟨sK, e1, K1, _, kb⟩ := SG.pre RR k hk
        obtain ⟨sR', e2, K2, R2, kb2⟩ := SR.post RR k hk
        obtain ⟨g1, g2⟩ := parse_go B hB j k
        have hw := parse_part B hB (j + k)
        have hpl := parse_len _ (B.take j) (Nat.le_refl _)
        have hpl2 := parse_len _ (B.take (j + k)) (Nat.le_refl _)
        have htl : (B.take j).length ≤ B.length := by rw [List.length_take]; omega
        have htl2 : (B.take (j + k)).length ≤ B.length := by rw [List.length_take]; omega
        have hfd : feedP (parse (B.take j)).2.2 0 ((B.drop j).take k) = parse ((parse (B.take j)).2.2 ++ (B.drop j).take k) := by unfold feedP; rw [if_neg (by omega)]
        obtain ⟨o, G2, s2, e3, O2, T2, On2, b2⟩ := feed_ok Tq K1 (fun c hc => hsR c (kb c hc)) (by rw [List.length_take]; omega)
        rw [hfd] at e3 O2 T2
        rw [← g2] at e3 T2
        rw [hw] at e3 T2
        have Y2 : Outs G8.next G2 y (parse (B.take j)).1 := Y.went On2.next fun b h8 hb => On2.old b hb (by omega)
        have hy : ∀ b, slBlk y = some b → G8.next ≤ b ∧ b < G.next := fun b hb => Y.ge b hb
        have hlen2 : (parse ((parse (B.take j)).2.2 ++ (B.drop j).take k)).1.length ≤ 1000 := by
          have : ((parse (B.take j)).1 ++ (parse ((parse (B.take j)).2.2 ++ (B.drop j).take k)).1).length ≤ 1000 := by rw [← g1]; omega
          rw [List.length_append] at this; omega
        obtain ⟨y', G3, e4, Y3, K3⟩ := Y2.app O2 On.next (fun b hb => (hy b hb).2) (Nat.le_trans On.next On2.next) (by omega)
        have hs2 : ∀ c, slBlk s2 = some c → slBlk y ≠ some c := fun c hc e => by
          rcases b2 c hc with h | h
          · exact hsy c h e
          · have := (hy c e).2; omega
        refine ⟨sR', y', s2, G3, ?_, by rw [← List.drop_drop]; exact K2, R2, fun c hc => hsR c (kb2 c hc), by rw [g1]; exact Y3, ?_, fun c hc e => ?_, ?_⟩
        · simp only [Int.cast_ofNat_Int] at e3
          have e2' : aSliceSl 1 sR (some (.int .i64 k)) none none = some sR' := e2
          simp [e1, e3, e2', e4, w1]
        · exact T2.kept K3.next fun b hb hor => K3.old b hb fun e => by
            rcases hor with h | h
            · have := (hy b e).1; omega
            · exact hs2 b h e
        · rcases K3.blk c e with h | h
          · exact hs2 c hc h
          · have := T2.bs.blk c hc; omega
        · refine ⟨Nat.le_trans On.next (Nat.le_trans On2.next K3.next), fun b hb hbq => ?_⟩
          have h1 := On.next
          have h2 := On2.next
          rw [K3.old b (by omega) fun e => by have := (hy b e).1; omega, On2.old b (by omega) hbq, On.old b hb hbq]
      by_cases h2 : i < lc.length ∧ i < 39
      · have i3 : (i : Int) < (lc.length : Int) := by omega
        have i4 : (i : Int) < 39 := by omega
        obtain ⟨a, a1, a2⟩ := (I.mono fun c hc => On.old c (hcl c hc) (hcs c hc)).at i h2.1
        generalize lc.getD i 0 = z at a2
        have e3 := within_ok z 0 (B.drop j).length G (by omega) (by omega) (by omega)
        have wi := within_in z 0 (B.drop j).length (by omega)
        obtain ⟨k, hk⟩ : ∃ k : Nat, within z 0 (B.drop j).length = (k : Int) := ⟨(within z 0 (B.drop j).length).toNat, by omega⟩
        rw [hk] at e3 wi
        obtain ⟨sR', y', s2, G2, e4, S2, R2, b2, Y2, T2, c2, On2⟩ := fin k (by omega)
        refine ⟨_, G2, ?_, m - 1, by omega, i + 1, j + k, sR', y', s2, by omega, by omega, fun h => by omega, by omega, S2, R2, b2, Y2, T2, c2, On2, rfl⟩
        rw [← e4]
        simp only [L7_0, List.getD_cons_zero, List.getD_cons_succ, (I.mono fun c hc => On.old c (hcl c hc) (hcs c hc)).len, bin_leq, i1, decide_true, Option.bind_some, guard_bool, beq_self_eq_true, cond_true, bin_lss, i2, pick_bool, cond_bool, lr, i3, i4, a1, a2, from_one, e3, beq_dec]
      · obtain ⟨sR', y', s2, G2, e4, S2, R2, b2, Y2, T2, c2, On2⟩ := fin (B.drop j).length (Nat.le_refl _)
        refine ⟨_, G2, ?_, m - 1, by omega, i + 1, j + (B.drop j).length, sR', y', s2, by omega, by omega, fun h => by omega, by omega, S2, R2, b2, Y2, T2, c2, On2, rfl⟩
        rw [← e4]
        by_cases h3 : i < lc.length
        · have i3 : (i : Int) < (lc.length : Int) := by omega
          have i4 : ¬ (i : Int) < 39 := by omega
          simp only [L7_0, List.getD_cons_zero, List.getD_cons_succ, (I.mono fun c hc => On.old c (hcl c hc) (hcs c hc)).len, bin_leq, i1, decide_true, decide_false, Option.bind_some, guard_bool, beq_self_eq_true, cond_true, cond_false, bin_lss, i2, pick_bool, cond_bool, lr, i3, i4, beq_dec]
        · have i3 : ¬ (i : Int) < (lc.length : Int) := by omega
          simp only [L7_0, List.getD_cons_zero, List.getD_cons_succ, (I.mono fun c hc => On.old c (hcl c hc) (hcs c hc)).len, bin_leq, i1, decide_true, decide_false, Option.bind_some, guard_bool, beq_self_eq_true, cond_true, cond_false, bin_lss, i2, pick_bool, cond_bool, lr, i3, beq_dec, show (false == true) = false from rfl]
    · right
      have hjB : j = B.length := by
        apply hend
        omega
      subst hjB
      rw [List.take_length] at Y Tq
      refine ⟨0, _, G, ?_, y, G, s', rfl, Y, Tq, On⟩
      by_cases h2 : i ≤ lc.length
      · have i1 : (i : Int) ≤ (lc.length : Int) := by omega
        have i2 : ¬ (i : Int) < 40 := by omega
        simp [L7_0, ln, i1, i2]
      · have i1 : ¬ (i : Int) ≤ (lc.length : Int) := by omega
        simp [L7_0, ln, i1]
end Go.Proofs.Ytmmfcgbcocmkgaa.Code
namespace Go.Proofs.Ytmmfcgbcocmkgaa.Code
set_option linter.unusedSimpArgs false
set_option linter.unusedVariables false
open Go.Fw

theorem all_loop {n1 n2 : Nat} {G : Heap} {o1 o2 : AVal} {fs : List (List UInt8)} (O1 : Outs n1 G o1 fs) (O2 : Outs n2 G o2 fs) (hl : fs.length ≤ 4000000000000) (x0 x1 : AVal) :
    loop (L7_1 (E tbl)) [x0, x1, o1, o2, .int .i64 fs.length, .int .i64 0] G = some (1, [x0, x1], G) := by
  have key := loop_ok (f := L7_1 (E tbl)) (fun m xs H => ∃ j : Nat, H = G ∧ m + j = fs.length ∧ xs = [x0, x1, o1, o2, .int .i64 fs.length, .int .i64 j]) (fun r => r = (1, [x0, x1], G)) ?_ fs.length _ G ⟨0, rfl, rfl, rfl⟩
  · obtain ⟨r, e, rfl⟩ := key
    exact e
  · rintro m xs H ⟨j, rfl, m1, rfl⟩
    by_cases h1 : j < fs.length
    · left
      have i1 : (j : Int) < (fs.length : Int) := by omega
      have w1 : IntKind.i64.wrap ((j : Int) + 1) = ((j + 1 : Nat) : Int) := wrap_succ _ (by omega)
      obtain ⟨p, s, e1, e2, B1⟩ := O1.at j h1
      obtain ⟨p', s', e3, e4, B2⟩ := O2.at j h1
      have t1 := Fw.Src.text B1
      have t2 := Fw.Src.text B2
      refine ⟨_, H, ?_, m - 1, by omega, j + 1, rfl, by omega, rfl⟩
      simp only [L7_1, List.getD_cons_zero, List.getD_cons_succ, bin_lss, i1, decide_true, Option.bind_some, cond_bool, cond_true, e1, e2, from_one, t1, e3, e4, t2, bin_str_neq, beq_self_eq_true, Bool.not_true, cond_false, bin_add, w1]
    · right
      obtain rfl : j = fs.length := by omega
      exact ⟨0, _, H, by simp [L7_1], rfl⟩

theorem framePieces_true (h0 : Heap) {s : AVal} {R : List (AVal × List Int)} (I : Go.Fw.Rows .u8 s h0 R) (sz : R.length * 24 ≤ 140737488355328) (_ : ∀ x ∈ R, x.2.length * 1 ≤ 140737488355328)
    {s1 : AVal} {l1 : List Int} (I1 : Ints .i64 s1 h0 l1) (lt1 : ∀ b, slBlk s1 = some b → b < h0.next) (_ : ∀ x ∈ l1, (Lit.int .i64 x).wf = true) (sz1 : l1.length * 8 ≤ 140737488355328) : ∃ h', E tbl 7 [s, s1] h0 = some (.bool true, h') := by
  obtain ⟨L, B, hL, _⟩ := I.bytes
  obtain ⟨o, h1, e1, F1⟩ := row_ok B (by omega)
  have hlen := rowB_len (L.map (·.2))
  have hpr := parse_row (L.map (·.2))
  have n2 := new_eq h1
  have n3 := new_eq (h1.alloc [.nilSlice, .int .i64 0])
  have W2 : Went h1 (h1.alloc [.nilSlice, .int .i64 0]) := Went.alloc _ _
  have W3 : Went (h1.alloc [.nilSlice, .int .i64 0]) ((h1.alloc [.nilSlice, .int .i64 0]).alloc [.nilSlice, .int .i64 0]) := Went.alloc _ _
  have Tp : St h1.next ((h1.alloc [.nilSlice, .int .i64 0]).alloc [.nilSlice, .int .i64 0]) .nilSlice [] 0 := (St.new h1).kept (by simp) fun c hc _ => W3.old c hc
  have Tq : St (h1.alloc [.nilSlice, .int .i64 0]).next ((h1.alloc [.nilSlice, .int .i64 0]).alloc [.nilSlice, .int .i64 0]) .nilSlice [] 0 := St.new _
  have hon : ∀ c, slBlk o = some c → c < h1.next := fun c hc => (F1.own.blk c hc).2
  obtain ⟨x, G8, sp, e4, X, Tp8, On8, b8⟩ := feed_ok Tp ((W2.trans W3).src F1.bs) (fun c hc => by have := hon c hc; omega) (by simp; omega)
  have hfd : feedP [] 0 (rowB (L.map (·.2))) = parse (rowB (L.map (·.2))) := rfl
  rw [hfd] at e4 X Tp8
  have hn3 : ((h1.alloc [.nilSlice, .int .i64 0]).alloc [.nilSlice, .int .i64 0]).next = h1.next + 2 := rfl
  have hn2 : (h1.alloc [.nilSlice, .int .i64 0]).next = h1.next + 1 := rfl
  have Tq8 : St (h1.alloc [.nilSlice, .int .i64 0]).next G8 .nilSlice [] 0 := Tq.kept On8.next fun c hc hor => On8.old c hc fun e => by
    rcases hor with h | h
    · omega
    · cases h
  have B8 : Bs o G8 (rowB (L.map (·.2))) := Only.src On8 ((W2.trans W3).src F1.bs) fun c hc => by have := hon c hc; omega
  have I8 : Ints .i64 s1 G8 l1 := I1.mono fun c hc => by
    have h3 := lt1 c hc
    have h4 := F1.went.next
    rw [On8.old c (by omega) (by omega), W3.old c (by omega), W2.old c (by omega), F1.went.old c h3]
  have hx8 := On8.next
  obtain ⟨y, G, sq, e5, Y, Tq9, On9⟩ := pieces_loop (p := h1.next) (by rw [hpr]) (by omega) I8 (fun c hc => by have := lt1 c hc; have := F1.went.next; omega) (fun c hc => by have := lt1 c hc; have := F1.went.next; omega) B8 F1.own.room (fun c hc => by have := hon c hc; omega) Tq8 x (.int .i64 0)
  have X9 : Outs ((h1.alloc [.nilSlice, .int .i64 0]).alloc [.nilSlice, .int .i64 0]).next G x (parse (rowB (L.map (·.2)))).1 := X.went On9.next fun c hc hc8 => On9.old c hc8 (by omega)
  have Tp9 : St h1.next G sp (parse (rowB (L.map (·.2)))).2.2 (parse (rowB (L.map (·.2)))).2.1 := Tp8.kept On9.next fun c hc hor => On9.old c hc fun e => by
    rcases hor with h | h
    · omega
    · rcases b8 c h with h' | h'
      · cases h'
      · omega
  have hpl : (parse (rowB (L.map (·.2)))).1.length ≤ 1000 := by have := parse_len _ (rowB (L.map (·.2))) (Nat.le_refl _); omega
  have lx := X9.len
  have ly := Y.len
  have al := all_loop X9 Y (by omega) (.ptr h1.next 0) (.ptr (h1.alloc [.nilSlice, .int .i64 0]).next 0)
  have f1 := left_eq Tp9
  have f2 := left_eq Tq9
  obtain ⟨H, e6, _⟩ := known_ok G
  refine ⟨H, ?_⟩
  rw [hpr] at e4 lx ly al f1 f2
  simp only [Int.cast_ofNat_Int, List.length_nil] at e4 e5 f1 f2 al
  generalize (((((L.map (·.2)).take 5).map (·.take 60)).length : Nat) : Int) = zz at lx ly al
  rw [c7]
  generalize ((h1.alloc [.nilSlice, .int .i64 0]).alloc [.nilSlice, .int .i64 0]) = G3 at n3 e4
  generalize (h1.alloc [.nilSlice, .int .i64 0]) = G2 at n2 n3 e4 e5 f1 f2 al
  simp [S7, e1, n2, n3, e4, e5, lx, ly, al, f1, f2, e6, beq_dec]
end Go.Proofs.Ytmmfcgbcocmkgaa.Code
