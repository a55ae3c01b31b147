/- Chapter 3: any run of a stream beside the document's own. -/
import Derived.Test.YtmmfcgbcocmkgaaStream
namespace Go.Proofs.Ytmmfcgbcocmkgaa.Code
set_option linter.unusedSimpArgs false
set_option linter.unusedVariables false
open Go.Fw

theorem feedP_len (l : List UInt8) (w : Nat) (b : List UInt8) : (feedP l w b).2.2.length ≤ l.length + b.length ∧ (feedP l w b).1.length ≤ l.length + b.length := by
  unfold feedP
  split
  · simp
  · have := parse_len _ (l ++ b) (Nat.le_refl _)
    rw [List.length_append] at this
    exact ⟨this.2.2, this.2.1⟩

/-- What came is the same, one by one. -/
theorem same_loop {n1 n2 : Nat} {G : Heap} {o1 o2 : AVal} {fs : List (List UInt8)} (O1 : Outs n1 G o1 fs) (O2 : Outs n2 G o2 fs) (hl : fs.length ≤ 4000000000000) (x0 x1 x2 x3 x4 : AVal) :
    loop (L9_1 (E tbl)) [x0, x1, x2, x3, x4, o1, o2, .int .i64 fs.length, .int .i64 0] G = some (1, [x0, x1, x2, x3, x4], G) := by
  have key := loop_ok (f := L9_1 (E tbl)) (fun m xs H => ∃ j : Nat, H = G ∧ m + j = fs.length ∧ xs = [x0, x1, x2, x3, x4, o1, o2, .int .i64 fs.length, .int .i64 j]) (fun r => r = (1, [x0, x1, x2, x3, x4], G)) ?_ fs.length _ G ⟨0, rfl, rfl, rfl⟩
  · obtain ⟨r, e, rfl⟩ := key
    exact e
  · rintro m xs H ⟨j, rfl, m1, rfl⟩
    by_cases h1 : j < fs.length
    · left
      have i1 : (j : Int) < (fs.length : Int) := by omega
      have w1 : IntKind.i64.wrap ((j : Int) + 1) = ((j + 1 : Nat) : Int) := wrap_succ _ (by omega)
      obtain ⟨p, s, e1, e2, B1⟩ := O1.at j h1
      obtain ⟨p', s', e3, e4, B2⟩ := O2.at j h1
      have t1 := Fw.Src.text B1
      have t2 := Fw.Src.text B2
      refine ⟨_, H, ?_, m - 1, by omega, j + 1, rfl, by omega, rfl⟩
      simp only [L9_1, List.getD_cons_zero, List.getD_cons_succ, bin_lss, i1, decide_true, Option.bind_some, cond_bool, cond_true, e1, e2, from_one, t1, e3, e4, t2, bin_str_neq, beq_self_eq_true, Bool.not_true, cond_false, bin_add, w1]
    · right
      obtain rfl : j = fs.length := by omega
      exact ⟨0, _, H, by simp [L9_1], rfl⟩

structure Two (h G : Heap) (p q : Nat) (sp sq : AVal) (l : List UInt8) (w : Nat) (sR : AVal) (rest : List UInt8) : Prop where
  went : Went h G
  tp : St p G sp l w
  tq : St q G sq l w
  hp : h.next ≤ p
  hq : h.next ≤ q
  ne : p ≠ q
  np : ∀ c, slBlk sp = some c → c ≠ q
  nq : ∀ c, slBlk sq = some c → c ≠ p
  bs : Bs sR G rest
  room : El.Room sR
  lt : ∀ c, slBlk sR = some c → c < h.next
  sz : l.length + rest.length ≤ 1000000000000

theorem Two.feeds {h G : Heap} {p q : Nat} {sp sq : AVal} {l : List UInt8} {w : Nat} {sR : AVal} {rest : List UInt8} (T : Two h G p q sp sq l w sR rest) (k : Nat) (hk : k ≤ rest.length) :
    ∃ sK o1 G1 o2 G2 sR' sp' sq', aSliceSl 1 sR none (some (.int .i64 k)) none = some sK ∧ E tbl 18 [.ptr p 0, sK] G = some (.tuple [o1, .int .i64 ((feedP l w (rest.take k)).2.1 : Nat)], G1) ∧ E tbl 21 [.ptr q 0, sK] G1 = some (.tuple [o2, .int .i64 ((feedP l w (rest.take k)).2.1 : Nat)], G2) ∧ aSliceSl 1 sR (some (.int .i64 k)) none none = some sR' ∧
      Outs G.next G2 o1 (feedP l w (rest.take k)).1 ∧ Outs G1.next G2 o2 (feedP l w (rest.take k)).1 ∧ Two h G2 p q sp' sq' (feedP l w (rest.take k)).2.2 (feedP l w (rest.take k)).2.1 sR' (rest.drop k) := by
  obtain ⟨sK, k1, K1, _, kb⟩ := T.bs.pre T.room k hk
  obtain ⟨sR', k2, K2, R2, kb2⟩ := T.bs.post T.room k hk
  have hsz := T.sz
  have hW := T.went.next
  have htk : (rest.take k).length = k := by rw [List.length_take]; omega
  obtain ⟨o1, G1, sp', e1, O1, T1, On1, b1⟩ := feed_ok T.tp K1 (fun c hc e => by have := T.lt c (kb c hc); have := T.hp; omega) (by omega)
  have tq1 : St q G1 sq l w := T.tq.kept On1.next fun b hb hor => On1.old b hb fun e => by
    rcases hor with h | h
    · exact T.ne (by omega)
    · exact T.nq b h e
  have K1' : Bs sK G1 (rest.take k) := Fw.Src.kept K1 On1.next fun b hb => On1.old b (K1.blk b hb) fun e => by have := T.lt b (kb b hb); have := T.hp; omega
  obtain ⟨o2, G2, sq', e2, O2, T2, On2, b2⟩ := rfeed_ok tq1 K1' (fun c hc e => by have := T.lt c (kb c hc); have := T.hq; omega) (by omega)
  have hq := T.tq.lt
  have hp := T.tp.lt
  have hf := feedP_len l w (rest.take k)
  refine ⟨sK, o1, G1, o2, G2, sR', sp', sq', k1, e1, e2, k2, ?_, O2, ?_⟩
  · exact O1.went On2.next fun b hb hb1 => On2.old b hb1 (by omega)
  · exact {
      went := ⟨by have := On1.next; have := On2.next; omega, fun b hb => by
        have h1 := T.hp; have h2 := T.hq
        rw [On2.old b (by have := On1.next; omega) (by omega), On1.old b (by omega) (by omega), T.went.old b hb]⟩
      tp := T1.kept On2.next fun b hb hor => On2.old b hb fun e => by
        rcases hor with h | h
        · exact T.ne (by omega)
        · rcases b1 b h with h' | h'
          · exact T.np b h' e
          · omega
      tq := T2
      hp := T.hp
      hq := T.hq
      ne := T.ne
      np := fun c hc e => by
        rcases b1 c hc with h' | h'
        · exact T.np c h' e
        · omega
      nq := fun c hc e => by
        rcases b2 c hc with h' | h'
        · exact T.nq c h' e
        · have := On1.next; omega
      bs := Fw.Src.kept K2 (by have := On1.next; have := On2.next; omega) fun b hb => by
        have h3 := T.lt b (kb2 b hb); have h1 := T.hp; have h2 := T.hq
        rw [On2.old b (by have := On1.next; omega) (by omega), On1.old b (by omega) (by omega)]
      room := R2
      lt := fun c hc => T.lt c (kb2 c hc)
      sz := by rw [List.length_drop]; omega }

theorem left_eq {p : Nat} {G : Heap} {s : AVal} {l : List UInt8} {w : Nat} (T : St p G s l w) : E tbl 20 [.ptr p 0] G = some (.int .i64 l.length, G) := by
  have r0 := T.rd0
  have hl := T.bs.len
  rw [c20]
  simp [S20, r0, hl]

theorem new_eq (h : Heap) : E tbl 17 [] h = some (.ptr h.next 0, h.alloc [.nilSlice, .int .i64 0]) := by
  rw [c17]
  rfl
theorem St.new (h : Heap) : St h.next (h.alloc [.nilSlice, .int .i64 0]) .nilSlice [] 0 where
  lt := by simp
  blk := by simp
  bs := Bs.nil _
  room := Room.nil
  ne := fun b hb => by cases hb

theorem play_ok {s0 s1 : AVal} {h : Heap} {b : List UInt8} {lc : List Int} (B : Bs s0 h b) (R : El.Room s0) (I : Ints .i64 s1 h lc) (hs : ∀ c, slBlk s1 = some c → c < h.next) (hl : b.length ≤ 1000000000000) (hc : lc.length ≤ 1000000000000000000) :
    ∃ H, E tbl 9 [s0, s1] h = some (.bool true, H) ∧ Went h H := by
  have hb := B.blk
  let G0 := (h.alloc [.nilSlice, .int .i64 0]).alloc [.nilSlice, .int .i64 0]
  have T0 : Two h G0 h.next (h.next + 1) .nilSlice .nilSlice [] 0 s0 b := {
    went := (Went.alloc _ _).trans (Went.alloc _ _)
    tp := (St.new h).kept (by simp [G0]) fun c hc _ => alloc_old _ _ (by simp at hc ⊢; omega)
    tq := St.new (h.alloc [.nilSlice, .int .i64 0])
    hp := Nat.le_refl _
    hq := by omega
    ne := by omega
    np := fun c hc => by cases hc
    nq := fun c hc => by cases hc
    bs := ((Went.alloc _ _).trans (Went.alloc _ _)).src B
    room := R
    lt := hb
    sz := by simpa using hl }
  have key := loop_ok (f := L9_0 (E tbl)) (fun m xs G => ∃ (i : Nat) (sR sp sq : AVal) (l rest : List UInt8) (w : Nat), m + i = 30 ∧ Two h G h.next (h.next + 1) sp sq l w sR rest ∧ xs = [sR, s1, .ptr h.next 0, .ptr (h.next + 1) 0, .int .i64 i])
    (fun r => ∃ G, r = (1, [], G) ∧ Went h G) ?_ 30 _ G0 ⟨0, s0, .nilSlice, .nilSlice, [], b, 0, rfl, T0, rfl⟩
  · obtain ⟨r, e, G, rfl, W⟩ := key
    simp only [Int.cast_ofNat_Int] at e
    refine ⟨G, ?_, W⟩
    have n1 := new_eq h
    rw [c9]
    simp [S9, n1, e, G0, beq_dec]
  · rintro m xs G ⟨i, sR, sp, sq, l, rest, w, m1, T, rfl⟩
    have ln := I.len
    have lr := T.bs.len
    have hsz := T.sz
    by_cases h1 : i ≤ lc.length ∧ i < 30
    · left
      have i1 : (i : Int) ≤ (lc.length : Int) := by omega
      have i2 : (i : Int) < 30 := by omega
      have w1 : IntKind.i64.wrap ((i : Int) + 1) = ((i + 1 : Nat) : Int) := wrap_succ _ (by omega)
      -- behind the choice of the piece's length
      have fin : ∀ k : Nat, k ≤ rest.length → ∃ G2 sR' sp' sq' l' w', (((aSliceSl 1 sR none (some (.int .i64 k)) none).bind fun v20 => (E tbl 18 [.ptr h.next 0, v20] G).bind fun r21 => (aExtract 0 r21.1).bind fun v22 => (aExtract 1 r21.1).bind fun v23 => (aSliceSl 1 sR none (some (.int .i64 k)) none).bind fun v24 => (E tbl 21 [.ptr (h.next + 1) 0, v24] r21.2).bind fun r25 => (aExtract 0 r25.1).bind fun v26 => (aExtract 1 r25.1).bind fun v27 => (aSliceSl 1 sR (some (.int .i64 k)) none none).bind fun v28 => (aBin .neq .plain v23 v27).bind fun v29 =>
 (guardV v29 false
 ((aLen false v22).bind fun v30 =>
 (aLen false v26).bind fun v31 =>
 (aBin .neq .plain v30 v31).bind fun v32 =>
 some (0, [v32], r25.2))
 (some (0, [skipV], r25.2))).bind fun g33 =>
 (aPick v29 (.bool true) (g33.2.1.getD 0 .undef)).bind fun v34 =>
 (guardV v34 false
 ((E tbl 20 [.ptr h.next 0] g33.2.2).bind fun r35 =>
 (aNilchk (.ptr (h.next + 1) 0)).bind fun v36 =>
 (aFaddr 0 v36).bind fun v37 =>
 (aLoad r35.2 1 v37).bind fun c38 =>
 (fromCells false c38).bind fun v39 =>
 (aLen false v39).bind fun v40 =>
 (aBin .neq .plain r35.1 v40).bind fun v41 =>
 bif checkPairs [(16, logRd v37 1), (12, some (.ef [] g33.2.2 [] r35.2))] [(16, 12)] then some (0, [v41], r35.2) else none)
 (some (0, [skipV], g33.2.2))).bind fun g42 =>
 (aPick v34 (.bool true) (g42.2.1.getD 0 .undef)).bind fun v43 =>
 condV v43
 (some (2, [(.bool false)], g42.2.2))
 ((aLen false v22).bind fun v44 =>
 (loop (L9_1 (E tbl)) [v28, s1, .ptr h.next 0, .ptr (h.next + 1) 0, .int .i64 i, v22, v26, v44, (.int .i64 0)] g42.2.2).bind fun x56 =>
 bif Nat.beq x56.1 1 then (aBin .add .plain (x56.2.1.getD 4 .undef) (.int .i64 1)).bind fun v57 =>
 some (0, [(x56.2.1.getD 0 .undef), (x56.2.1.getD 1 .undef), (x56.2.1.getD 2 .undef), (x56.2.1.getD 3 .undef), v57], x56.2.2) else
 bif Nat.beq x56.1 2 then some (2, [(x56.2.1.getD 0 .undef)], x56.2.2) else
 none))) = some (0, [sR', s1, .ptr h.next 0, .ptr (h.next + 1) 0, .int .i64 ((i + 1 : Nat) : Int)], G2) ∧ Two h G2 h.next (h.next + 1) sp' sq' l' w' sR' (rest.drop k) := by
        intro k hk
        obtain ⟨sK, o1, G1, o2, G2, sR', sp', sq', k1, e1, e2, k2, O1, O2, T2⟩ := T.feeds k hk
        refine ⟨G2, sR', sp', sq', _, _, ?_, T2⟩
        have hf := feedP_len l w (rest.take k)
        have hkl : (rest.take k).length ≤ rest.length := by rw [List.length_take]; omega
        have sm := same_loop O1 O2 (by omega) sR' s1 (.ptr h.next 0) (.ptr (h.next + 1) 0) (.int .i64 i)
        have l1 := O1.len
        have l2 := O2.len
        have l3 := left_eq T2.tp
        have r0 := T2.tq.rd0
        have l4 := T2.tq.bs.len
        simp [k1, e1, e2, k2, l1, l2, l3, r0, l4, sm, w1, checkPairs_cons, beq_dec]
      by_cases h2 : i < lc.length
      · have i3 : (i : Int) < (lc.length : Int) := by omega
        obtain ⟨a, a1, a2⟩ := (I.mono fun c hc => T.went.old c (hs c hc)).at i h2
        generalize lc.getD i 0 = y at a2
        have e3 := within_ok y 0 rest.length G (by omega) (by omega) (by omega)
        have wi := within_in y 0 rest.length (by omega)
        obtain ⟨k, hk⟩ : ∃ k : Nat, within y 0 rest.length = (k : Int) := ⟨(within y 0 rest.length).toNat, by omega⟩
        rw [hk] at e3 wi
        obtain ⟨G2, sR', sp', sq', l', w', e4, T2⟩ := fin k (by omega)
        refine ⟨_, G2, ?_, m - 1, by omega, i + 1, sR', sp', sq', l', _, w', by omega, T2, rfl⟩
        rw [← e4]
        simp [L9_0, ln, lr, i1, i2, i3, a1, a2, e3, beq_dec]
      · have i3 : ¬ (i : Int) < (lc.length : Int) := by omega
        obtain ⟨G2, sR', sp', sq', l', w', e4, T2⟩ := fin rest.length (Nat.le_refl _)
        refine ⟨_, G2, ?_, m - 1, by omega, i + 1, sR', sp', sq', l', _, w', by omega, T2, rfl⟩
        rw [← e4]
        simp [L9_0, ln, lr, i1, i2, i3, beq_dec]
    · right
      refine ⟨0, [], G, ?_, G, rfl, T.went⟩
      by_cases h2 : i ≤ lc.length
      · have i1 : (i : Int) ≤ (lc.length : Int) := by omega
        have i2 : ¬ (i : Int) < 30 := by omega
        simp [L9_0, ln, i1, i2]
      · have i1 : ¬ (i : Int) ≤ (lc.length : Int) := by omega
        simp [L9_0, ln, i1]
end Go.Proofs.Ytmmfcgbcocmkgaa.Code
