/- Chapter 3: FrameBack. -/
import Derived.Test.YtmmfcgbcocmkgaaPure
namespace Go.Proofs.Ytmmfcgbcocmkgaa.Code
set_option linter.unusedSimpArgs false
set_option linter.unusedVariables false
open Go.Fw

/-- A stream beside what was there. -/
structure Beside (h G : Heap) (p : Nat) (sp : AVal) (l : List UInt8) (w : Nat) : Prop where
  went : Went h G
  st : St p G sp l w
  hp : h.next ≤ p

theorem Beside.feed {h G : Heap} {p : Nat} {sp x : AVal} {l b : List UInt8} {w : Nat} (T : Beside h G p sp l w) (X : Bs x G b) (hx : ∀ c, slBlk x = some c → c ≠ p) (hsz : l.length + b.length ≤ 4000000000000) :
    ∃ o G' s', E tbl 18 [.ptr p 0, x] G = some (.tuple [o, .int .i64 ((feedP l w b).2.1 : Nat)], G') ∧ Outs G.next G' o (feedP l w b).1 ∧ Beside h G' p s' (feedP l w b).2.2 (feedP l w b).2.1 ∧ Only p G G' ∧ ∀ c, slBlk s' = some c → slBlk sp = some c ∨ G.next ≤ c := by
  obtain ⟨o, G', s', e, O, T', On, hb⟩ := feed_ok T.st X hx hsz
  refine ⟨o, G', s', e, O, ⟨⟨Nat.le_trans T.went.next On.next, fun b hb => by rw [On.old b (Nat.lt_of_lt_of_le hb T.went.next) (by have := T.hp; omega), T.went.old b hb]⟩, T', T.hp⟩, On, hb⟩
theorem Beside.more {h G H : Heap} {p : Nat} {sp : AVal} {l : List UInt8} {w : Nat} (T : Beside h G p sp l w) (W : Went G H) : Beside h H p sp l w :=
  ⟨T.went.trans W, T.st.kept W.next fun b hb _ => W.old b hb, T.hp⟩

theorem bytes_loop {h G : Heap} {p : Nat} {sp f bs : AVal} {b : List UInt8} {n0 : Nat} (T : Beside h G p sp [] 0) (O : Own 1 f G n0 (frameB b).length (byteCells (frameB b))) (hp : p < n0) (hb : b.length ≤ 50) (B : Bs bs G b) (hbs : ∀ c, slBlk bs = some c → c ≠ p) (hsf : ∀ c, slBlk sp = some c → slBlk f ≠ some c) (x0 x1 x2 x5 : AVal) (n : Nat) (hn : n ≤ 5) :
    ∃ G' s', loop (L5_1 (E tbl)) [x0, x1, x2, .ptr p 0, .int .i64 n, x5, bs, f, .int .i64 (frameB b).length, .int .i64 0] G = some (1, [x0, x1, x2, .ptr p 0, .int .i64 ((n + 1 : Nat) : Int), x5, f], G') ∧ Beside h G' p s' [] 0 ∧ Only p G G' ∧ ∀ c, slBlk s' = some c → slBlk f ≠ some c := by
  have hlen : (frameB b).length = b.length + 8 := frameB_len b
  have key := loop_ok (f := L5_1 (E tbl)) (fun m xs H => ∃ (k : Nat) (s' : AVal), m + k = (frameB b).length ∧ k < (frameB b).length ∧ Beside h H p s' ((frameB b).take k) 0 ∧ Only p G H ∧ (∀ c, slBlk s' = some c → slBlk f ≠ some c) ∧ xs = [x0, x1, x2, .ptr p 0, .int .i64 n, x5, bs, f, .int .i64 (frameB b).length, .int .i64 k] ∨
      m = 0 ∧ k = (frameB b).length ∧ Beside h H p s' [] 0 ∧ Only p G H ∧ (∀ c, slBlk s' = some c → slBlk f ≠ some c) ∧ xs = [x0, x1, x2, .ptr p 0, .int .i64 ((n + 1 : Nat) : Int), x5, bs, f, .int .i64 (frameB b).length, .int .i64 k])
    (fun r => ∃ H s', r = (1, [x0, x1, x2, .ptr p 0, .int .i64 ((n + 1 : Nat) : Int), x5, f], H) ∧ Beside h H p s' [] 0 ∧ Only p G H ∧ ∀ c, slBlk s' = some c → slBlk f ≠ some c) ?_ (frameB b).length _ G ⟨0, sp, .inl ⟨rfl, by omega, by simpa using T, Only.refl _ _, hsf, rfl⟩⟩
  · obtain ⟨r, e, H, s', rfl, a⟩ := key
    simp only [Int.cast_ofNat_Int] at e
    exact ⟨H, s', e, a⟩
  · rintro m xs H ⟨k, s', ⟨m1, hk, TH, On, hsf', rfl⟩ | ⟨rfl, rfl, TH, On, hsf', rfl⟩⟩
    · left
      have i1 : (k : Int) < ((frameB b).length : Int) := by omega
      have w1 : IntKind.i64.wrap ((k : Int) + 1) = ((k + 1 : Nat) : Int) := wrap_succ _ (by omega)
      have wl : IntKind.i64.wrap (((frameB b).length : Int) - 1) = (((frameB b).length - 1 : Nat) : Int) := by rw [IntWalk.i64_in _ (by omega)]; omega
      have OH : Own 1 f H n0 (frameB b).length (byteCells (frameB b)) := O.kept On.next fun c hc => On.old c (O.blk c hc).2 (by have := (O.blk c hc).1; omega)
      have BH : Bs bs H b := Fw.Src.kept B On.next fun c hc => On.old c (B.blk c hc) (hbs c hc)
      have lf := OH.src.len
      obtain ⟨sk, e1, S1, _, sb⟩ := Bs.mid OH.src OH.room k (k + 1) (by omega) (by omega)
      have hsb : ∀ c, slBlk sk = some c → c ≠ p := fun c hc => by have := (OH.blk c (sb c hc)).1; omega
      have hpiece : (frameB b).take k ++ ((frameB b).drop k).take (k + 1 - k) = (frameB b).take (k + 1) := by
        rw [Nat.add_sub_cancel_left, List.take_add]
      obtain ⟨o, H2, s2, e2, O2, T2, On2, hb2⟩ := TH.feed S1 hsb (by rw [List.length_take, List.length_take, List.length_drop]; omega)
      have hsf2 : ∀ c, slBlk s2 = some c → slBlk f ≠ some c := fun c hc e => by
        rcases hb2 c hc with h' | h'
        · exact hsf' c h' e
        · have := (OH.blk c e).2; omega
      have hfd : feedP ((frameB b).take k) 0 (((frameB b).drop k).take (k + 1 - k)) = parse ((frameB b).take (k + 1)) := by
        unfold feedP
        rw [if_neg (by omega), hpiece]
      rw [hfd] at e2 O2 T2
      by_cases hlast : k + 1 < (frameB b).length
      · have hps := parse_short b (by omega) (k + 1) hlast
        rw [hps] at e2 O2 T2
        have ln := O2.len
        have i2 : ((k : Int) == (((frameB b).length - 1 : Nat) : Int)) = false := by simp only [beq_eq_false_iff_ne, ne_eq]; omega
        have wn : IntKind.i64.wrap (n : Int) = (n : Int) := IntWalk.i64_in _ (by omega)
        refine ⟨_, H2, ?_, m - 1, by omega, k + 1, s2, .inl ⟨by omega, hlast, T2, On.trans On2, hsf2, rfl⟩⟩
        simp only [List.length_nil, Int.cast_ofNat_Int] at ln
        simp only [Int.cast_ofNat_Int] at e2
        simp only [L5_1, List.getD_cons_zero, List.getD_cons_succ, bin_lss, i1, decide_true, Option.bind_some, cond_bool, cond_true, bin_add, w1, e1, e2, ext_0, ext_1, bin_neq, bne_self_eq_false, guard_bool, beq_self_eq_true, ln, bin_eql, lf, bin_sub, wl, i2]
        simp [wn]
      · have hk1 : k + 1 = (frameB b).length := by omega
        have hps := parse_one b (by omega)
        rw [hk1, List.take_length, hps] at e2 O2 T2
        have ln := O2.len
        obtain ⟨q, x, q1, q2, q3⟩ := O2.at 0 (by simp)
        have t1 := Fw.Src.text q3
        have t2 := Fw.Src.text (Fw.Src.kept BH On2.next fun c hc => On2.old c (BH.blk c hc) (hbs c hc))
        have i2 : ((k : Int) == (((frameB b).length - 1 : Nat) : Int)) = true := by simp only [beq_iff_eq]; omega
        have wn : IntKind.i64.wrap ((n : Int) + 1) = ((n + 1 : Nat) : Int) := wrap_succ _ (by omega)
        refine ⟨_, H2, ?_, 0, by omega, (frameB b).length, s2, .inr ⟨rfl, rfl, T2, On.trans On2, hsf2, rfl⟩⟩
        simp only [List.length_singleton, Int.cast_ofNat_Int] at ln
        simp only [Int.cast_ofNat_Int, List.getElem_cons_zero] at e2 q1 t1
        have w1' : ((k + 1 : Nat) : Int) = ((frameB b).length : Int) := by omega
        simp only [L5_1, List.getD_cons_zero, List.getD_cons_succ, bin_lss, i1, decide_true, Option.bind_some, cond_bool, cond_true, bin_add, w1, e1, e2, ext_0, ext_1, bin_neq, bne_self_eq_false, guard_bool, beq_self_eq_true, ln, bin_eql, lf, bin_sub, wl, i2]
        rw [w1']
        generalize ((n + 1 : Nat) : Int) = z at wn ⊢
        simp [q1, q2, t1, t2, wn]
    · right
      exact ⟨0, _, H, by simp [L5_1], H, s', rfl, TH, On, hsf'⟩
end Go.Proofs.Ytmmfcgbcocmkgaa.Code
namespace Go.Proofs.Ytmmfcgbcocmkgaa.Code
set_option linter.unusedSimpArgs false
set_option linter.unusedVariables false
open Go.Fw

theorem u8_turn (c t : UInt8) : c ^^^ (t ||| 1) ≠ c := by
  intro h
  have h1 : (c ^^^ (t ||| 1)) ^^^ c = c ^^^ c := by rw [h]
  rw [UInt8.xor_comm, ← UInt8.xor_assoc, UInt8.xor_self, UInt8.zero_xor] at h1
  have h2 : (t ||| 1) &&& 1 = 0 &&& 1 := by rw [h1]
  have h3 : (t ||| 1) &&& 1 = 1 := by
    apply UInt8.toNat_inj.1
    rw [UInt8.toNat_and, UInt8.toNat_or]
    have : ∀ n, n < 256 → (n ||| 1) &&& 1 = 1 := by decide +kernel
    exact this _ t.toNat_lt
  rw [h3] at h2
  exact absurd h2 (by decide)

theorem frameBack_true (h0 : Heap) {s : AVal} {R : List (AVal × List Int)} (I : Go.Fw.Rows .u8 s h0 R) (sz : R.length * 24 ≤ 140737488355328) (_ : ∀ x ∈ R, x.2.length * 1 ≤ 140737488355328)
    (at_ : Int) (_ : (Lit.int .i64 at_).wf = true) (turn : Int) (wt : (Lit.int .u8 turn).wf = true) : ∃ h', E tbl 5 [s, .int .i64 at_, .int .u8 turn] h0 = some (.bool true, h') := by
  obtain ⟨L, B, hL, _⟩ := I.bytes
  obtain ⟨t, rfl⟩ := u8_wf wt
  have ln := B.len
  have T0 : Beside h0 (h0.alloc [.nilSlice, .int .i64 0]) h0.next .nilSlice [] 0 := ⟨Went.alloc _ _, St.new h0, Nat.le_refl _⟩
  have key := loop_ok (f := L5_0 (E tbl)) (fun m xs G => ∃ (i : Nat) (sp : AVal), m + i = 5 ∧ i ≤ L.length ∧ Beside h0 G h0.next sp [] 0 ∧ xs = [s, .int .i64 at_, .int .u8 (t.toNat : Int), .ptr h0.next 0, .int .i64 i, .int .i64 i])
    (fun r => ∃ (i : Nat) (sp : AVal) (G : Heap), i = min L.length 5 ∧ Beside h0 G h0.next sp [] 0 ∧ r = (1, [s, .ptr h0.next 0, .int .i64 i], G)) ?_ 5 _ _ ⟨0, .nilSlice, rfl, by omega, T0, rfl⟩
  · obtain ⟨r, e, i, sp, G, hi, T, rfl⟩ := key
    have e4 := left_eq T.st
    obtain ⟨H, e5, _⟩ := known_ok G
    have n1 := new_eq h0
    have lnG := (B.went T.went).len
    have hmin : min (L.length : Int) 5 = (i : Int) := by omega
    refine ⟨H, ?_⟩
    simp only [Int.cast_ofNat_Int, List.length_nil] at e e4
    rw [c5]
    simp [S5, n1, e, lnG, hmin, e4, e5, beq_dec]
  · rintro m xs G ⟨i, sp, m1, hi, T, rfl⟩
    have lnG := (B.went T.went).len
    by_cases h1 : i < L.length ∧ i < 5
    · left
      have i1 : (i : Int) < (L.length : Int) := by omega
      have i2 : (i : Int) < 5 := by omega
      have w1 : IntKind.i64.wrap ((i : Int) + 1) = ((i + 1 : Nat) : Int) := wrap_succ _ (by omega)
      obtain ⟨p, e1, e2, S, RR⟩ := (B.went T.went).at i h1.1
      have lb := S.len
      have slt : ∀ c, slBlk L[i].1 = some c → c < h0.next := fun c hc => (B.2 _ (List.getElem_mem h1.1)).1.blk c hc
      have fin : ∀ {x : AVal} {b : List UInt8}, Bs x G b → b.length ≤ 50 → (∀ c, slBlk x = some c → c < h0.next) → ∃ G' sp', (((E tbl 12 [x] G).bind fun r15 => (aExtract 0 r15.1).bind fun v16 => (aExtract 1 r15.1).bind fun v17 => (aBin .neq .plain v17 (.int .i64 0)).bind fun v18 =>
 (guardV v18 false
 ((aLen false v16).bind fun v19 =>
 (aLen false x).bind fun v20 =>
 (aBin .add .plain v20 (.int .i64 8)).bind fun v21 =>
 (aBin .neq .plain v19 v21).bind fun v22 =>
 some (0, [v22], r15.2))
 (some (0, [skipV], r15.2))).bind fun g23 =>
 (aPick v18 (.bool true) (g23.2.1.getD 0 .undef)).bind fun v24 =>
 condV v24
 (some (2, [(.bool false)], g23.2.2))
 ((aLen false v16).bind fun v25 =>
 (loop (L5_1 (E tbl)) [s, .int .i64 at_, .int .u8 (t.toNat : Int), .ptr h0.next 0, .int .i64 i, .int .i64 i, x, v16, v25, (.int .i64 0)] g23.2.2).bind fun x56 =>
 bif Nat.beq x56.1 1 then (aLen false (x56.2.1.getD 6 .undef)).bind fun v57 =>
 (aBin .sub .plain v57 (.int .i64 5)).bind fun v58 =>
 (E tbl 16 [(x56.2.1.getD 1 .undef), (.int .i64 0), v58] x56.2.2).bind fun r59 =>
 (aBin .add .plain (.int .i64 4) r59.1).bind fun v60 =>
 (aIaddr 1 (x56.2.1.getD 6 .undef) v60).bind fun v61 =>
 (aLoad r59.2 1 v61).bind fun c62 =>
 (fromCells false c62).bind fun v63 =>
 (aBin .or .plain (x56.2.1.getD 2 .undef) (.int .u8 1)).bind fun v64 =>
 (aBin .xor .plain v63 v64).bind fun v65 =>
 (aIaddr 1 (x56.2.1.getD 6 .undef) v60).bind fun v66 =>
 (aCells 1 v65).bind fun c67 =>
 (aStore r59.2 v66 c67).bind fun h68 =>
 (E tbl 19 [(x56.2.1.getD 6 .undef)] h68).bind fun r69 =>
 (aExtract 0 r69.1).bind fun v70 =>
 (aExtract 1 r69.1).bind fun v71 =>
 (aBin .neq .plain v71 (.int .i64 13)).bind fun v72 =>
 condV v72
 (some (2, [(.bool false)], r69.2))
 ((aBin .add .plain (x56.2.1.getD 5 .undef) (.int .i64 1)).bind fun v73 =>
 some (0, [(x56.2.1.getD 0 .undef), (x56.2.1.getD 1 .undef), (x56.2.1.getD 2 .undef), (x56.2.1.getD 3 .undef), (x56.2.1.getD 4 .undef), v73], r69.2)) else
 bif Nat.beq x56.1 2 then some (2, [(x56.2.1.getD 0 .undef)], x56.2.2) else
 none)) = some (0, [s, .int .i64 at_, .int .u8 (t.toNat : Int), .ptr h0.next 0, .int .i64 ((i + 1 : Nat) : Int), .int .i64 ((i + 1 : Nat) : Int)], G')) ∧ Beside h0 G' h0.next sp' [] 0 := by
        intro x b Sx hb hx
        obtain ⟨f, G1, e3, F1⟩ := bytes_eq Sx (by omega)
        have lf := F1.own.src.len
        have lx := Sx.len
        have hp := T.st.lt
        have hlen : (frameB b).length = b.length + 8 := frameB_len b
        have w8 : IntKind.i64.wrap ((b.length : Int) + 8) = ((frameB b).length : Int) := by rw [IntWalk.i64_in _ (by omega)]; omega
        obtain ⟨G2, sp2, e4, T2, On2, hsf2⟩ := bytes_loop (T.more F1.went) F1.own hp hb (F1.went.src Sx) (fun c hc => by have := hx c hc; omega) (fun c hc e => by
          have := T.st.bs.blk c hc; have := (F1.own.blk c e).1; omega) s (.int .i64 at_) (.int .u8 (t.toNat : Int)) (.int .i64 i) i (by omega)
        have F2o : Own 1 f G2 G.next (frameB b).length (byteCells (frameB b)) := F1.own.kept On2.next fun c hc => On2.old c (F1.own.blk c hc).2 (by have := (F1.own.blk c hc).1; omega)
        have lf2 := F2o.src.len
        have w5 : IntKind.i64.wrap (((frameB b).length : Int) - 5) = (((frameB b).length - 5 : Nat) : Int) := by rw [IntWalk.i64_in _ (by omega)]; omega
        have e5 := within_ok at_ 0 (((frameB b).length - 5 : Nat) : Int) G2 (by omega) (by omega) (by omega)
        have wi := within_in at_ 0 (((frameB b).length - 5 : Nat) : Int) (by omega)
        obtain ⟨k, hk⟩ : ∃ k : Nat, within at_ 0 (((frameB b).length - 5 : Nat) : Int) = (k : Int) := ⟨(within at_ 0 (((frameB b).length - 5 : Nat) : Int)).toNat, by omega⟩
        rw [hk] at e5 wi
        have w4 : IntKind.i64.wrap (4 + (k : Int)) = ((4 + k : Nat) : Int) := by rw [IntWalk.i64_in _ (by omega)]; omega
        -- f's own place in memory, behind an empty heap
        have Fz : Fresh ⟨G.next, fun c => if c < G.next then G2.blk c else none⟩ f G2 (frameB b) := ⟨F2o, ⟨by have := F1.went.next; have := On2.next; show G.next ≤ _; omega, fun c hc => by
          have hc' : c < G.next := hc
          show _ = if c < G.next then G2.blk c else none
          rw [if_pos hc']⟩⟩
        obtain ⟨q, G3, q1, q2, q3, F3, n3, f3⟩ := Fz.set (4 + k) (by omega) ((frameB b)[4 + k]'(by omega) ^^^ (t ||| 1))
        obtain ⟨o4, G4, e6, F4⟩ := one_eq F3.bs F3.own.room (by rw [List.length_set]; omega)
        rw [turned_one b (by omega) (4 + k) (by omega) (by omega) _ (u8_turn _ _)] at e6
        have o1 := Go.Fw.u8_or t 1
        have x1 := Go.Fw.u8_xor ((frameB b)[4 + k]'(by omega)) (t ||| 1)
        have o1' : aBin .or .plain (.int .u8 (t.toNat : Int)) (.int .u8 1) = some (.int .u8 ((t ||| 1).toNat : Int)) := o1
        have hff : ∀ c, slBlk f = some c → G.next ≤ c := fun c hc => (F2o.blk c hc).1
        refine ⟨G4, sp2, ?_, ?_⟩
        · simp only [Int.cast_ofNat_Int] at e6
          have hcv : ∀ y : UInt8, aCells 1 (.int .u8 (y.toNat : Int)) = some [.int .u8 (y.toNat : Int)] := fun _ => rfl
          simp only [e3, Option.bind_some, ext_0, ext_1, bin_neq, bne_self_eq_false, guard_bool, beq_self_eq_true, cond_true, lf, lx, bin_add, w8, List.getD_cons_zero, List.getD_cons_succ, pick_bool, cond_false, cond_bool, e4, Nat.beq_refl, lf2, bin_sub, w5, e5, w4, q1, q2, from_one, o1', x1, hcv, q3, e6, w1]
        · refine Beside.more ⟨⟨by rw [n3]; exact T2.went.next, fun c hc => ?_⟩, T2.st.kept (by rw [n3]; exact Nat.le_refl _) fun c _ hor => f3 c fun e => ?_, T2.hp⟩ F4.went
          · rw [f3 c fun e => by have := hff c e; have := T.went.next; omega, T2.went.old c hc]
          · rcases hor with h' | h'
            · have := hff c e; omega
            · exact hsf2 c h' e
      by_cases h50 : 50 < L[i].2.length
      · have i3 : (50 : Int) < (L[i].2.length : Int) := by omega
        obtain ⟨x, e3, S3, _, b3⟩ := S.pre RR 50 (by omega)
        obtain ⟨G', sp', e4, T'⟩ := fin S3 (by rw [List.length_take]; omega) fun c hc => slt c (b3 c hc)
        simp only [Int.cast_ofNat_Int] at e3
        refine ⟨_, G', ?_, m - 1, by omega, i + 1, sp', by omega, by omega, T', rfl⟩
        rw [← e4]
        simp [L5_0, lnG, i1, i2, e1, e2, lb, i3, e3, beq_dec]
      · have i3 : ¬ (50 : Int) < (L[i].2.length : Int) := by omega
        obtain ⟨G', sp', e4, T'⟩ := fin S (by omega) slt
        refine ⟨_, G', ?_, m - 1, by omega, i + 1, sp', by omega, by omega, T', rfl⟩
        rw [← e4]
        simp [L5_0, lnG, i1, i2, e1, e2, lb, i3, beq_dec]
    · right
      refine ⟨0, _, G, ?_, i, sp, G, by omega, T, rfl⟩
      by_cases h2 : i < L.length
      · have i1 : (i : Int) < (L.length : Int) := by omega
        have i2 : ¬ (i : Int) < 5 := by omega
        simp [L5_0, lnG, i1, i2]
      · have i1 : ¬ (i : Int) < (L.length : Int) := by omega
        simp [L5_0, lnG, i1]
end Go.Proofs.Ytmmfcgbcocmkgaa.Code
