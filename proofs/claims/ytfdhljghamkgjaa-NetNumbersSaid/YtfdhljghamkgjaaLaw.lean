/- Chapter 8: what the functions answer. -/
import Derived.Test.YtfdhljghamkgjaaCode
import Derived.Test.YtfdhljghamkgjaaFwZm
namespace Go.Proofs.Ytfdhljghamkgjaa.Code
set_option linter.unusedSimpArgs false
set_option linter.unusedVariables false
open Go.Fw

structure Lt where
  f : Int
  t : Int
  s : AVal
  b : List UInt8

def lcells : List Lt → List AVal
  | [] => []
  | x :: r => .int .i64 x.f :: .int .i64 x.t :: x.s :: lcells r
@[simp] theorem lcells_len : ∀ l : List Lt, (lcells l).length = l.length * 3
  | [] => rfl
  | x :: r => by simp [lcells, lcells_len r]; omega
theorem lcells_app : ∀ l m : List Lt, lcells (l ++ m) = lcells l ++ lcells m
  | [], _ => rfl
  | x :: r, m => by simp [lcells, lcells_app r m]
theorem lcells_drop : ∀ (l : List Lt) (i : Nat), (lcells l).drop (i * 3) = lcells (l.drop i)
  | l, 0 => by simp
  | [], i + 1 => by simp [lcells]
  | x :: r, i + 1 => by
    rw [show (i + 1) * 3 = i * 3 + 1 + 1 + 1 by omega, lcells, List.drop_succ_cons, List.drop_succ_cons, List.drop_succ_cons, lcells_drop r i, List.drop_succ_cons]
theorem lcells_take : ∀ (l : List Lt) (i : Nat), (lcells l).take (i * 3) = lcells (l.take i)
  | l, 0 => by simp [lcells]
  | [], i + 1 => by simp [lcells]
  | x :: r, i + 1 => by
    rw [show (i + 1) * 3 = i * 3 + 1 + 1 + 1 by omega, lcells, List.take_succ_cons, List.take_succ_cons, List.take_succ_cons, lcells_take r i, List.take_succ_cons, lcells]
theorem lcells_erase (l : List Lt) (i : Nat) : (lcells l).take (i * 3) ++ (lcells l).drop ((i + 1) * 3) = lcells (l.eraseIdx i) := by
  rw [lcells_take, lcells_drop, ← lcells_app, List.eraseIdx_eq_take_drop_succ]

abbrev net0 (nodes : Int) (sl : AVal) (ap : Nat → Nat → Bool) : List AVal := .int .i64 nodes :: sl :: grid 6 ap

structure NetAt (h0 : Heap) (p : Nat) (sl : AVal) (H : Heap) (nodes : Int) (l : List Lt) (ap : Nat → Nat → Bool) : Prop where
  n : 1 ≤ nodes ∧ nodes ≤ 6
  lt : p < H.next
  p0 : h0.next ≤ p
  went : Went h0 H
  blk : H.blk p = some ⟨net0 nodes sl ap, true⟩
  buf : Buf 3 sl H h0.next l.length (lcells l)
  ne : ∀ b, slBlk sl = some b → b ≠ p
  own : ∀ x ∈ l, Src 1 x.s H x.b.length (byteCells x.b) ∧ ∀ c, slBlk x.s = some c → c ≠ p ∧ slBlk sl ≠ some c

theorem NetAt.more {h0 : Heap} {p : Nat} {sl : AVal} {H H' : Heap} {nodes : Int} {l : List Lt} {ap : Nat → Nat → Bool} (N : NetAt h0 p sl H nodes l ap) (W : Went H H') : NetAt h0 p sl H' nodes l ap :=
  ⟨N.n, Nat.lt_of_lt_of_le N.lt W.next, N.p0, N.went.trans W, by rw [W.old _ N.lt]; exact N.blk, N.buf.kept W.next fun b hb => W.old b (N.buf.blk b hb).2, N.ne, fun x hx => ⟨W.src (N.own x hx).1, (N.own x hx).2⟩⟩

theorem within_ok : WithinOk (E tbl) 11 := by
  intro a lo hi h h0 h1 h2
  rw [c11]
  rw [show S11 = withinS from rfl, withinS_eq _ a lo hi (by omega) h1 (by omega)]
  rfl

theorem clone_eq {s : AVal} {h : Heap} {b : List UInt8} (S : Src 1 s h b.length (byteCells b)) (hb : b.length ≤ 140737488355328) : ∃ o h', E tbl 29 [s] h = some (o, h') ∧ Own 1 o h' h.next b.length (byteCells b) ∧ Went h h' := by
  obtain ⟨o, h', e, O, W⟩ := clone_of (bytes := 1) (zero := [.int .u8 0]) S (by omega) (by omega) (by omega)
  refine ⟨o, h', ?_, O, W⟩
  have e2 : S29 (E tbl) s h = cloneS 1 1 [.int .u8 0] s h := rfl
  rw [c29, e2, e]
  rfl

theorem own_eq {f t : Int} {s : AVal} {h : Heap} {b : List UInt8} (S : Src 1 s h b.length (byteCells b)) (hb : b.length ≤ 140737488355328) : ∃ o h', E tbl 17 [.agg [.int .i64 f, .int .i64 t, s]] h = some (.agg [.int .i64 f, .int .i64 t, o], h') ∧ Own 1 o h' h.next b.length (byteCells b) ∧ Went h h' := by
  obtain ⟨o, h', e, O, W⟩ := clone_eq S hb
  refine ⟨o, h', ?_, O, W⟩
  rw [c17]
  simp [S17, e, O.cell]

theorem new_eq (h : Heap) (nodes : Int) (hn : 1 ≤ nodes ∧ nodes ≤ 6) : ∃ H, E tbl 6 [.int .i64 nodes] h = some (.ptr h.next 0, H) ∧ NetAt h h.next .nilSlice H nodes [] (fun _ _ => false) ∧ H.next = h.next + 1 := by
  have a1 : ¬ nodes < 1 := by omega
  have a2 : ¬ 6 < nodes := by omega
  refine ⟨h.alloc (net0 nodes .nilSlice fun _ _ => false), ?_, ⟨hn, by simp, Nat.le_refl _, Went.alloc _ _, by simp, Buf.nil _ _ _, (fun b hb => by cases hb), (fun x hx => by cases hx)⟩, by simp⟩
  rw [c6]
  simp only [S6, bin_lss, a1, decide_false, Option.bind_some, guard_bool, show (false == false) = true from rfl, cond_true, bin_gtr, gt_iff_lt, a2, pick_bool, cond_false, List.getD_cons_zero, cond_bool, aFill_cons, aFill_nil, aCells_int, List.length_cons, List.length_nil, Nat.zero_add, Nat.reduceAdd, Nat.reduceLeDiff, if_pos, splice_t, splice_n, cellsQ_agg, ans_one]
  rfl

theorem new_no (h : Heap) : E tbl 6 [.int .i64 0] h = some (.nilPtr, h) := by
  rw [c6]; simp [S6]

section
variable {h0 : Heap} {p : Nat} {sl : AVal} {H : Heap} {nodes : Int} {l : List Lt} {ap : Nat → Nat → Bool}

theorem NetAt.rd0 (N : NetAt h0 p sl H nodes l ap) : H.rd p 0 1 = some [.int .i64 nodes] := by rw [rd_of N.blk 0 1 (by simp)]; rfl
theorem NetAt.rd1 (N : NetAt h0 p sl H nodes l ap) : H.rd p 1 1 = some [sl] := by rw [rd_of N.blk 1 1 (by simp)]; rfl
theorem NetAt.rdg (N : NetAt h0 p sl H nodes l ap) {a b : Nat} (ha : a < 6) (hb : b < 6) : H.rd p (2 + a * 6 + b) 1 = some [.bool (ap a b)] := by
  rw [rd_bind, N.blk]
  simp only [Option.bind_some]
  have e : (net0 nodes sl ap)[2 + a * 6 + b]? = some (.bool (ap a b)) := by
    rw [show 2 + a * 6 + b = (a * 6 + b) + 1 + 1 by omega, List.getElem?_cons_succ, List.getElem?_cons_succ]
    exact grid_at ap ha hb
  exact rdL_one e

def inN (nodes i : Int) : Bool := decide (0 ≤ i) && decide (i < nodes)

theorem node_eq (N : NetAt h0 p sl H nodes l ap) (i : Int) : E tbl 16 [.ptr p 0, .int .i64 i] H = some (.bool (inN nodes i), H) := by
  have r0 := N.rd0
  rw [c16]
  by_cases h1 : 0 ≤ i <;> simp [S16, r0, inN, h1]

theorem there_eq (N : NetAt h0 p sl H nodes l ap) (i : Int) : E tbl 18 [.ptr p 0, .int .i64 i] H = some (.bool (inN l.length i), H) := by
  have r1 := N.rd1
  have ln := N.buf.src.len
  rw [c18]
  by_cases h1 : 0 ≤ i <;> simp [S18, r1, ln, inN, h1]

theorem len_eq (N : NetAt h0 p sl H nodes l ap) : E tbl 9 [.ptr p 0] H = some (.int .i64 l.length, H) := by
  have r1 := N.rd1
  have ln := N.buf.src.len
  rw [c9]
  simp [S9, r1, ln]

def isP (nodes : Int) (ap : Nat → Nat → Bool) (a b : Int) : Bool := inN nodes a && inN nodes b && ap a.toNat b.toNat

theorem idx_nat {n : Nat} (i : Int) (h0 : 0 ≤ i) (h1 : i < n) : aIdx n (.int .i64 i) = some i.toNat := aIdx_of n .i64 i h0 h1

theorem parted_eq (N : NetAt h0 p sl H nodes l ap) (a b : Int) : E tbl 13 [.ptr p 0, .int .i64 a, .int .i64 b] H = some (.bool (isP nodes ap a b), H) := by
  have q1 := node_eq N a
  have q2 := node_eq N b
  obtain ⟨n1, n2⟩ := N.n
  rw [c13]
  unfold isP
  cases ha : inN nodes a
  · rw [ha] at q1; simp [S13, q1]
  · rw [ha] at q1
    cases hb : inN nodes b
    · rw [hb] at q2; simp [S13, q1, q2]
    · rw [hb] at q2
      simp only [inN, Bool.and_eq_true, decide_eq_true_eq] at ha hb
      have i1 := idx_nat (n := 6) a ha.1 (by omega)
      have i2 := idx_nat (n := 6) b hb.1 (by omega)
      have r := N.rdg (a := a.toNat) (b := b.toNat) (by omega) (by omega)
      simp [S13, q1, q2, aIaddrA, i1, i2, r]

theorem set_ok (N : NetAt h0 p sl H nodes l ap) (a b : Int) (v : Bool) (ha : inN nodes a = true) (hb : inN nodes b = true) (hab : a ≠ b) :
    ∃ H', E tbl 22 [.ptr p 0, .int .i64 a, .int .i64 b, .bool v] H = some (.int .i64 0, H') ∧ NetAt h0 p sl H' nodes l (upd (upd ap a.toNat b.toNat v) b.toNat a.toNat v) ∧ Fr p .nilSlice H H' ∧ H'.next = H.next := by
  have q1 := node_eq N a
  have q2 := node_eq N b
  rw [ha] at q1
  rw [hb] at q2
  obtain ⟨n1, n2⟩ := N.n
  simp only [inN, Bool.and_eq_true, decide_eq_true_eq] at ha hb
  have i1 := idx_nat (n := 6) a ha.1 (by omega)
  have i2 := idx_nat (n := 6) b hb.1 (by omega)
  have wr (G : Heap) (f : Nat → Nat → Bool) (x y : Nat) (hx : x < 6) (hy : y < 6) (hG : G.blk p = some ⟨net0 nodes sl f, true⟩) : G.wr p (2 + x * 6 + y) [.bool v] = some (G.setBlk p (some ⟨net0 nodes sl (upd f x y v), true⟩)) := by
    rw [wr_of hG _ _ (by simp; omega), splice_set (by simp; omega), show 2 + x * 6 + y = (x * 6 + y) + 1 + 1 by omega, List.set_cons_succ, List.set_cons_succ, grid_set f hx hy]
  have w1 := wr H ap a.toNat b.toNat (by omega) (by omega) N.blk
  have w2 := wr (H.setBlk p (some ⟨net0 nodes sl (upd ap a.toNat b.toNat v), true⟩)) _ b.toNat a.toNat (by omega) (by omega) (setBlk_same _ _ _)
  rw [setBlk_twice] at w2
  refine ⟨H.setBlk p (some ⟨net0 nodes sl (upd (upd ap a.toNat b.toNat v) b.toNat a.toNat v), true⟩), ?_, ⟨N.n, N.lt, N.p0, ⟨N.went.next, fun i hi => by rw [setBlk_ne _ _ (by have := N.p0; omega)]; exact N.went.old i hi⟩, setBlk_same _ _ _, N.buf.kept (Nat.le_refl _) fun c hc => setBlk_ne _ _ (N.ne c hc), N.ne, fun x hx => ⟨(N.own x hx).1.kept (Nat.le_refl _) fun c hc => setBlk_ne _ _ ((N.own x hx).2 c hc).1, (N.own x hx).2⟩⟩, ⟨Nat.le_refl _, fun c _ hc _ => setBlk_ne _ _ hc⟩, rfl⟩
  rw [c22]
  have hab' : (a == b) = false := by simpa using hab
  simp [S22, q1, q2, hab', aIaddrA, i1, i2, w1, w2]

theorem set_no (N : NetAt h0 p sl H nodes l ap) (a b : Int) (v : Bool) (hn : ¬ (inN nodes a = true ∧ inN nodes b = true ∧ a ≠ b)) :
    E tbl 22 [.ptr p 0, .int .i64 a, .int .i64 b, .bool v] H = some (.int .i64 23, H) := by
  have q1 := node_eq N a
  have q2 := node_eq N b
  rw [c22]
  cases ha : inN nodes a
  · rw [ha] at q1; simp [S22, q1]
  · rw [ha] at q1
    cases hb : inN nodes b
    · rw [hb] at q2; simp [S22, q1, q2]
    · rw [hb] at q2
      have : a = b := Classical.byContradiction fun e => hn ⟨ha, hb, e⟩
      simp [S22, q1, q2, this]

theorem send_ok (N : NetAt h0 p sl H nodes l ap) {f t : Int} {s : AVal} {b : List UInt8} (S : Src 1 s H b.length (byteCells b)) (hb : b.length ≤ 140737488355328) (hf : inN nodes f = true) (ht : inN nodes t = true) (hl : l.length < 64) :
    ∃ s' sl' H', E tbl 7 [.ptr p 0, .agg [.int .i64 f, .int .i64 t, s]] H = some (.int .i64 0, H') ∧ NetAt h0 p sl' H' nodes (l ++ [⟨f, t, s', b⟩]) ap ∧ Fr p sl H H' ∧ (∀ c, slBlk sl' = some c → slBlk sl = some c ∨ H.next ≤ c) ∧ ∀ c, slBlk s' = some c → H.next ≤ c := by
  have q1 := node_eq N f
  have q2 := node_eq N t
  rw [hf] at q1
  rw [ht] at q2
  obtain ⟨o, H1, e1, O1, W1⟩ := own_eq (f := f) (t := t) S hb
  have N1 := N.more W1
  have hp0 := N.p0
  have hw := N.went.next
  have hw1 := W1.next
  obtain ⟨sl', H2, e2, B2, K2⟩ := N1.buf.snoc (bytes := 40) (zero := [.int .i64 0, .int .i64 0, .nilSlice]) (news := [.int .i64 f, .int .i64 t, o]) (by omega) rfl (by omega) (by omega) (by omega)
  have hk := K2.next
  have hne : ∀ c, slBlk sl' = some c → c ≠ p := fun c hc => by
    rcases K2.blk c hc with h1 | h1
    · exact N.ne c h1
    · have := N.lt; omega
  have b2 : H2.blk p = some ⟨net0 nodes sl ap, true⟩ := by
    rw [K2.old p N1.lt (fun e => N.ne p e rfl)]; exact N1.blk
  have wr2 : H2.wr p 1 [sl'] = some (H2.setBlk p (some ⟨net0 nodes sl' ap, true⟩)) := by
    rw [wr_of b2 1 _ (by simp)]; rfl
  have hoff : ∀ c, slBlk sl' = some c → slBlk sl = some c ∨ H1.next ≤ c := K2.blk
  have r1 := N.rd1
  have ln := N.buf.src.len
  have full : ¬ 64 ≤ (l.length : Int) := by omega
  have r1' := N1.rd1
  have hpn : ¬ p = H1.next := by have := N1.lt; omega
  refine ⟨o, sl', H2.setBlk p (some ⟨net0 nodes sl' ap, true⟩), ?_, ⟨N.n, by rw [setBlk_next]; have := N1.lt; omega, N.p0, ?_, setBlk_same _ _ _, ?_, hne, ?_⟩, ?_, fun c hc => (hoff c hc).imp id fun h => by omega, fun c hc => (O1.blk c hc).1⟩
  · rw [c7]
    simp [S7, q1, q2, r1, ln, full, e1, e2, B2.cell, wr2, checkPairs, stays, r1', hpn, beq_dec]
  · have W2 : Went h0 H2 := K2.went N1.went fun c hc => (N1.buf.blk c hc).1
    exact ⟨by rw [setBlk_next]; exact W2.next, fun i hi => by rw [setBlk_ne _ _ (by omega)]; exact W2.old i hi⟩
  · rw [lcells_app, List.length_append]
    exact B2.kept (by rw [setBlk_next]; exact Nat.le_refl _) fun c hc => setBlk_ne _ _ (hne c hc)
  · have keepS : ∀ {x : AVal} {m : Nat} {cells : List AVal}, Src 1 x H1 m cells → (∀ c, slBlk x = some c → c ≠ p ∧ slBlk sl ≠ some c) → Src 1 x (H2.setBlk p (some ⟨net0 nodes sl' ap, true⟩)) m cells := by
      intro x m cells Sx hx
      refine Sx.kept (by rw [setBlk_next]; exact hk) fun c hc => ?_
      rw [setBlk_ne _ _ (hx c hc).1, K2.old c (Sx.blk c hc) (hx c hc).2]
    intro x hx
    rcases List.mem_append.1 hx with hx | hx
    · obtain ⟨S1, S2⟩ := N1.own x hx
      refine ⟨keepS S1 S2, fun c hc => ⟨(S2 c hc).1, fun e => ?_⟩⟩
      rcases hoff c e with h1 | h1
      · exact (S2 c hc).2 h1
      · have := S1.blk c hc; omega
    · rw [List.mem_singleton.1 hx]
      have hob : ∀ c, slBlk o = some c → H.next ≤ c ∧ c < H1.next := O1.blk
      refine ⟨keepS O1.src fun c hc => ⟨by have := hob c hc; have := N.lt; omega, fun e => by have := (N.buf.blk c e).2; have := hob c hc; omega⟩, fun c hc => ⟨by have := hob c hc; have := N.lt; omega, fun e => ?_⟩⟩
      rcases hoff c e with h1 | h1
      · have := (N.buf.blk c h1).2; have := hob c hc; omega
      · have := hob c hc; omega
  · refine ⟨by rw [setBlk_next]; omega, fun c hc hcp hcs => ?_⟩
    rw [setBlk_ne _ _ hcp, K2.old c (by omega) hcs, W1.old c hc]

theorem send_full (N : NetAt h0 p sl H nodes l ap) {f t : Int} {s : AVal} (hf : inN nodes f = true) (ht : inN nodes t = true) (hl : 64 ≤ l.length) :
    E tbl 7 [.ptr p 0, .agg [.int .i64 f, .int .i64 t, s]] H = some (.int .i64 24, H) := by
  have q1 := node_eq N f
  have q2 := node_eq N t
  rw [hf] at q1
  rw [ht] at q2
  have r1 := N.rd1
  have ln := N.buf.src.len
  have full : 64 ≤ (l.length : Int) := by omega
  rw [c7]
  simp [S7, q1, q2, r1, ln, full]

theorem send_no (N : NetAt h0 p sl H nodes l ap) {f t : Int} {s : AVal} (hn : ¬ (inN nodes f = true ∧ inN nodes t = true)) :
    E tbl 7 [.ptr p 0, .agg [.int .i64 f, .int .i64 t, s]] H = some (.int .i64 23, H) := by
  have q1 := node_eq N f
  have q2 := node_eq N t
  rw [c7]
  cases hf : inN nodes f
  · rw [hf] at q1; simp [S7, q1]
  · rw [hf] at q1
    cases ht : inN nodes t
    · rw [ht] at q2; simp [S7, q1, q2]
    · exact (hn ⟨hf, ht⟩).elim

theorem NetAt.letter (N : NetAt h0 p sl H nodes l ap) (i : Nat) (hi : i < l.length) : ∃ q o, aIaddr 3 sl (.int .i64 i) = some (.ptr q o) ∧ H.rd q o 3 = some [.int .i64 l[i].f, .int .i64 l[i].t, l[i].s] ∧ H.rd q o 1 = some [.int .i64 l[i].f] ∧ H.rd q (o + 1) 1 = some [.int .i64 l[i].t] := by
  obtain ⟨q0, e1, e2⟩ := N.buf.src.at i hi
  rw [lcells_drop, List.drop_eq_getElem_cons hi] at e2
  obtain ⟨q, o, rfl⟩ : ∃ q o, q0 = .ptr q o := by
    cases q0 <;> simp [aLoad] at e2
    exact ⟨_, _, rfl⟩
  have e3 : H.rd q o 3 = some [.int .i64 l[i].f, .int .i64 l[i].t, l[i].s] := e2
  refine ⟨q, o, e1, e3, ?_, ?_⟩
  · obtain ⟨x, hx, hlx, hcs⟩ := rd_inv e3
    rw [rd_of hx _ _ (by omega)]
    have : (x.cells.drop o).take 1 = ((x.cells.drop o).take 3).take 1 := by rw [List.take_take]; rfl
    rw [this, ← hcs]; rfl
  · obtain ⟨x, hx, hlx, hcs⟩ := rd_inv e3
    rw [rd_of hx _ _ (by omega)]
    have : (x.cells.drop (o + 1)).take 1 = (((x.cells.drop o).take 3).drop 1).take 1 := by
      rw [List.drop_take, List.drop_drop, List.take_take]; rfl
    rw [this, ← hcs]; rfl

theorem del_eq {s : AVal} {G : Heap} {n0 m : Nat} {cells : List AVal} (O : Buf 3 s G n0 m cells) (i : Nat) (hi : i < m) (hm : m ≤ 1000) :
    ∃ s' h', E tbl 19 [s, .int .i64 i, .int .i64 ((i : Int) + 1)] G = some (s', h') ∧ Buf 3 s' h' n0 (m - 1) (cells.take (i * 3) ++ cells.drop ((i + 1) * 3)) ∧ slBlk s' = slBlk s ∧ h'.next = G.next ∧ ∀ b, slBlk s ≠ some b → h'.blk b = G.blk b := by
  obtain ⟨s', h', e, x⟩ := delete_of (bytes := 40) (zero := [.int .i64 0, .int .i64 0, .nilSlice]) O rfl (by omega) i hi (by omega) (by omega)
  refine ⟨s', h', ?_, x⟩
  have e2 : S19 (E tbl) s (.int .i64 i) (.int .i64 ((i : Int) + 1)) G = deleteS 3 40 [.int .i64 0, .int .i64 0, .nilSlice] s (.int .i64 i) (.int .i64 ((i : Int) + 1)) G := rfl
  rw [c19, e2, e]
  rfl

/-- A letter is taken out of the row. -/
theorem NetAt.out (N : NetAt h0 p sl H nodes l ap) (hl : l.length ≤ 64) (i : Nat) (hi : i < l.length) :
    ∃ sl' H1 H', E tbl 19 [sl, .int .i64 i, .int .i64 ((i : Int) + 1)] H = some (sl', H1) ∧ aCells 1 sl' = some [sl'] ∧ H1.wr p 1 [sl'] = some H' ∧ NetAt h0 p sl' H' nodes (l.eraseIdx i) ap ∧ Fr p sl H H' ∧ H'.next = H.next ∧ slBlk sl' = slBlk sl := by
  obtain ⟨sl', H1, e1, B1, hsl, n1, f1⟩ := del_eq N.buf i hi (by omega)
  have hsp : slBlk sl ≠ some p := fun e => N.ne p e rfl
  have b1 : H1.blk p = some ⟨net0 nodes sl ap, true⟩ := by rw [f1 p hsp, N.blk]
  have wr1 : H1.wr p 1 [sl'] = some (H1.setBlk p (some ⟨net0 nodes sl' ap, true⟩)) := by
    rw [wr_of b1 1 _ (by simp)]; rfl
  have hne : ∀ c, slBlk sl' = some c → c ≠ p := fun c hc => N.ne c (hsl ▸ hc)
  have hp0 := N.p0
  refine ⟨sl', H1, _, e1, B1.cell, wr1, ⟨N.n, by rw [setBlk_next, n1]; exact N.lt, N.p0, ⟨by rw [setBlk_next, n1]; exact N.went.next, fun c hc => ?_⟩, setBlk_same _ _ _, ?_, hne, fun x hx => ?_⟩, ⟨by rw [setBlk_next, n1]; exact Nat.le_refl _, fun c hc hcp hcs => by rw [setBlk_ne _ _ hcp, f1 c hcs]⟩, by rw [setBlk_next, n1], hsl⟩
  · rw [setBlk_ne _ _ (by omega), f1 c (fun e => by have := (N.buf.blk c e).1; omega)]
    exact N.went.old c hc
  · rw [lcells_erase] at B1
    rw [List.length_eraseIdx_of_lt hi]
    exact B1.kept (by rw [setBlk_next]; exact Nat.le_refl _) fun c hc => setBlk_ne _ _ (hne c hc)
  · have hx' : x ∈ l := List.mem_of_mem_eraseIdx hx
    obtain ⟨S1, S2⟩ := N.own x hx'
    exact ⟨S1.kept (by rw [setBlk_next, n1]; exact Nat.le_refl _) fun c hc => by rw [setBlk_ne _ _ (S2 c hc).1, f1 c (S2 c hc).2], fun c hc => ⟨(S2 c hc).1, by rw [hsl]; exact (S2 c hc).2⟩⟩

theorem deliver_no (N : NetAt h0 p sl H nodes l ap) (i : Int) (hi : inN l.length i = false) : E tbl 8 [.ptr p 0, .int .i64 i] H = some (.tuple [.agg [.int .i64 0, .int .i64 0, .nilSlice], .int .i64 23], H) := by
  have q := there_eq N i
  rw [hi] at q
  have cn : aCells 1 .nilSlice = some [.nilSlice] := rfl
  rw [c8]
  simp [S8, q]

theorem deliver_cut (N : NetAt h0 p sl H nodes l ap) (i : Nat) (hi : i < l.length) (hc : isP nodes ap l[i].f l[i].t = true) : E tbl 8 [.ptr p 0, .int .i64 i] H = some (.tuple [.agg [.int .i64 0, .int .i64 0, .nilSlice], .int .i64 26], H) := by
  have q := there_eq N i
  have hin : inN l.length i = true := by simp [inN]; omega
  rw [hin] at q
  obtain ⟨b, o, a1, a2, a3, a4⟩ := N.letter i hi
  have r1 := N.rd1
  have q2 := parted_eq N l[i].f l[i].t
  rw [hc] at q2
  rw [c8]
  simp [S8, q, r1, a1, a3, a4, q2]

theorem deliver_ok (N : NetAt h0 p sl H nodes l ap) (hl : l.length ≤ 64) (i : Nat) (hi : i < l.length) (hc : isP nodes ap l[i].f l[i].t = false) :
    ∃ sl' H', E tbl 8 [.ptr p 0, .int .i64 i] H = some (.tuple [.agg [.int .i64 l[i].f, .int .i64 l[i].t, l[i].s], .int .i64 0], H') ∧ NetAt h0 p sl' H' nodes (l.eraseIdx i) ap ∧ Fr p sl H H' ∧ H'.next = H.next ∧ slBlk sl' = slBlk sl := by
  have q := there_eq N i
  have hin : inN l.length i = true := by simp [inN]; omega
  rw [hin] at q
  obtain ⟨b, o, a1, a2, a3, a4⟩ := N.letter i hi
  have r1 := N.rd1
  have q2 := parted_eq N l[i].f l[i].t
  rw [hc] at q2
  obtain ⟨sl', H1, H', e1, cs, w1, N', F, nx, hsl⟩ := N.out hl i hi
  have wi : IntKind.i64.wrap ((i : Int) + 1) = (i : Int) + 1 := IntWalk.i64_in _ (by omega)
  refine ⟨sl', H', ?_, N', F, nx, hsl⟩
  rw [c8]
  simp [S8, q, r1, a1, a2, a3, a4, q2, wi, e1, cs, w1]

theorem drop_no (N : NetAt h0 p sl H nodes l ap) (i : Int) (hi : inN l.length i = false) : E tbl 21 [.ptr p 0, .int .i64 i] H = some (.int .i64 23, H) := by
  have q := there_eq N i
  rw [hi] at q
  rw [c21]
  simp [S21, q]
theorem drop_ok (N : NetAt h0 p sl H nodes l ap) (hl : l.length ≤ 64) (i : Nat) (hi : i < l.length) :
    ∃ sl' H', E tbl 21 [.ptr p 0, .int .i64 i] H = some (.int .i64 0, H') ∧ NetAt h0 p sl' H' nodes (l.eraseIdx i) ap ∧ Fr p sl H H' ∧ H'.next = H.next ∧ slBlk sl' = slBlk sl := by
  have q := there_eq N i
  have hin : inN l.length i = true := by simp [inN]; omega
  rw [hin] at q
  have r1 := N.rd1
  obtain ⟨sl', H1, H', e1, cs, w1, N', F, nx, hsl⟩ := N.out hl i hi
  have wi : IntKind.i64.wrap ((i : Int) + 1) = (i : Int) + 1 := IntWalk.i64_in _ (by omega)
  refine ⟨sl', H', ?_, N', F, nx, hsl⟩
  rw [c21]
  simp [S21, q, r1, wi, e1, cs, w1]

theorem twice_no (N : NetAt h0 p sl H nodes l ap) (i : Int) (hi : inN l.length i = false) : E tbl 20 [.ptr p 0, .int .i64 i] H = some (.int .i64 23, H) := by
  have q := there_eq N i
  rw [hi] at q
  rw [c20]
  simp [S20, q]
theorem twice_send (N : NetAt h0 p sl H nodes l ap) (i : Nat) (hi : i < l.length) {r : AVal} {H' : Heap} (e : E tbl 7 [.ptr p 0, .agg [.int .i64 l[i].f, .int .i64 l[i].t, l[i].s]] H = some (r, H')) : E tbl 20 [.ptr p 0, .int .i64 i] H = some (r, H') := by
  have q := there_eq N i
  have hin : inN l.length i = true := by simp [inN]; omega
  rw [hin] at q
  obtain ⟨b, o, a1, a2, a3, a4⟩ := N.letter i hi
  have r1 := N.rd1
  rw [c20]
  simp [S20, q, r1, a1, a2, e]

theorem cut_eq (a b : Int) (p : Nat) (H : Heap) : E tbl 12 [.ptr p 0, .int .i64 a, .int .i64 b] H = E tbl 22 [.ptr p 0, .int .i64 a, .int .i64 b, .bool true] H := by
  rw [c12]
  simp only [S12]
  cases E tbl 22 [.ptr p 0, .int .i64 a, .int .i64 b, .bool true] H <;> rfl
theorem heal_eq (a b : Int) (p : Nat) (H : Heap) : E tbl 14 [.ptr p 0, .int .i64 a, .int .i64 b] H = E tbl 22 [.ptr p 0, .int .i64 a, .int .i64 b, .bool false] H := by
  rw [c14]
  simp only [S14]
  cases E tbl 22 [.ptr p 0, .int .i64 a, .int .i64 b, .bool false] H <;> rfl
end
end Go.Proofs.Ytfdhljghamkgjaa.Code
