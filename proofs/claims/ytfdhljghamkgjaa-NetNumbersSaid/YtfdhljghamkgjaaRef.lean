/- Chapter 8: the document's net. -/
import Derived.Test.YtfdhljghamkgjaaParts
namespace Go.Proofs.Ytfdhljghamkgjaa.Code
set_option linter.unusedSimpArgs false
set_option linter.unusedVariables false
open Go.Fw

structure Rl where
  f : Int
  t : Int
  b : List UInt8

def rcells : List Rl → List AVal
  | [] => []
  | x :: r => .int .i64 x.f :: .int .i64 x.t :: .str x.b :: rcells r
@[simp] theorem rcells_len : ∀ l : List Rl, (rcells l).length = l.length * 3
  | [] => rfl
  | x :: r => by simp [rcells, rcells_len r]; omega
theorem rcells_app : ∀ l m : List Rl, rcells (l ++ m) = rcells l ++ rcells m
  | [], _ => rfl
  | x :: r, m => by simp [rcells, rcells_app r m]
theorem rcells_drop : ∀ (l : List Rl) (i : Nat), (rcells l).drop (i * 3) = rcells (l.drop i)
  | l, 0 => by simp
  | [], i + 1 => by simp [rcells]
  | x :: r, i + 1 => by
    rw [show (i + 1) * 3 = i * 3 + 1 + 1 + 1 by omega, rcells, List.drop_succ_cons, List.drop_succ_cons, List.drop_succ_cons, rcells_drop r i, List.drop_succ_cons]
theorem rcells_take : ∀ (l : List Rl) (i : Nat), (rcells l).take (i * 3) = rcells (l.take i)
  | l, 0 => by simp [rcells]
  | [], i + 1 => by simp [rcells]
  | x :: r, i + 1 => by
    rw [show (i + 1) * 3 = i * 3 + 1 + 1 + 1 by omega, rcells, List.take_succ_cons, List.take_succ_cons, List.take_succ_cons, rcells_take r i, List.take_succ_cons, rcells]
theorem rcells_erase (l : List Rl) (i : Nat) : (rcells l).take (i * 3) ++ (rcells l).drop ((i + 1) * 3) = rcells (l.eraseIdx i) := by
  rw [rcells_take, rcells_drop, ← rcells_app, List.eraseIdx_eq_take_drop_succ]

structure RefAt (h0 : Heap) (p : Nat) (sl : AVal) (H : Heap) (nodes : Int) (l : List Rl) (ap : Nat → Nat → Bool) : Prop where
  n : 1 ≤ nodes ∧ nodes ≤ 6
  lt : p < H.next
  p0 : h0.next ≤ p
  went : Went h0 H
  blk : H.blk p = some ⟨net0 nodes sl ap, true⟩
  buf : Own 3 sl H h0.next l.length (rcells l)
  ne : ∀ b, slBlk sl = some b → b ≠ p

theorem RefAt.fr {h0 : Heap} {p : Nat} {sl : AVal} {H H' : Heap} {nodes : Int} {l : List Rl} {ap : Nat → Nat → Bool} (N : RefAt h0 p sl H nodes l ap) (hn : H.next ≤ H'.next) (hp : H'.blk p = H.blk p) (hs : ∀ b, slBlk sl = some b → H'.blk b = H.blk b) (W : Went h0 H') : RefAt h0 p sl H' nodes l ap :=
  ⟨N.n, Nat.lt_of_lt_of_le N.lt hn, N.p0, W, by rw [hp]; exact N.blk, N.buf.kept hn hs, N.ne⟩
theorem RefAt.more {h0 : Heap} {p : Nat} {sl : AVal} {H H' : Heap} {nodes : Int} {l : List Rl} {ap : Nat → Nat → Bool} (N : RefAt h0 p sl H nodes l ap) (W : Went H H') : RefAt h0 p sl H' nodes l ap :=
  N.fr W.next (W.old _ N.lt) (fun b hb => W.old b (N.buf.blk b hb).2) (N.went.trans W)

section
variable {h0 : Heap} {p : Nat} {sl : AVal} {H : Heap} {nodes : Int} {l : List Rl} {ap : Nat → Nat → Bool}

theorem RefAt.rd0 (N : RefAt h0 p sl H nodes l ap) : H.rd p 0 1 = some [.int .i64 nodes] := by rw [rd_of N.blk 0 1 (by simp)]; rfl
theorem RefAt.rd1 (N : RefAt h0 p sl H nodes l ap) : H.rd p 1 1 = some [sl] := by rw [rd_of N.blk 1 1 (by simp)]; rfl
theorem RefAt.rdg (N : RefAt h0 p sl H nodes l ap) {a b : Nat} (ha : a < 6) (hb : b < 6) : H.rd p (2 + a * 6 + b) 1 = some [.bool (ap a b)] := by
  rw [rd_bind, N.blk]
  simp only [Option.bind_some]
  have e : (net0 nodes sl ap)[2 + a * 6 + b]? = some (.bool (ap a b)) := by
    rw [show 2 + a * 6 + b = (a * 6 + b) + 1 + 1 by omega, List.getElem?_cons_succ, List.getElem?_cons_succ]
    exact grid_at ap ha hb
  exact rdL_one e

theorem rin_eq (N : RefAt h0 p sl H nodes l ap) (i : Int) : E tbl 32 [.ptr p 0, .int .i64 i] H = some (.bool (inN nodes i), H) := by
  have r0 := N.rd0
  rw [c32]
  by_cases h1 : 0 ≤ i <;> simp [S32, r0, inN, h1]

theorem rparted_eq (N : RefAt h0 p sl H nodes l ap) (a b : Int) : E tbl 30 [.ptr p 0, .int .i64 a, .int .i64 b] H = some (.bool (isP nodes ap a b), H) := by
  have q1 := rin_eq N a
  have q2 := rin_eq N b
  obtain ⟨n1, n2⟩ := N.n
  rw [c30]
  unfold isP
  cases ha : inN nodes a
  · rw [ha] at q1; simp [S30, q1]
  · rw [ha] at q1
    cases hb : inN nodes b
    · rw [hb] at q2; simp [S30, q1, q2]
    · rw [hb] at q2
      simp only [inN, Bool.and_eq_true, decide_eq_true_eq] at ha hb
      have i1 := idx_nat (n := 6) a ha.1 (by omega)
      have i2 := idx_nat (n := 6) b hb.1 (by omega)
      have r := N.rdg (a := a.toNat) (b := b.toNat) (by omega) (by omega)
      simp [S30, q1, q2, aIaddrA, i1, i2, r]

theorem rset_ok (N : RefAt h0 p sl H nodes l ap) (a b : Int) (v : Bool) (ha : inN nodes a = true) (hb : inN nodes b = true) (hab : a ≠ b) :
    ∃ H', E tbl 26 [.ptr p 0, .int .i64 a, .int .i64 b, .bool v] H = some (.int .i64 0, H') ∧ RefAt h0 p sl H' nodes l (upd (upd ap a.toNat b.toNat v) b.toNat a.toNat v) ∧ Only p H H' := by
  have q1 := rin_eq N a
  have q2 := rin_eq N b
  rw [ha] at q1
  rw [hb] at q2
  obtain ⟨n1, n2⟩ := N.n
  simp only [inN, Bool.and_eq_true, decide_eq_true_eq] at ha hb
  have i1 := idx_nat (n := 6) a ha.1 (by omega)
  have i2 := idx_nat (n := 6) b hb.1 (by omega)
  have wr (G : Heap) (f : Nat → Nat → Bool) (x y : Nat) (hx : x < 6) (hy : y < 6) (hG : G.blk p = some ⟨net0 nodes sl f, true⟩) : G.wr p (2 + x * 6 + y) [.bool v] = some (G.setBlk p (some ⟨net0 nodes sl (upd f x y v), true⟩)) := by
    rw [wr_of hG _ _ (by simp; omega), splice_set (by simp; omega), show 2 + x * 6 + y = (x * 6 + y) + 1 + 1 by omega, List.set_cons_succ, List.set_cons_succ, grid_set f hx hy]
  have w1 := wr H ap a.toNat b.toNat (by omega) (by omega) N.blk
  have w2 := wr (H.setBlk p (some ⟨net0 nodes sl (upd ap a.toNat b.toNat v), true⟩)) _ b.toNat a.toNat (by omega) (by omega) (setBlk_same _ _ _)
  rw [setBlk_twice] at w2
  refine ⟨H.setBlk p (some ⟨net0 nodes sl (upd (upd ap a.toNat b.toNat v) b.toNat a.toNat v), true⟩), ?_, ⟨N.n, N.lt, N.p0, ⟨N.went.next, fun i hi => by rw [setBlk_ne _ _ (by have := N.p0; omega)]; exact N.went.old i hi⟩, setBlk_same _ _ _, N.buf.kept (Nat.le_refl _) fun c hc => setBlk_ne _ _ (N.ne c hc), N.ne⟩, ⟨Nat.le_refl _, fun c _ hc => setBlk_ne _ _ hc⟩⟩
  rw [c26]
  have hab' : (a == b) = false := by simpa using hab
  simp [S26, q1, q2, hab', aIaddrA, i1, i2, w1, w2]

theorem rset_no (N : RefAt h0 p sl H nodes l ap) (a b : Int) (v : Bool) (hn : ¬ (inN nodes a = true ∧ inN nodes b = true ∧ a ≠ b)) :
    E tbl 26 [.ptr p 0, .int .i64 a, .int .i64 b, .bool v] H = some (.int .i64 23, H) := by
  have q1 := rin_eq N a
  have q2 := rin_eq N b
  rw [c26]
  cases ha : inN nodes a
  · rw [ha] at q1; simp [S26, q1]
  · rw [ha] at q1
    cases hb : inN nodes b
    · rw [hb] at q2; simp [S26, q1, q2]
    · rw [hb] at q2
      have : a = b := Classical.byContradiction fun e => hn ⟨ha, hb, e⟩
      simp [S26, q1, q2, this]

theorem rsend_no (N : RefAt h0 p sl H nodes l ap) {f t : Int} {s : AVal} (hn : ¬ (inN nodes f = true ∧ inN nodes t = true)) :
    E tbl 27 [.ptr p 0, .agg [.int .i64 f, .int .i64 t, s]] H = some (.int .i64 23, H) := by
  have q1 := rin_eq N f
  have q2 := rin_eq N t
  rw [c27]
  cases hf : inN nodes f
  · rw [hf] at q1; simp [S27, q1]
  · rw [hf] at q1
    cases ht : inN nodes t
    · rw [ht] at q2; simp [S27, q1, q2]
    · exact (hn ⟨hf, ht⟩).elim
theorem rsend_full (N : RefAt h0 p sl H nodes l ap) {f t : Int} {s : AVal} (hf : inN nodes f = true) (ht : inN nodes t = true) (hl : 64 ≤ l.length) :
    E tbl 27 [.ptr p 0, .agg [.int .i64 f, .int .i64 t, s]] H = some (.int .i64 24, H) := by
  have q1 := rin_eq N f
  have q2 := rin_eq N t
  rw [hf] at q1
  rw [ht] at q2
  have r1 := N.rd1
  have ln := N.buf.src.len
  have full : 64 ≤ (l.length : Int) := by omega
  rw [c27]
  simp [S27, q1, q2, r1, ln, full]

theorem rsend_ok (N : RefAt h0 p sl H nodes l ap) {f t : Int} {b : List UInt8} (hf : inN nodes f = true) (ht : inN nodes t = true) (hl : l.length < 64) :
    ∃ sl' H', E tbl 27 [.ptr p 0, .agg [.int .i64 f, .int .i64 t, .str b]] H = some (.int .i64 0, H') ∧ RefAt h0 p sl' H' nodes (l ++ [⟨f, t, b⟩]) ap ∧ Only p H H' ∧ ∀ c, slBlk sl' = some c → H.next ≤ c := by
  have q1 := rin_eq N f
  have q2 := rin_eq N t
  rw [hf] at q1
  rw [ht] at q2
  have rr := N.rd1
  have ln := N.buf.src.len
  have full : ¬ 64 ≤ (l.length : Int) := by omega
  have lt := N.lt
  have blk := N.blk
  have own := N.buf
  obtain ⟨h1, d1⟩ : ∃ x, x = (H.res 2).setBlk H.next (some ⟨[], true⟩) := ⟨_, rfl⟩
  have n1 : h1.next = H.next + 2 := by rw [d1]; rfl
  have W1 : Went H h1 := ⟨by omega, fun i hi => by rw [d1, setBlk_ne _ _ (by omega)]; rfl⟩
  have b1 : h1.blk p = some ⟨net0 nodes sl ap, true⟩ := by rw [W1.old _ lt, blk]
  have O1 : Own 3 (.slice H.next 0 0 0 3 true) h1 H.next 0 [] := ⟨rfl, .inr ⟨H.next, true, rfl, Nat.le_refl _, by omega, by rw [d1, setBlk_same]⟩⟩
  obtain ⟨s2, h2, e2, O2, K2⟩ := O1.app (bytes := 32) (zero := [.int .i64 0, .int .i64 0, .str []]) (W1.src own.src) (by omega) (by omega) (by omega) (by omega)
  rw [Nat.zero_add, List.nil_append] at O2
  have hk2 := K2.next
  have W2 : Went H h2 := K2.went W1 fun b hb => by cases hb; exact Nat.le_refl _
  have s2ne : ∀ b, slBlk s2 = some b → b ≠ H.next + 1 := by
    intro b hb
    rcases K2.blk b hb with h3 | h3
    · cases h3; omega
    · omega
  obtain ⟨h3, d3⟩ : ∃ x, x = h2.setBlk (H.next + 1) (some ⟨[.int .i64 f, .int .i64 t, .str b], true⟩) := ⟨_, rfl⟩
  have n3 : h3.next = h2.next := by rw [d3]; rfl
  have W3 : Went H h3 := ⟨by omega, fun i hi => by rw [d3, setBlk_ne _ _ (by omega)]; exact W2.old i hi⟩
  have O3 : Own 3 s2 h3 H.next l.length (rcells l) := O2.kept (by omega) fun b hb => by rw [d3, setBlk_ne _ _ (s2ne b hb)]
  have S3 : Src 3 (.slice (H.next + 1) 0 1 1 3 true) h3 1 [.int .i64 f, .int .i64 t, .str b] := ⟨rfl, .inr ⟨H.next + 1, 0, 1, true, rfl, by omega, by rw [d3, rd_of (setBlk_same _ _ _) 0 _ (by simp)]; rfl⟩⟩
  obtain ⟨s4, h4, e4, O4, K4⟩ := O3.app (bytes := 32) (zero := [.int .i64 0, .int .i64 0, .str []]) S3 (by omega) (by omega) (by omega) (by omega)
  have hk4 := K4.next
  have W4 : Went H h4 := K4.went W3 fun b hb => (O3.blk b hb).1
  have b4 : h4.blk p = some ⟨net0 nodes sl ap, true⟩ := by rw [W4.old _ lt, blk]
  have hne : ∀ b, slBlk s4 = some b → b ≠ p := fun b hb => by have := (O4.blk b hb).1; omega
  have hw := N.went.next
  have hp0 := N.p0
  have O4' : Own 3 s4 h4 H.next (l ++ [(⟨f, t, b⟩ : Rl)]).length (rcells (l ++ [⟨f, t, b⟩])) := by
    rw [rcells_app, List.length_append]; exact O4
  refine ⟨s4, h4.setBlk p (some ⟨net0 nodes s4 ap, true⟩), ?_, ⟨N.n, by rw [setBlk_next]; omega, N.p0, ⟨by rw [setBlk_next]; omega, fun i hi => by rw [setBlk_ne _ _ (by omega), W4.old i (by omega)]; exact N.went.old i hi⟩, setBlk_same _ _ _, (Own.base O4' (by omega)).kept (by rw [setBlk_next]; exact Nat.le_refl _) fun b hb => setBlk_ne _ _ (hne b hb), hne⟩, ⟨by rw [setBlk_next]; omega, fun b hb hp => by rw [setBlk_ne _ _ hp]; exact W4.old b hb⟩, fun b hb => (O4'.blk b hb).1⟩
  have r1 : h1.rd p 1 1 = some [sl] := by rw [rd_of b1 1 1 (by simp)]; rfl
  have wr4 : h4.wr p 1 [s4] = some (h4.setBlk p (some ⟨net0 nodes s4 ap, true⟩)) := by rw [wr_of b4 1 _ (by simp)]; rfl
  have ck : checkPairs [(7, some (.lrd 3 0 3)), (6, some (.ef [(3, [.int .i64 f, .int .i64 t, .str b])] h1 [(3, [.int .i64 f, .int .i64 t, .str b])] h2))] [(7, 6)] = true := by
    simp [checkPairs]
  rw [c27]
  simp [S27, q1, q2, rr, ln, full, ← d1, r1, e2, ← d3, e4, O4.cell, wr4, ck]

theorem RefAt.letter (N : RefAt h0 p sl H nodes l ap) (i : Nat) (hi : i < l.length) : ∃ q o, aIaddr 3 sl (.int .i64 i) = some (.ptr q o) ∧ H.rd q o 3 = some [.int .i64 l[i].f, .int .i64 l[i].t, .str l[i].b] ∧ H.rd q o 1 = some [.int .i64 l[i].f] ∧ H.rd q (o + 1) 1 = some [.int .i64 l[i].t] ∧ H.rd q (o + 2) 1 = some [.str l[i].b] := by
  obtain ⟨q0, e1, e2⟩ := N.buf.src.at i hi
  rw [rcells_drop, List.drop_eq_getElem_cons hi] at e2
  obtain ⟨q, o, rfl⟩ : ∃ q o, q0 = .ptr q o := by
    cases q0 <;> simp [aLoad] at e2
    exact ⟨_, _, rfl⟩
  have e3 : H.rd q o 3 = some [.int .i64 l[i].f, .int .i64 l[i].t, .str l[i].b] := e2
  obtain ⟨x, hx, hlx, hcs⟩ := rd_inv e3
  refine ⟨q, o, e1, e3, ?_, ?_, ?_⟩
  · rw [rd_of hx _ _ (by omega)]
    have : (x.cells.drop o).take 1 = ((x.cells.drop o).take 3).take 1 := by rw [List.take_take]; rfl
    rw [this, ← hcs]; rfl
  · rw [rd_of hx _ _ (by omega)]
    have : (x.cells.drop (o + 1)).take 1 = (((x.cells.drop o).take 3).drop 1).take 1 := by
      rw [List.drop_take, List.drop_drop, List.take_take]; rfl
    rw [this, ← hcs]; rfl
  · rw [rd_of hx _ _ (by omega)]
    have : (x.cells.drop (o + 2)).take 1 = (((x.cells.drop o).take 3).drop 2).take 1 := by
      rw [List.drop_take, List.drop_drop, List.take_take]; rfl
    rw [this, ← hcs]; rfl

theorem own_front {es : Nat} {s : AVal} {h : Heap} {n0 m : Nat} {cells : List AVal} (O : Own es s h n0 m cells) (i : Nat) (hi : i ≤ m) :
    ∃ s', aSliceSl es s none (some (.int .i64 i)) none = some s' ∧ Src es s' h i (cells.take (i * es)) := by
  obtain ⟨hl, ⟨rfl, rfl⟩ | ⟨b, ex, rfl, a1, a2, a4⟩⟩ := O
  · obtain rfl : i = 0 := by omega
    refine ⟨.nilSlice, rfl, ⟨by simp, .inl ⟨rfl, rfl⟩⟩⟩
  · have hle : i * es ≤ m * es := Nat.mul_le_mul_right es hi
    refine ⟨.slice b 0 i m es ex, ?_, ⟨by rw [List.length_take]; omega, .inr ⟨b, 0, m, ex, rfl, a2, ?_⟩⟩⟩
    · simp [aSliceSl, aBound, hi]
    · rw [rd_of a4 0 _ (by simp only; omega)]
      simp

/-- A letter is taken out of the document's row. -/
theorem rout_eq (N : RefAt h0 p sl H nodes l ap) (hl : l.length ≤ 64) (i : Nat) (hi : i < l.length) :
    ∃ sl' H', E tbl 31 [.ptr p 0, .int .i64 i] H = some (.agg [.int .i64 l[i].f, .int .i64 l[i].t, .str l[i].b], H') ∧ RefAt h0 p sl' H' nodes (l.eraseIdx i) ap ∧ Only p H H' ∧ ∀ c, slBlk sl' = some c → H.next ≤ c := by
  obtain ⟨q, o, a1, a2, _, _, _⟩ := N.letter i hi
  have lt := N.lt
  have W1 := Went.alloc H []
  have N1 := N.more W1
  have O1 := Own.lit 3 H [] 0 rfl true
  have rr := N.rd1
  have r1 := N1.rd1
  have wi : IntKind.i64.wrap ((i : Int) + 1) = (i : Int) + 1 := IntWalk.i64_in _ (by omega)
  obtain ⟨sa, ea, Sa⟩ := own_front N1.buf i (by omega)
  have hn1 : (H.alloc []).next = H.next + 1 := rfl
  obtain ⟨h1, d1⟩ : ∃ h1, h1 = H.alloc [] := ⟨_, rfl⟩
  rw [← d1] at W1 N1 O1 r1 Sa hn1
  obtain ⟨s2, h2, e2, O2, K2⟩ := O1.app (bytes := 32) (zero := [.int .i64 0, .int .i64 0, .str []]) Sa (by omega) (by omega) (by omega) (by omega)
  have hk2 := K2.next
  have W2 : Went H h2 := K2.went W1 fun b hb => by cases hb; exact Nat.le_refl _
  have N2 := N.more W2
  have r2 := N2.rd1
  obtain ⟨sb, eb, Sb, _⟩ := N2.buf.src.rest (i + 1) hi
  obtain ⟨s4, h4, e4, O4, K4⟩ := O2.app (bytes := 32) (zero := [.int .i64 0, .int .i64 0, .str []]) Sb (by omega) (by omega) (by omega) (by omega)
  have hk4 := K4.next
  have W4 : Went H h4 := K4.went W2 fun b hb => (O2.blk b hb).1
  have b4 : h4.blk p = some ⟨net0 nodes sl ap, true⟩ := by rw [W4.old _ lt, N.blk]
  have hne : ∀ b, slBlk s4 = some b → b ≠ p := fun b hb => by have := (O4.blk b hb).1; omega
  have hw := N.went.next
  have hp0 := N.p0
  have O4' : Own 3 s4 h4 H.next (l.eraseIdx i).length (rcells (l.eraseIdx i)) := by
    rw [List.nil_append, rcells_erase] at O4
    rw [List.length_eraseIdx_of_lt hi]
    have : 0 + i + (l.length - (i + 1)) = l.length - 1 := by omega
    rw [this] at O4
    exact O4
  refine ⟨s4, h4.setBlk p (some ⟨net0 nodes s4 ap, true⟩), ?_, ⟨N.n, by rw [setBlk_next]; omega, N.p0, ⟨by rw [setBlk_next]; omega, fun i hi => by rw [setBlk_ne _ _ (by omega), W4.old i (by omega)]; exact N.went.old i hi⟩, setBlk_same _ _ _, (Own.base O4' (by omega)).kept (by rw [setBlk_next]; exact Nat.le_refl _) fun b hb => setBlk_ne _ _ (hne b hb), hne⟩, ⟨by rw [setBlk_next]; omega, fun b hb hp => by rw [setBlk_ne _ _ hp]; exact W4.old b hb⟩, fun b hb => (O4'.blk b hb).1⟩
  have wr4 : h4.wr p 1 [s4] = some (h4.setBlk p (some ⟨net0 nodes s4 ap, true⟩)) := by rw [wr_of b4 1 _ (by simp)]; rfl
  have hpn : ¬ p = H.next := by omega
  have c1 : ((i + 1 : Nat) : Int) = (i : Int) + 1 := by omega
  rw [c1] at eb
  rw [c31]
  simp [S31, rr, a1, a2, ← d1, r1, ea, e2, r2, wi, eb, e4, O4.cell, wr4, checkPairs, stays, hpn, beq_dec]
theorem rdeliver_no (N : RefAt h0 p sl H nodes l ap) (i : Int) (hi : inN l.length i = false) : E tbl 23 [.ptr p 0, .int .i64 i] H = some (.tuple [.agg [.int .i64 0, .int .i64 0, .str []], .int .i64 23], H) := by
  have r1 := N.rd1
  have ln := N.buf.src.len
  rw [c23]
  by_cases h1 : i < 0
  · simp [S23, h1]
  · have h2 : (l.length : Int) ≤ i := by
      simp only [inN, Bool.and_eq_false_iff, decide_eq_false_iff_not] at hi; omega
    simp [S23, h1, r1, ln, h2]
theorem rdeliver_cut (N : RefAt h0 p sl H nodes l ap) (i : Nat) (hi : i < l.length) (hc : isP nodes ap l[i].f l[i].t = true) : E tbl 23 [.ptr p 0, .int .i64 i] H = some (.tuple [.agg [.int .i64 0, .int .i64 0, .str []], .int .i64 26], H) := by
  have r1 := N.rd1
  have ln := N.buf.src.len
  obtain ⟨b, o, a1, a2, a3, a4, _⟩ := N.letter i hi
  have q2 := rparted_eq N l[i].f l[i].t
  rw [hc] at q2
  have h1 : ¬ (i : Int) < 0 := by omega
  have h2 : ¬ (l.length : Int) ≤ i := by omega
  rw [c23]
  simp [S23, h1, r1, ln, h2, a1, a3, a4, q2]
theorem rdeliver_ok (N : RefAt h0 p sl H nodes l ap) (hl : l.length ≤ 64) (i : Nat) (hi : i < l.length) (hc : isP nodes ap l[i].f l[i].t = false) :
    ∃ sl' H', E tbl 23 [.ptr p 0, .int .i64 i] H = some (.tuple [.agg [.int .i64 l[i].f, .int .i64 l[i].t, .str l[i].b], .int .i64 0], H') ∧ RefAt h0 p sl' H' nodes (l.eraseIdx i) ap ∧ Only p H H' ∧ ∀ c, slBlk sl' = some c → H.next ≤ c := by
  have r1 := N.rd1
  have ln := N.buf.src.len
  obtain ⟨b, o, a1, a2, a3, a4, _⟩ := N.letter i hi
  have q2 := rparted_eq N l[i].f l[i].t
  rw [hc] at q2
  have h1 : ¬ (i : Int) < 0 := by omega
  have h2 : ¬ (l.length : Int) ≤ i := by omega
  obtain ⟨sl', H', e, x⟩ := rout_eq N hl i hi
  refine ⟨sl', H', ?_, x⟩
  rw [c23]
  simp [S23, h1, r1, ln, h2, a1, a3, a4, q2, e]
theorem rdrop_no (N : RefAt h0 p sl H nodes l ap) (i : Int) (hi : inN l.length i = false) : E tbl 24 [.ptr p 0, .int .i64 i] H = some (.int .i64 23, H) := by
  have r1 := N.rd1
  have ln := N.buf.src.len
  rw [c24]
  by_cases h1 : i < 0
  · simp [S24, h1]
  · have h2 : (l.length : Int) ≤ i := by
      simp only [inN, Bool.and_eq_false_iff, decide_eq_false_iff_not] at hi; omega
    simp [S24, h1, r1, ln, h2]
theorem rdrop_ok (N : RefAt h0 p sl H nodes l ap) (hl : l.length ≤ 64) (i : Nat) (hi : i < l.length) :
    ∃ sl' H', E tbl 24 [.ptr p 0, .int .i64 i] H = some (.int .i64 0, H') ∧ RefAt h0 p sl' H' nodes (l.eraseIdx i) ap ∧ Only p H H' ∧ ∀ c, slBlk sl' = some c → H.next ≤ c := by
  have r1 := N.rd1
  have ln := N.buf.src.len
  have h1 : ¬ (i : Int) < 0 := by omega
  have h2 : ¬ (l.length : Int) ≤ i := by omega
  obtain ⟨sl', H', e, x⟩ := rout_eq N hl i hi
  refine ⟨sl', H', ?_, x⟩
  rw [c24]
  simp [S24, h1, r1, ln, h2, e]
theorem rtwice_no (N : RefAt h0 p sl H nodes l ap) (i : Int) (hi : inN l.length i = false) : E tbl 25 [.ptr p 0, .int .i64 i] H = some (.int .i64 23, H) := by
  have r1 := N.rd1
  have ln := N.buf.src.len
  rw [c25]
  by_cases h1 : i < 0
  · simp [S25, h1]
  · have h2 : (l.length : Int) ≤ i := by
      simp only [inN, Bool.and_eq_false_iff, decide_eq_false_iff_not] at hi; omega
    simp [S25, h1, r1, ln, h2]
theorem rtwice_send (N : RefAt h0 p sl H nodes l ap) (i : Nat) (hi : i < l.length) {r : AVal} {H' : Heap} (e : E tbl 27 [.ptr p 0, .agg [.int .i64 l[i].f, .int .i64 l[i].t, .str l[i].b]] H = some (r, H')) : E tbl 25 [.ptr p 0, .int .i64 i] H = some (r, H') := by
  have r1 := N.rd1
  have ln := N.buf.src.len
  have h1 : ¬ (i : Int) < 0 := by omega
  have h2 : ¬ (l.length : Int) ≤ i := by omega
  obtain ⟨b, o, a1, a2, _⟩ := N.letter i hi
  rw [c25]
  simp [S25, h1, r1, ln, h2, a1, a2, e]
end
end Go.Proofs.Ytfdhljghamkgjaa.Code
