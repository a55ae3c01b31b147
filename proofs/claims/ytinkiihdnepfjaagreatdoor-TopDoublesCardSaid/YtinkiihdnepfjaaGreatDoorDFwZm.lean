/- framework -/
import Derived.Test.YtinkiihdnepfjaaGreatDoorDFwZc
import Derived.ChangeArms
set_option linter.unusedSimpArgs false
set_option linter.unusedVariables false
namespace Go.Fw
theorem ble_dec (a b : Nat) : Nat.ble a b = decide (a ≤ b) := by
  cases h : Nat.ble a b with
  | true => exact (decide_eq_true (Nat.le_of_ble_eq_true h)).symm
  | false => exact (decide_eq_false fun k => by rw [Nat.ble_eq_true_of_le k] at h; cases h).symm
theorem rdL_z (l : List AVal) : rdL l 0 0 = some [] := by simp [rdL, ble_dec]
theorem rdL_t (a : AVal) (l : List AVal) (n : Nat) : rdL (a :: l) 0 (n + 1) = (rdL l 0 n).map (a :: ·) := by
  by_cases h : n ≤ l.length <;> simp [rdL, ble_dec, h]
theorem rdL_s (a : AVal) (l : List AVal) (o n : Nat) : rdL (a :: l) (o + 1) n = rdL l o n := by
  by_cases h : o + n ≤ l.length
  · have : o + 1 + n ≤ l.length + 1 := by omega
    simp [rdL, ble_dec, h, this]
  · have : ¬ o + 1 + n ≤ l.length + 1 := by omega
    simp [rdL, ble_dec, h, this]
theorem splice_n (l : List AVal) : splice l 0 [] = l := by simp [splice]
theorem splice_t (a x : AVal) (l c : List AVal) : splice (a :: l) 0 (x :: c) = x :: splice l 0 c := by
  simp [splice]
theorem splice_s (a : AVal) (l c : List AVal) (o : Nat) : splice (a :: l) (o + 1) c = a :: splice l o c := by
  have : o + 1 + c.length = (o + c.length) + 1 := by omega
  simp only [splice, List.take_succ_cons, List.cons_append, this, List.drop_succ_cons]
theorem aCells_agg (n : Nat) (cs : List AVal) : aCells n (.agg cs) = if cs.length = n then some cs else none := by
  simp only [aCells, AVal.cells?, beq_dec]
  by_cases h : cs.length = n <;> simp [h]
theorem aCells_str (s : List UInt8) : aCells 1 (.str s) = some [.str s] := rfl
theorem aFill_nil (cs : List AVal) : aFill cs [] = some cs := rfl
theorem aFill_cons (cs : List AVal) (off n : Nat) (v : AVal) (r : List (Nat × Nat × AVal)) : aFill cs ((off, n, v) :: r) = (aCells n v).bind fun vs => if off + n ≤ cs.length then aFill (splice cs off vs) r else none := by
  simp only [aFill, ble_dec]
  congr 1
  funext vs
  by_cases h : off + n ≤ cs.length <;> simp [h]
theorem reps_z (z : List AVal) : reps z 0 = [] := rfl
theorem reps_s (z : List AVal) (n : Nat) : reps z (n + 1) = z ++ reps z n := rfl
example (a b c d : AVal) : rdL [a, b, c, d] 1 2 = some [b, c] := by simp [rdL_s, rdL_t, rdL_z]
example (a b c d x : AVal) : splice [a, b, c, d] 2 [x] = [a, b, x, d] := by simp [splice_s, splice_t, splice_n]
example (a b c d : AVal) (s : List UInt8): aFill [a, b, c, d] [(0, 2, .agg [.str s, .str s]), (3, 1, .int .i64 4)] = some [.str s, .str s, c, .int .i64 4] := by simp [splice_s, splice_t, splice_n, aFill_cons, aFill_nil, aCells_agg]
attribute [simp] rdL_z rdL_t rdL_s splice_n splice_t splice_s aCells_agg aCells_str aFill_nil aFill_cons reps_z reps_s ble_dec
@[simp] theorem ext_0 (a : AVal) (l : List AVal) : aExtract 0 (.tuple (a :: l)) = some a := rfl
@[simp] theorem ext_1 (a b : AVal) (l : List AVal) : aExtract 1 (.tuple (a :: b :: l)) = some b := rfl
@[simp] theorem ext_2 (a b c : AVal) (l : List AVal) : aExtract 2 (.tuple (a :: b :: c :: l)) = some c := rfl
@[simp] theorem oneOr_two (a b : AVal) (l : List AVal) : oneOr (a :: b :: l) = .tuple (a :: b :: l) := rfl
@[simp] theorem cellsEq_nil : cellsEq [] [] [] = some true := rfl
@[simp] theorem cellsEq_bool (ks : List Nat) (a b : Bool) (as bs : List AVal) : cellsEq (0 :: ks) (.bool a :: as) (.bool b :: bs) = (cellsEq ks as bs).bind fun r => some ((a == b) && r) := rfl
@[simp] theorem cellsEq_int (ks : List Nat) (k : IntKind) (a b : Int) (as bs : List AVal) : cellsEq (1 :: ks) (.int k a :: as) (.int k b :: bs) = (cellsEq ks as bs).bind fun r => some ((a == b) && r) := by simp [cellsEq]
@[simp] theorem cellsEq_str (ks : List Nat) (a b : List UInt8) (as bs : List AVal) : cellsEq (2 :: ks) (.str a :: as) (.str b :: bs) = (cellsEq ks as bs).bind fun r => some ((a == b) && r) := rfl
theorem bin_cells (ks : List Nat) (a b : List AVal) : aBin .eql (.cells ks) (.agg a) (.agg b) = (cellsEq ks a b).map .bool ∧ aBin .neq (.cells ks) (.agg a) (.agg b) = (cellsEq ks a b).map fun r => .bool (!r) := by
  constructor <;> simp only [aBin, aEq] <;> cases cellsEq ks a b <;> rfl
@[simp] theorem bin_cells_eq (ks : List Nat) (a b : List AVal) : aBin .eql (.cells ks) (.agg a) (.agg b) = (cellsEq ks a b).map .bool := (bin_cells ks a b).1
@[simp] theorem bin_cells_ne (ks : List Nat) (a b : List AVal) : aBin .neq (.cells ks) (.agg a) (.agg b) = (cellsEq ks a b).map fun r => .bool (!r) := (bin_cells ks a b).2
structure Only (p : Nat) (h h' : Heap) : Prop where
  next : h.next ≤ h'.next
  old : ∀ b, b < h.next → b ≠ p → h'.blk b = h.blk b
theorem Only.refl (p : Nat) (h : Heap) : Only p h h := ⟨Nat.le_refl _, fun _ _ _ => rfl⟩
theorem Only.trans {p : Nat} {a b c : Heap} (x : Only p a b) (y : Only p b c) : Only p a c := ⟨Nat.le_trans x.next y.next, fun i hi hn => (y.old i (Nat.lt_of_lt_of_le hi x.next) hn).trans (x.old i hi hn)⟩
structure Tape (p : Nat) (s : AVal) (l : List Int) (h : Heap) : Prop where
  lt : p < h.next
  pos : ∃ n : Nat, n ≤ l.length ∧ h.blk p = some ⟨[s, .int .i64 n], true⟩
  ints : Ints .i64 s h l
  ne : ∀ b, slBlk s = some b → b < h.next ∧ b ≠ p
  sz : l.length < 4611686018427387904
theorem Tape.mono {p : Nat} {s : AVal} {l : List Int} {h h' : Heap} (T : Tape p s l h) (hn : h.next ≤ h'.next) (ho : ∀ b, b < h.next → h'.blk b = h.blk b) : Tape p s l h' where
  lt := Nat.lt_of_lt_of_le T.lt hn
  pos := by obtain ⟨n, h1, h2⟩ := T.pos; exact ⟨n, h1, by rw [ho p T.lt, h2]⟩
  ints := T.ints.mono fun b hb => ho b (T.ne b hb).1
  ne := fun b hb => ⟨Nat.lt_of_lt_of_le (T.ne b hb).1 hn, (T.ne b hb).2⟩
  sz := T.sz
theorem Tape.make {s : AVal} {l : List Int} {h : Heap} (I : Ints .i64 s h l) (lt : ∀ b, slBlk s = some b → b < h.next) (sz : l.length < 4611686018427387904) : Tape h.next s l (h.alloc [s, .int .i64 0]) where
  lt := by simp
  pos := ⟨0, by omega, by simp⟩
  ints := I.mono fun b hb => alloc_old _ _ (by have := lt b hb; omega)
  ne := fun b hb => by have := lt b hb; simp; omega
  sz := sz
noncomputable def tapeNextS (w : Nat) (call : Go.Fw.Call) (a0 a1 : AVal) (h : Heap) : Option J :=
 (aNilchk a0).bind fun v1 =>
 (aFaddr 1 v1).bind fun v2 =>
 (aLoad h 1 v2).bind fun c3 =>
 (fromCells false c3).bind fun v4 =>
 (aNilchk a0).bind fun v5 =>
 (aFaddr 0 v5).bind fun v6 =>
 (aLoad h 1 v6).bind fun c7 =>
 (fromCells false c7).bind fun v8 =>
 (aLen false v8).bind fun v9 =>
 (aBin .geq .plain v4 v9).bind fun v10 =>
 (guardV v10 false
 ((aBin .lss .plain a1 (.int .i64 1)).bind fun v11 =>
 some (0, [v11], h))
 (some (0, [skipV], h))).bind fun g12 =>
 (aPick v10 (.bool true) (g12.2.1.getD 0 .undef)).bind fun v13 =>
 condV v13
 (some (0, [(.int .i64 0)], g12.2.2))
 ((aNilchk a0).bind fun v14 =>
 (aFaddr 1 v14).bind fun v15 =>
 (aLoad g12.2.2 1 v15).bind fun c16 =>
 (fromCells false c16).bind fun v17 =>
 (aBin .add .plain v17 (.int .i64 1)).bind fun v18 =>
 (aNilchk a0).bind fun v19 =>
 (aFaddr 1 v19).bind fun v20 =>
 (aCells 1 v18).bind fun c21 =>
 (aStore g12.2.2 v20 c21).bind fun h22 =>
 (aNilchk a0).bind fun v23 =>
 (aFaddr 0 v23).bind fun v24 =>
 (aLoad h22 1 v24).bind fun c25 =>
 (fromCells false c25).bind fun v26 =>
 (aNilchk a0).bind fun v27 =>
 (aFaddr 1 v27).bind fun v28 =>
 (aLoad h22 1 v28).bind fun c29 =>
 (fromCells false c29).bind fun v30 =>
 (aBin .sub .plain v30 (.int .i64 1)).bind fun v31 =>
 (aIaddr 1 v26 v31).bind fun v32 =>
 (aLoad h22 1 v32).bind fun c33 =>
 (fromCells false c33).bind fun v34 =>
 (call w [v34, (.int .i64 0), (.int .i64 1073741824)] h22).bind fun r35 =>
 (aBin .rem .plain r35.1 a1).bind fun v36 =>
 some (0, [v36], r35.2))
def WithinOk (call : Go.Fw.Call) (w : Nat) : Prop := ∀ (a lo hi : Int) (h : Heap), -1000000000000 ≤ lo → lo ≤ hi → hi ≤ 1000000000000 → call w [.int .i64 a, .int .i64 lo, .int .i64 hi] h = some (.int .i64 (within a lo hi), h)
theorem tmod_in {a n : Int} (ha : 0 ≤ a) (hn : 1 ≤ n) : 0 ≤ a.tmod n ∧ a.tmod n < n :=
  ⟨Int.tmod_nonneg n ha, Int.tmod_lt_of_pos a (by omega)⟩
theorem tapeNext {w : Nat} {call : Go.Fw.Call} (W : WithinOk call w) {p : Nat} {s : AVal} {l : List Int} {h : Heap} (T : Tape p s l h) (n : Int) (hn : 1 ≤ n) :
    ∃ r h', tapeNextS w call (.ptr p 0) (.int .i64 n) h = some (0, [.int .i64 r], h') ∧ 0 ≤ r ∧ r < n ∧ Tape p s l h' ∧ Only p h h' ∧ h'.next = h.next := by
  obtain ⟨lt, ⟨at_, hat, hb⟩, I, ne, sz⟩ := T
  have r0 : h.rd p 0 1 = some [s] := rd_of hb 0 1 (by simp)
  have r1 : h.rd p 1 1 = some [.int .i64 at_] := rd_of hb 1 1 (by simp)
  have hn1 : ¬ n < 1 := by omega
  by_cases hge : l.length ≤ at_
  · refine ⟨0, h, ?_, by omega, by omega, ⟨lt, ⟨at_, hat, hb⟩, I, ne, sz⟩, Only.refl _ _, rfl⟩
    have h1 : ((l.length : Int) ≤ (at_ : Int)) := by omega
    simp [tapeNextS, r0, r1, I.len, h1]
  · have h1 : ¬ ((l.length : Int) ≤ (at_ : Int)) := by omega
    have w1 : IntKind.i64.wrap ((at_ : Int) + 1) = (at_ : Int) + 1 := IntWalk.i64_in _ (by omega)
    have w2 : IntKind.i64.wrap (at_ : Int) = (at_ : Int) := IntWalk.i64_in _ (by omega)
    let h2 := h.setBlk p (some ⟨[s, .int .i64 ((at_ : Int) + 1)], true⟩)
    have e2 : h.wr p 1 [.int .i64 ((at_ : Int) + 1)] = some h2 := by
      simp [Heap.wr, hb, h2]
    have hb2 : h2.blk p = some ⟨[s, .int .i64 ((at_ : Int) + 1)], true⟩ := setBlk_same _ _ _
    have r20 : h2.rd p 0 1 = some [s] := rd_of hb2 0 1 (by simp)
    have r21 : h2.rd p 1 1 = some [.int .i64 ((at_ : Int) + 1)] := rd_of hb2 1 1 (by simp)
    have I2 : Ints .i64 s h2 l := I.mono fun b hb => setBlk_ne _ _ (ne b hb).2
    obtain ⟨q, q1, q2⟩ := I2.at at_ (by omega)
    generalize l.getD at_ 0 = x at q2
    have hw := W x 0 1073741824 h2 (by omega) (by omega) (by omega)
    obtain ⟨w3, w4⟩ := within_in x 0 1073741824 (by omega)
    obtain ⟨m1, m2⟩ := tmod_in w3 hn
    have hn0 : ¬ n = 0 := by omega
    refine ⟨(within x 0 1073741824).tmod n, h2, ?_, m1, m2, ⟨lt, ⟨at_ + 1, by omega, hb2⟩, I2, ne, sz⟩, ⟨Nat.le_refl _, fun b _ hbp => setBlk_ne _ _ hbp⟩, rfl⟩
    have e1 : tapeNextS w call (.ptr p 0) (.int .i64 n) h = (call w [.int .i64 x, .int .i64 0, .int .i64 1073741824] h2).bind fun r35 => (aBin .rem .plain r35.1 (.int .i64 n)).bind fun v36 => some (0, [v36], r35.2) := by
      simp [tapeNextS, r0, r1, I.len, h1, hn1, w1, e2, r20, r21, w2, q1, q2]
    rw [e1, hw]
    simp [bin_rem, hn0]
def NextOk (call : Go.Fw.Call) (x : Nat) : Prop := ∀ {p : Nat} {s : AVal} {l : List Int} {h : Heap}, Tape p s l h → ∀ n : Int, 1 ≤ n →
    ∃ r h', call x [.ptr p 0, .int .i64 n] h = some (.int .i64 r, h') ∧ 0 ≤ r ∧ r < n ∧ Tape p s l h' ∧ Only p h h' ∧ h'.next = h.next
theorem Heap.res_next (h : Heap) (n : Nat) : (h.res n).next = h.next + n := rfl
theorem rd_blk {h h' : Heap} {b : Nat} (e : h'.blk b = h.blk b) (o n : Nat) : h'.rd b o n = h.rd b o n := by
  unfold Heap.rd; rw [e]
theorem Tape.fill {p : Nat} {s : AVal} {l : List Int} {h0 h : Heap} (T : Tape p s l h) {b : Nat} (hb : h0.next ≤ b) (h0p : p < h0.next) (h0s : ∀ b, slBlk s = some b → b < h0.next) (x : Option Blk) : Tape p s l (h.setBlk b x) where
  lt := T.lt
  pos := by obtain ⟨n, h1, h2⟩ := T.pos; exact ⟨n, h1, by rw [setBlk_ne _ _ (by omega), h2]⟩
  ints := T.ints.mono fun c hc => setBlk_ne _ _ (by have := h0s c hc; omega)
  ne := T.ne
  sz := T.sz
def keyApps : List (List UInt8) := [[97, 112, 112], [98], [97, 112, 112, 49], [122, 57]]
def keyIds : List (List UInt8) := [[105, 100], [97], [105, 100, 50], [120, 48], [109]]
noncomputable def tapeKeyS (nx : Nat) (call : Go.Fw.Call) (a0 : AVal) (h : Heap) : Option J :=
 (aFill (reps [.str []] 4) [(0, 1, (.str [97, 112, 112])), (1, 1, (.str [98])), (2, 1, (.str [97, 112, 112, 49])), (3, 1, (.str [122, 57]))]).bind fun c1 =>
 (call nx [a0, (.int .i64 4)] ((h.res 2).setBlk (h.next + 0) (some ⟨c1, true⟩))).bind fun r2 =>
 (aIaddr 1 (.slice (h.next + 0) 0 4 4 1 true) r2.1).bind fun v3 =>
 (aLoad r2.2 1 v3).bind fun c4 =>
 (fromCells false c4).bind fun v5 =>
 (aFill (reps [.str []] 5) [(0, 1, (.str [105, 100])), (1, 1, (.str [97])), (2, 1, (.str [105, 100, 50])), (3, 1, (.str [120, 48])), (4, 1, (.str [109]))]).bind fun c6 =>
 (call nx [a0, (.int .i64 5)] (r2.2.setBlk (h.next + 1) (some ⟨c6, true⟩))).bind fun r7 =>
 (aIaddr 1 (.slice (h.next + 1) 0 5 5 1 true) r7.1).bind fun v8 =>
 (aLoad r7.2 1 v8).bind fun c9 =>
 (fromCells false c9).bind fun v10 =>
 (aFill [.str [], .str []] [(0, 1, v5), (1, 1, v10)]).bind fun c11 =>
 (aCells 2 (.agg c11)).bind fun c12 =>
 bif Nat.ble ((0) + 2) (List.length (α := AVal) [.str [], .str []]) then bif checkPairs [(7, some (.ef [(2, [.str [], .str []])] (r2.2.setBlk (h.next + 1) (some ⟨c6, true⟩)) [(2, [.str [], .str []])] r7.2)), (4, logRd v3 1)] [(4, 7)] then (((rdL (splice [.str [], .str []] (0) c12) (0) 2).bind fun cs => fromCells true cs).bind fun v => (some []).bind fun vs => some (v :: vs)).bind fun vs => some (0, [oneOr vs], r7.2) else none else none
theorem str_at {h : Heap} {b : Nat} {L : List (List UInt8)} {n : Nat} (hn : n = L.length) (hb : h.blk b = some ⟨L.map .str, true⟩) (i : Int) (h0 : 0 ≤ i) (h1 : i < n) :
    ∃ t, t ∈ L ∧ aIaddr 1 (.slice b 0 n n 1 true) (.int .i64 i) = some (.ptr b i.toNat) ∧ h.rd b i.toNat 1 = some [.str t] := by
  subst hn
  have hi : i.toNat < L.length := by omega
  refine ⟨L[i.toNat], List.getElem_mem hi, by simp [aIaddr, aIdx_of _ _ _ h0 h1], ?_⟩
  rw [rd_of hb _ _ (by simp; omega)]
  simp only [Option.some.injEq]
  rw [List.drop_eq_getElem_cons (by simp [hi])]
  simp
theorem tapeKey {nx : Nat} {call : Go.Fw.Call} (N : NextOk call nx) {p : Nat} {s : AVal} {l : List Int} {h : Heap} (T : Tape p s l h) :
    ∃ a i h', tapeKeyS nx call (.ptr p 0) h = some (0, [.agg [.str a, .str i]], h') ∧ a ∈ keyApps ∧ i ∈ keyIds ∧ Tape p s l h' ∧ Only p h h' ∧ h'.next = h.next + 2 := by
  have l0 := T.lt
  have s0 : ∀ b, slBlk s = some b → b < h.next := fun b hb => (T.ne b hb).1
  have T1 : Tape p s l (h.res 2) := T.mono (by simp [Heap.res_next]) fun _ _ => rfl
  have T2 := T1.fill (h0 := h) (b := h.next) (Nat.le_refl _) l0 s0 (some ⟨keyApps.map .str, true⟩)
  obtain ⟨r1, h1, e1, a1, b1, T3, O1, n1⟩ := N T2 4 (by omega)
  have T4 := T3.fill (h0 := h) (b := h.next + 1) (by omega) l0 s0 (some ⟨keyIds.map .str, true⟩)
  obtain ⟨r2, h2, e2, a2, b2, T5, O2, n2⟩ := N T4 5 (by omega)
  have n1' : h1.next = h.next + 2 := n1
  have n2' : h2.next = h.next + 2 := n2.trans n1
  have k1 : h1.blk h.next = some ⟨keyApps.map .str, true⟩ := by
    rw [O1.old _ (by show _ < h.next + 2; omega) (by omega)]
    exact setBlk_same _ _ _
  have k2 : h2.blk (h.next + 1) = some ⟨keyIds.map .str, true⟩ := by
    rw [O2.old _ (by show _ < h1.next; omega) (by omega)]
    exact setBlk_same _ _ _
  obtain ⟨t1, m1, q1, d1⟩ := str_at (n := 4) rfl k1 r1 a1 b1
  obtain ⟨t2, m2, q2, d2⟩ := str_at (n := 5) rfl k2 r2 a2 b2
  have c1 : (h1.setBlk (h.next + 1) (some ⟨keyIds.map .str, true⟩)).rd h.next r1.toNat 1 = some [.str t1] := by
    rw [rd_blk (setBlk_ne _ _ (by omega)), d1]
  have c2 : h2.rd h.next r1.toNat 1 = some [.str t1] := by
    rw [rd_blk (O2.old _ (by show _ < h1.next; omega) (by omega)), c1]
  have O : Only p h h2 := by
    refine ⟨by omega, fun b hb hp => ?_⟩
    rw [O2.old b (by show _ < h1.next; omega) hp, setBlk_ne _ _ (by omega), O1.old b (by show _ < h.next + 2; omega) hp, setBlk_ne _ _ (by omega)]
    rfl
  refine ⟨t1, t2, h2, ?_, m1, m2, T5, O, n2'⟩
  simp only [keyApps, keyIds, List.map_cons, List.map_nil] at e1 e2 c1
  simp [tapeKeyS, e1, q1, d1, e2, q2, d2, checkPairs, c1, c2]
noncomputable def tapeStampS (nx : Nat) (call : Go.Fw.Call) (a0 : AVal) (h : Heap) : Option J :=
 (call nx [a0, (.int .i64 40)] h).bind fun r1 =>
 (call nx [a0, (.int .i64 6)] r1.2).bind fun r2 =>
 (call nx [a0, (.int .i64 9)] r2.2).bind fun r3 =>
 (aFill [.int .i64 0, .int .i64 0, .int .i64 0] [(0, 1, r1.1), (1, 1, r2.1), (2, 1, r3.1)]).bind fun c4 =>
 (aCells 3 (.agg c4)).bind fun c5 =>
 bif Nat.ble ((0) + 3) (List.length (α := AVal) [.int .i64 0, .int .i64 0, .int .i64 0]) then (((rdL (splice [.int .i64 0, .int .i64 0, .int .i64 0] (0) c5) (0) 3).bind fun cs => fromCells true cs).bind fun v => (some []).bind fun vs => some (v :: vs)).bind fun vs => some (0, [oneOr vs], r3.2) else none
theorem tapeStamp {nx : Nat} {call : Go.Fw.Call} (N : NextOk call nx) {p : Nat} {s : AVal} {l : List Int} {h : Heap} (T : Tape p s l h) :
    ∃ t k n h', tapeStampS nx call (.ptr p 0) h = some (0, [.agg [.int .i64 t, .int .i64 k, .int .i64 n]], h') ∧ (0 ≤ t ∧ t < 40) ∧ (0 ≤ k ∧ k < 6) ∧ (0 ≤ n ∧ n < 9) ∧ Tape p s l h' ∧ Only p h h' ∧ h'.next = h.next := by
  obtain ⟨r1, h1, e1, a1, b1, T1, O1, n1⟩ := N T 40 (by omega)
  obtain ⟨r2, h2, e2, a2, b2, T2, O2, n2⟩ := N T1 6 (by omega)
  obtain ⟨r3, h3, e3, a3, b3, T3, O3, n3⟩ := N T2 9 (by omega)
  exact ⟨r1, r2, r3, h3, by simp [tapeStampS, e1, e2, e3], ⟨a1, b1⟩, ⟨a2, b2⟩, ⟨a3, b3⟩, T3, (O1.trans O2).trans O3, by omega⟩
def KeyOk (call : Go.Fw.Call) (x : Nat) : Prop := ∀ {p : Nat} {s : AVal} {l : List Int} {h : Heap}, Tape p s l h →
    ∃ a i h', call x [.ptr p 0] h = some (.agg [.str a, .str i], h') ∧ a ∈ keyApps ∧ i ∈ keyIds ∧ Tape p s l h' ∧ Only p h h' ∧ h'.next = h.next + 2
def StampOk (call : Go.Fw.Call) (x : Nat) : Prop := ∀ {p : Nat} {s : AVal} {l : List Int} {h : Heap}, Tape p s l h →
    ∃ t k n h', call x [.ptr p 0] h = some (.agg [.int .i64 t, .int .i64 k, .int .i64 n], h') ∧ (0 ≤ t ∧ t < 40) ∧ (0 ≤ k ∧ k < 6) ∧ (0 ≤ n ∧ n < 9) ∧ Tape p s l h' ∧ Only p h h' ∧ h'.next = h.next
structure CardMay (a i : List UInt8) (s o l t k n : Int) : Prop where
  a : a ∈ keyApps
  i : i ∈ keyIds
  s : 1 ≤ s ∧ s ≤ 2
  o : 0 ≤ o ∧ o ≤ 3
  l : 1 ≤ l ∧ l ≤ 60
  t : 0 ≤ t ∧ t < 40
  k : 0 ≤ k ∧ k < 6
  n : 0 ≤ n ∧ n < 9
def CardOk (call : Go.Fw.Call) (x : Nat) : Prop := ∀ {p : Nat} {s : AVal} {l : List Int} {h : Heap}, Tape p s l h →
    ∃ a i st o le t k n g h', call x [.ptr p 0] h = some (.agg [.str a, .str i, .int .i64 st, .int .i64 o, .int .i64 le, .int .i64 t, .int .i64 k, .int .i64 n, .bool g], h') ∧ CardMay a i st o le t k n ∧ Tape p s l h' ∧ Only p h h'
noncomputable def tapeCardS (ky nx stp : Nat) (call : Go.Fw.Call) (a0 : AVal) (h : Heap) : Option J :=
 (call ky [a0] h).bind fun r1 =>
 (call nx [a0, (.int .i64 2)] r1.2).bind fun r2 =>
 (aBin .add .plain (.int .i64 1) r2.1).bind fun v3 =>
 (call nx [a0, (.int .i64 7)] r2.2).bind fun r4 =>
 (aBin .quo .plain r4.1 (.int .i64 2)).bind fun v5 =>
 (call nx [a0, (.int .i64 60)] r4.2).bind fun r6 =>
 (aBin .add .plain (.int .i64 1) r6.1).bind fun v7 =>
 (call stp [a0] r6.2).bind fun r8 =>
 (call nx [a0, (.int .i64 4)] r8.2).bind fun r9 =>
 (aBin .eql .plain r9.1 (.int .i64 0)).bind fun v10 =>
 (aFill [.str [], .str [], .int .i64 0, .int .i64 0, .int .i64 0, .int .i64 0, .int .i64 0, .int .i64 0, .bool false] [(0, 2, r1.1), (2, 1, v3), (3, 1, v5), (4, 1, v7), (5, 3, r8.1), (8, 1, v10)]).bind fun c11 =>
 (aCells 9 (.agg c11)).bind fun c12 =>
 bif Nat.ble ((0) + 9) (List.length (α := AVal) [.str [], .str [], .int .i64 0, .int .i64 0, .int .i64 0, .int .i64 0, .int .i64 0, .int .i64 0, .bool false]) then (((rdL (splice [.str [], .str [], .int .i64 0, .int .i64 0, .int .i64 0, .int .i64 0, .int .i64 0, .int .i64 0, .bool false] (0) c12) (0) 9).bind fun cs => fromCells true cs).bind fun v => (some []).bind fun vs => some (v :: vs)).bind fun vs => some (0, [oneOr vs], r9.2) else none
theorem tapeCard {ky nx stp : Nat} {call : Go.Fw.Call} (N : NextOk call nx) (K : KeyOk call ky) (S : StampOk call stp) {p : Nat} {s : AVal} {l : List Int} {h : Heap} (T : Tape p s l h) :
    ∃ a i st o le t k n g h', tapeCardS ky nx stp call (.ptr p 0) h = some (0, [.agg [.str a, .str i, .int .i64 st, .int .i64 o, .int .i64 le, .int .i64 t, .int .i64 k, .int .i64 n, .bool g]], h') ∧ CardMay a i st o le t k n ∧ Tape p s l h' ∧ Only p h h' := by
  obtain ⟨a, i, h1, e1, ma, mi, T1, O1, _⟩ := K T
  obtain ⟨r2, h2, e2, a2, b2, T2, O2, _⟩ := N T1 2 (by omega)
  obtain ⟨r3, h3, e3, a3, b3, T3, O3, _⟩ := N T2 7 (by omega)
  obtain ⟨r4, h4, e4, a4, b4, T4, O4, _⟩ := N T3 60 (by omega)
  obtain ⟨t, k, n, h5, e5, c1, c2, c3, T5, O5, _⟩ := S T4
  obtain ⟨r6, h6, e6, a6, b6, T6, O6, _⟩ := N T5 4 (by omega)
  have w2 : IntKind.i64.wrap (1 + r2) = 1 + r2 := IntWalk.i64_in _ (by omega)
  have w4 : IntKind.i64.wrap (1 + r4) = 1 + r4 := IntWalk.i64_in _ (by omega)
  have q : r3.tdiv 2 = r3 / 2 := Int.tdiv_eq_ediv_of_nonneg a3
  have w3 : IntKind.i64.wrap (r3 / 2) = r3 / 2 := IntWalk.i64_in _ (by omega)
  refine ⟨a, i, 1 + r2, r3 / 2, 1 + r4, t, k, n, r6 == 0, h6, ?_, ⟨ma, mi, by omega, by omega, by omega, c1, c2, c3⟩, T6, ((((O1.trans O2).trans O3).trans O4).trans O5).trans O6⟩
  simp [tapeCardS, e1, e2, w2, e3, bin_quo, q, w3, e4, w4, e5, e6]
structure Keeps (h h' : Heap) : Prop where
  next : h.next ≤ h'.next
  old : ∀ b, b < h.next → h'.blk b = h.blk b
theorem Keeps.refl (h : Heap) : Keeps h h := ⟨Nat.le_refl _, fun _ _ => rfl⟩
theorem Keeps.trans {a b c : Heap} (x : Keeps a b) (y : Keeps b c) : Keeps a c := ⟨Nat.le_trans x.next y.next, fun i hi => (y.old i (Nat.lt_of_lt_of_le hi x.next)).trans (x.old i hi)⟩
theorem Keeps.alloc (h : Heap) (cs : List AVal) : Keeps h (h.alloc cs) := ⟨by simp, fun b hb => alloc_old _ _ (by omega)⟩
theorem Keeps.set {h h' : Heap} (K : Keeps h h') {b : Nat} (hb : h.next ≤ b) (x : Option Blk) : Keeps h (h'.setBlk b x) := ⟨K.next, fun c hc => by rw [setBlk_ne _ _ (by omega)]; exact K.old c hc⟩
theorem Keeps.res (h : Heap) (m : Nat) : Keeps h (h.res m) := ⟨by rw [Heap.res_next]; omega, fun _ _ => rfl⟩
theorem Keeps.only {h h' : Heap} (K : Keeps h h') (p : Nat) : Only p h h' := ⟨K.next, fun b hb _ => K.old b hb⟩
theorem Tape.keeps {p : Nat} {s : AVal} {l : List Int} {h h' : Heap} (T : Tape p s l h) (K : Keeps h h') : Tape p s l h' := T.mono K.next K.old
theorem Ints.keeps {k : IntKind} {s : AVal} {h h' : Heap} {l : List Int} (I : Ints k s h l) (hs : ∀ b, slBlk s = some b → b < h.next) (K : Keeps h h') : Ints k s h' l := I.mono fun b hb => K.old b (hs b hb)
theorem Ints.cell {k : IntKind} {s : AVal} {h : Heap} {l : List Int} (I : Ints k s h l) : aCells 1 s = some [s] := by
  rcases I with ⟨rfl, _⟩ | ⟨b, off, cap, ex, rfl, _⟩ <;> rfl
open Go.RowKit Go.WideShapes Go.ChangeShapes
inductive LeafK where
  | int (k : IntKind)
  | bool
  | str
  deriving DecidableEq
def LeafOk : LeafK → AVal → Value → Prop
  | .int k, .int k' n, v => k' = k ∧ (Lit.int k n).wf = true ∧ v = .int k n
  | .bool, .bool b, v => v = .bool b
  | .str, .str l, v => v = .string ⟨l.toArray⟩ ∧ l.length ≤ maxLen
  | _, _, _ => False
def LeafsOk : List LeafK → List AVal → List Value → Prop
  | [], [], [] => True
  | k :: ks, a :: as, v :: vs => LeafOk k a v ∧ LeafsOk ks as vs
  | _, _, _ => False
theorem LeafOk.rel {k : LeafK} {a : AVal} {v : Value} (h : LeafOk k a v) (φ : Phi) : VRel φ a v := by
  cases k <;> cases a <;> simp only [LeafOk] at h <;> unfold VRel
  · obtain ⟨rfl, _, rfl⟩ := h; rfl
  · exact h
  · exact h.1
theorem LeafOk.cell {k : LeafK} {a : AVal} {v : Value} (h : LeafOk k a v) : v.oneCell' = true := by
  cases k <;> cases a <;> simp only [LeafOk] at h
  · obtain ⟨rfl, _, rfl⟩ := h; rfl
  · subst h; rfl
  · obtain ⟨rfl, _⟩ := h; rfl
theorem LeafsOk.len : ∀ {ks : List LeafK} {as : List AVal} {vs : List Value}, LeafsOk ks as vs → as.length = ks.length ∧ vs.length = ks.length
  | [], [], [], _ => ⟨rfl, rfl⟩
  | _ :: _, _ :: _, _ :: _, h => ⟨by simp [(LeafsOk.len h.2).1], by simp [(LeafsOk.len h.2).2]⟩
  | [], _ :: _, _, h => h.elim
  | [], [], _ :: _, h => h.elim
  | _ :: _, [], _, h => h.elim
  | _ :: _, _ :: _, [], h => h.elim
theorem LeafsOk.at : ∀ {ks : List LeafK} {as : List AVal} {vs : List Value}, LeafsOk ks as vs → ∀ (i : Nat) (a : AVal), as[i]? = some a → ∃ k v, vs[i]? = some v ∧ LeafOk k a v
  | [], [], [], _, i, a, h => by simp at h
  | k :: _, b :: _, v :: _, h, 0, a, e => by
    simp only [List.getElem?_cons_zero, Option.some.injEq] at e
    subst e
    exact ⟨k, v, rfl, h.1⟩
  | _ :: _, _ :: _, _ :: _, h, i + 1, a, e => by
    simp only [List.getElem?_cons_succ] at e ⊢
    exact LeafsOk.at h.2 i a e
  | [], _ :: _, _, h, _, _, _ => h.elim
  | [], [], _ :: _, h, _, _, _ => h.elim
  | _ :: _, [], _, h, _, _, _ => h.elim
  | _ :: _, _ :: _, [], h, _, _, _ => h.elim
theorem LeafsOk.app : ∀ {ks ks' : List LeafK} {as as' : List AVal} {vs vs' : List Value}, LeafsOk ks as vs → LeafsOk ks' as' vs' → LeafsOk (ks ++ ks') (as ++ as') (vs ++ vs')
  | [], _, [], _, [], _, _, h => h
  | _ :: _, _, _ :: _, _, _ :: _, _, h, h' => ⟨h.1, LeafsOk.app h.2 h'⟩
  | [], _, _ :: _, _, _, _, h, _ => h.elim
  | [], _, [], _, _ :: _, _, h, _ => h.elim
  | _ :: _, _, [], _, _, _, h, _ => h.elim
  | _ :: _, _, _ :: _, _, [], _, h, _ => h.elim
def leafFs (P : Program) (f : TypeId → Option (List LeafK)) : Nat → List Field → Option (List LeafK)
  | _, [] => some []
  | off, x :: r => match f x.type with
    | some L => if x.offset = off ∧ P.cellsOf x.type = L.length then (leafFs P f (off + L.length) r).map (L ++ ·) else none
    | none => none
def leafs (P : Program) : Nat → TypeId → Option (List LeafK)
  | 0, _ => none
  | n + 1, t => match P.underlying t with
    | some (.int k) => some [.int k]
    | some .bool => some [.bool]
    | some .string => some [.str]
    | some (.struct fs) => match leafFs P (leafs P n) 0 fs.toList with
      | some L => if L.length = P.cellsOf t then some L else none
      | none => none
    | _ => none
section
variable {H : Type} {enc : TypeId × Value → H} {P : Program} {w : World} {base : Nat} {sp : Nat → Bool} {held : Bool}
end
abbrev KeyT := List UInt8 × List UInt8
def kcells : List KeyT → List AVal
  | [] => []
  | k :: r => .str k.1 :: .str k.2 :: kcells r
@[simp] theorem kcells_len : ∀ l : List KeyT, (kcells l).length = l.length * 2
  | [] => rfl
  | k :: r => by simp [kcells, kcells_len r]; omega
theorem kcells_drop : ∀ (l : List KeyT) (i : Nat), (kcells l).drop (i * 2) = kcells (l.drop i)
  | l, 0 => by simp
  | [], i + 1 => by simp [kcells]
  | k :: r, i + 1 => by
    rw [show (i + 1) * 2 = i * 2 + 1 + 1 by omega, kcells, List.drop_succ_cons, List.drop_succ_cons, kcells_drop r i, List.drop_succ_cons]
abbrev SrcK (s : AVal) (h : Heap) (l : List KeyT) : Prop := Src 2 s h l.length (kcells l)
abbrev OwnK (s : AVal) (h : Heap) (n0 : Nat) (l : List KeyT) : Prop := Own 2 s h n0 l.length (kcells l)
theorem Src.key {s : AVal} {h : Heap} {l : List KeyT} (S : SrcK s h l) (i : Nat) (hi : i < l.length) : ∃ p, aIaddr 2 s (.int .i64 i) = some p ∧ aLoad h 2 p = some [.str l[i].1, .str l[i].2] := by
  obtain ⟨p, e1, e2⟩ := S.at i hi
  refine ⟨p, e1, ?_⟩
  rw [e2, kcells_drop, List.drop_eq_getElem_cons hi]
  rfl
theorem Src.rest {es : Nat} {s : AVal} {h : Heap} {m : Nat} {cells : List AVal} (S : Src es s h m cells) (i : Nat) (hi : i ≤ m) :
    ∃ s', aSliceSl es s (some (.int .i64 i)) none none = some s' ∧ Src es s' h (m - i) (cells.drop (i * es)) ∧ ∀ b, slBlk s' = some b → slBlk s = some b := by
  obtain ⟨hl, ⟨rfl, rfl⟩ | ⟨b, off, cap, ex, rfl, a2, a4⟩⟩ := S
  · obtain rfl : i = 0 := by omega
    refine ⟨.nilSlice, rfl, ⟨by simpa using hl, .inl ⟨rfl, rfl⟩⟩, fun b hb => hb⟩
  · have hle : i * es ≤ m * es := Nat.mul_le_mul_right es hi
    have hs : (m - i) * es = m * es - i * es := Nat.sub_mul m i es
    obtain ⟨x, hx, hlx, hcs⟩ := rd_inv a4
    refine ⟨.slice b (off + i * es) (m - i) (cap - i) es (ex || false), ?_, ⟨by rw [List.length_drop, hl, hs], .inr ⟨b, _, _, _, rfl, a2, ?_⟩⟩, fun c hc => hc⟩
    · simp [aSliceSl, aBound, hi]
    · rw [rd_of hx _ _ (by omega)]
      rw [hcs, List.drop_take, List.drop_drop, hs]
@[simp 2000] theorem eq_key (a b c d : List UInt8) : aBin .eql (.cells [2, 2]) (.agg [.str a, .str b]) (.agg [.str c, .str d]) = some (.bool (decide ((a, b) = (c, d)))) := by
  by_cases h1 : a = c <;> by_cases h2 : b = d <;> simp [h1, h2]
@[simp 2000] theorem ne_key (a b c d : List UInt8) : aBin .neq (.cells [2, 2]) (.agg [.str a, .str b]) (.agg [.str c, .str d]) = some (.bool (decide (¬ (a, b) = (c, d)))) := by
  by_cases h1 : a = c <;> by_cases h2 : b = d <;> simp [h1, h2]
def Buf (es : Nat) (s : AVal) (h : Heap) (n0 m : Nat) (cells : List AVal) : Prop :=
  cells.length = m * es ∧ ((s = .nilSlice ∧ m = 0) ∨ ∃ b ex k rest, s = .slice b 0 m (m + k) es ex ∧ n0 ≤ b ∧ b < h.next ∧ rest.length = k * es ∧ h.blk b = some ⟨cells ++ rest, true⟩)
theorem Buf.nil (es : Nat) (h : Heap) (n0 : Nat) : Buf es .nilSlice h n0 0 [] := ⟨by simp, .inl ⟨rfl, rfl⟩⟩
theorem Own.buf {es : Nat} {s : AVal} {h : Heap} {n0 m : Nat} {cells : List AVal} (O : Own es s h n0 m cells) : Buf es s h n0 m cells := by
  obtain ⟨hl, h1 | ⟨b, ex, rfl, h1, h2, h3⟩⟩ := O
  · exact ⟨hl, .inl h1⟩
  · exact ⟨hl, .inr ⟨b, ex, 0, [], rfl, h1, h2, by simp, by simpa using h3⟩⟩
theorem Buf.src {es : Nat} {s : AVal} {h : Heap} {n0 m : Nat} {cells : List AVal} (O : Buf es s h n0 m cells) : Src es s h m cells := by
  obtain ⟨hl, h1 | ⟨b, ex, k, rest, rfl, h1, h2, h3, h4⟩⟩ := O
  · exact ⟨hl, .inl h1⟩
  · refine ⟨hl, .inr ⟨b, 0, m + k, ex, rfl, h2, ?_⟩⟩
    rw [rd_of h4 0 _ (by simp [hl]), ← hl]
    simp
theorem Buf.blk {es : Nat} {s : AVal} {h : Heap} {n0 m : Nat} {cells : List AVal} (O : Buf es s h n0 m cells) : ∀ b, slBlk s = some b → n0 ≤ b ∧ b < h.next := by
  intro b hb
  obtain ⟨_, ⟨rfl, _⟩ | ⟨b', ex, k, rest, rfl, h1, h2, _⟩⟩ := O
  · cases hb
  · cases hb; exact ⟨h1, h2⟩
theorem Buf.kept {es : Nat} {s : AVal} {h : Heap} {n0 m : Nat} {cells : List AVal} (O : Buf es s h n0 m cells) {h' : Heap} (hn : h.next ≤ h'.next) (ho : ∀ b, slBlk s = some b → h'.blk b = h.blk b) : Buf es s h' n0 m cells := by
  obtain ⟨hl, h1 | ⟨b, ex, k, rest, rfl, a1, a2, a3, a4⟩⟩ := O
  · exact ⟨hl, .inl h1⟩
  · exact ⟨hl, .inr ⟨b, ex, k, rest, rfl, a1, by omega, a3, by rw [ho b rfl, a4]⟩⟩
theorem Buf.base {es : Nat} {s : AVal} {h : Heap} {n0 m : Nat} {cells : List AVal} (O : Buf es s h n0 m cells) {n1 : Nat} (hn : n1 ≤ n0) : Buf es s h n1 m cells := by
  obtain ⟨hl, h1 | ⟨b, ex, k, rest, rfl, a1, a2, a3, a4⟩⟩ := O
  · exact ⟨hl, .inl h1⟩
  · exact ⟨hl, .inr ⟨b, ex, k, rest, rfl, by omega, a2, a3, a4⟩⟩
theorem Buf.cell {es : Nat} {s : AVal} {h : Heap} {n0 m : Nat} {cells : List AVal} (O : Buf es s h n0 m cells) : aCells 1 s = some [s] := by
  obtain ⟨_, ⟨rfl, _⟩ | ⟨b, ex, k, rest, rfl, _⟩⟩ := O <;> rfl
theorem Own.cell {es : Nat} {s : AVal} {h : Heap} {n0 m : Nat} {cells : List AVal} (O : Own es s h n0 m cells) : aCells 1 s = some [s] := O.buf.cell
theorem Src.cell {es : Nat} {s : AVal} {h : Heap} {m : Nat} {cells : List AVal} (O : Src es s h m cells) : aCells 1 s = some [s] := by
  obtain ⟨_, ⟨rfl, _⟩ | ⟨b, off, cap, ex, rfl, _⟩⟩ := O <;> rfl
theorem splice_eq (pre old news post : List AVal) (h : old.length = news.length) : splice (pre ++ (old ++ post)) pre.length news = pre ++ (news ++ post) := by
  unfold splice
  rw [List.take_left, List.append_assoc, ← h, List.drop_append, List.drop_of_length_le (by omega), Nat.add_sub_cancel_left, List.nil_append, List.drop_left]
theorem Buf.app {es bytes : Nat} {zero : List AVal} {s x : AVal} {h : Heap} {n0 n m : Nat} {cells news : List AVal} (O : Buf es s h n0 n cells) (S : Src es x h m news) (hes : 0 < es) (h0 : n0 ≤ h.next) (hb : (n + m) * bytes ≤ 140737488355328) (hc : n + m ≤ 4611686018427387904) :
    ∃ s' h', aAppend es bytes zero false s x h = some (s', h') ∧ Buf es s' h' n0 (n + m) (cells ++ news) ∧ Kept h s h' s' := by
  by_cases hm : m = 0
  · subst hm
    have hn : news = [] := List.length_eq_zero_iff.1 (by have := S.1; omega)
    subst hn
    have hnews : aNews es bytes zero false x h = some (0, []) := by
      obtain ⟨_, ⟨rfl, _⟩ | ⟨b, off, cap, ex, rfl, _⟩⟩ := S <;> rfl
    refine ⟨s, h, ?_, by simpa using O, Kept.refl _ _⟩
    unfold aAppend
    rw [hnews]
    obtain ⟨_, ⟨rfl, rfl⟩ | ⟨b, ex, k, rest, rfl, a1, a2, a3, a4⟩⟩ := O
    · rfl
    · have hee : Nat.beq es es = true := Nat.beq_refl es
      simp only [Option.bind_some, hee, cond_true]
      rfl
  · obtain ⟨hl, h1 | ⟨b, ex, k, rest, rfl, a1, a2, a3, a4⟩⟩ := O
    · have O' : Own es s h n0 n cells := ⟨hl, .inl h1⟩
      obtain ⟨s', h', e, O2, K⟩ := O'.app (bytes := bytes) (zero := zero) S hes h0 hb hc
      exact ⟨s', h', e, O2.buf, K⟩
    · have hee : Nat.beq es es = true := Nat.beq_refl es
      have hm0 : Nat.beq m 0 = false := by rw [beq_dec]; simpa using hm
      have hnews : aNews es bytes zero false x h = some (m, news) := by
        obtain ⟨hl2, ⟨rfl, rfl⟩ | ⟨b', off, cap, ex', rfl, _, h5⟩⟩ := S
        · exact (hm rfl).elim
        · unfold aNews
          simp only [hm0, hee, h5, cond_true, cond_false, Option.bind_some]
      by_cases hk : m ≤ k
      · -- within
        have hle : Nat.ble (n + m) (n + k) = true := by rw [ble_dec]; simpa using hk
        have hmul : m * es ≤ k * es := Nat.mul_le_mul_right es hk
        have hnl := S.1
        have hsp : cells ++ rest = cells ++ (rest.take (m * es) ++ rest.drop (m * es)) := by rw [List.take_append_drop]
        refine ⟨.slice b 0 (n + m) (n + k) es ex, h.setBlk b (some ⟨(cells ++ news) ++ rest.drop (m * es), true⟩), ?_, ⟨by rw [List.length_append, hl, hnl, Nat.add_mul], .inr ⟨b, ex, k - m, rest.drop (m * es), by rw [Nat.add_assoc, Nat.add_sub_cancel' hk], a1, a2, by rw [List.length_drop, a3, Nat.sub_mul], setBlk_same _ _ _⟩⟩, ⟨Nat.le_refl _, fun c hc hne => setBlk_ne _ _ fun e => hne (by rw [e]; rfl), fun c hc => .inl hc⟩⟩
        unfold aAppend
        rw [hnews]
        simp only [Option.bind_some, hee, cond_true, hm0, cond_false, hle, Nat.zero_add]
        rw [wr_of a4 _ _ (by rw [List.length_append, hl, hnl, a3]; omega), hsp, ← hl, splice_eq _ _ _ _ (by rw [List.length_take, a3, hnl]; omega)]
        simp
      · -- a new block
        have hle : Nat.ble (n + m) (n + k) = false := by
          rw [ble_dec]; simpa using hk
        have hold : h.rd b 0 (n * es) = some cells := by
          rw [rd_of a4 0 _ (by simp [hl]), ← hl]
          simp
        have hnl := S.1
        unfold aAppend
        rw [hnews]
        simp only [Option.bind_some, hee, cond_true, hm0, cond_false, hle]
        rw [if_pos ⟨hb, hc⟩]
        cases ex with
        | true =>
          simp only [cond_true]
          by_cases hn : n = 0
          · subst hn
            have hcn : cells = [] := List.length_eq_zero_iff.1 (by omega)
            subst hcn
            have h00 : Nat.beq 0 0 = true := rfl
            simp only [h00, cond_true]
            refine ⟨_, _, rfl, ⟨by simp [hnl], .inr ⟨h.next, false, 0, [], by simp, h0, by simp, by simp, ?_⟩⟩, ⟨by simp, fun c hc _ => alloc_old _ _ (by omega), fun c hc => by cases hc; exact .inr (Nat.le_refl _)⟩⟩
            rw [alloc_same, List.nil_append, List.append_nil]
          · have hn0 : Nat.beq n 0 = false := by rw [beq_dec]; simpa using hn
            simp only [hn0, cond_false, hold, Option.bind_some]
            refine ⟨_, _, rfl, ⟨by rw [List.length_append, hl, hnl, Nat.add_mul], .inr ⟨h.next, false, 0, [], rfl, h0, by simp, by simp, ?_⟩⟩, ⟨by simp, fun c hc _ => alloc_old _ _ (by omega), fun c hc => by cases hc; exact .inr (Nat.le_refl _)⟩⟩
            rw [alloc_same, List.append_nil]
        | false =>
          simp only [cond_false, a4, hold, Option.bind_some]
          refine ⟨_, _, rfl, ⟨by rw [List.length_append, hl, hnl, Nat.add_mul], .inr ⟨h.next, false, 0, [], rfl, h0, by simp, by simp, ?_⟩⟩, ⟨by simp, fun c hc hne => ?_, fun c hc => by cases hc; exact .inr (Nat.le_refl _)⟩⟩
          · rw [setBlk_ne _ _ (by omega), alloc_same, List.append_nil]
          · have : c ≠ b := fun e => hne (by rw [e]; rfl)
            rw [setBlk_ne _ _ this, alloc_old _ _ (by omega)]
theorem Buf.snoc {es bytes : Nat} {zero : List AVal} {s : AVal} {h : Heap} {n0 n : Nat} {cells news : List AVal} (O : Buf es s h n0 n cells) (hes : 0 < es) (hl : news.length = es) (h0 : n0 ≤ h.next) (hb : (n + 1) * bytes ≤ 140737488355328) (hc : n + 1 ≤ 4611686018427387904) :
    ∃ s' h', aAppend es bytes zero false s (.slice h.next 0 1 1 es true) (h.alloc news) = some (s', h') ∧ Buf es s' h' n0 (n + 1) (cells ++ news) ∧ Kept h s h' s' := by
  have K := Kept.alloc h s news
  have O' : Buf es s (h.alloc news) n0 n cells := O.kept K.next fun b hb => alloc_old _ _ (by have := (O.blk b hb).2; omega)
  have S := (Own.lit es h news 1 (by omega) true).src
  obtain ⟨s', h', e, O2, K2⟩ := O'.app (bytes := bytes) (zero := zero) S hes (by simp; omega) hb hc
  exact ⟨s', h', e, O2, K.trans K2⟩
structure Fr (p : Nat) (sl : AVal) (h h' : Heap) : Prop where
  next : h.next ≤ h'.next
  old : ∀ b, b < h.next → b ≠ p → slBlk sl ≠ some b → h'.blk b = h.blk b
theorem Fr.refl (p : Nat) (sl : AVal) (h : Heap) : Fr p sl h h := ⟨Nat.le_refl _, fun _ _ _ _ => rfl⟩
theorem Went.fr {h h' : Heap} (W : Went h h') (p : Nat) (sl : AVal) : Fr p sl h h' := ⟨W.next, fun b hb _ _ => W.old b hb⟩
theorem Fr.went {h0 h h' : Heap} {p : Nat} {sl : AVal} (F : Fr p sl h h') (W : Went h0 h) (hp : h0.next ≤ p) (hs : ∀ b, slBlk sl = some b → h0.next ≤ b) : Went h0 h' :=
  ⟨Nat.le_trans W.next F.next, fun i hi => by
    rw [F.old i (by have := W.next; omega) (by omega) (fun e => by have := hs i e; omega)]
    exact W.old i hi⟩
theorem Fr.src {h h' : Heap} {p : Nat} {sl : AVal} (F : Fr p sl h h') {es : Nat} {s : AVal} {m : Nat} {cells : List AVal} (S : Src es s h m cells) (hs : ∀ c, slBlk s = some c → c ≠ p ∧ slBlk sl ≠ some c) : Src es s h' m cells :=
  S.kept F.next fun c hc => F.old c (S.blk c hc) (hs c hc).1 (hs c hc).2
def grid (n : Nat) (f : Nat → Nat → Bool) : List AVal := (List.range (n * n)).map fun i => .bool (f (i / n) (i % n))
@[simp] theorem grid_len (n : Nat) (f : Nat → Nat → Bool) : (grid n f).length = n * n := by simp [grid]
def upd (f : Nat → Nat → Bool) (a b : Nat) (v : Bool) : Nat → Nat → Bool := fun x y => if x = a ∧ y = b then v else f x y
@[simp] theorem bin_str_eql (a b : List UInt8) : aBin .eql .plain (.str a) (.str b) = some (.bool (a == b)) := rfl
@[simp] theorem bin_str_neq (a b : List UInt8) : aBin .neq .plain (.str a) (.str b) = some (.bool (!(a == b))) := rfl
open Go.RowKit Go.WideShapes Go.ChangeShapes
section
variable {H : Type} {enc : TypeId × Value → H} {P : Program} {w : World}
structure Inner (k : IntKind) (P : Program) (e : TypeId) (w : World) (v : Value) (d : DataW H) (L : Loc) (mk : Nat → AVal) (l : List Int) : Prop where
  rel : ∀ φ i, φ i = some L → VRel φ (mk i) v
  ro : ∀ φ, RoOk φ w (L, l.map (.int k))
  src : ∀ (h : Heap) i, i < h.next → h.blk i = some ⟨l.map (.int k), false⟩ → Src 1 (mk i) h l.length (l.map (.int k))
  one : v.oneCell' = true
  wf : ∀ x ∈ l, (Lit.int k x).wf = true
  sz : ∀ f, P.underlying e = some (.slice f) → (∀ x ∈ d.weights P e, x ≤ reachBytes) → l.length * P.bytesOf f ≤ reachBytes
  room : ∀ i b off n cap es ex, mk i = .slice b off n cap es ex → n ≤ cap
structure NestIt where
  loc : Loc
  av : Nat → AVal
  nums : List Int
def Rows (k : IntKind) (s : AVal) (h : Heap) (L : List (AVal × List Int)) : Prop :=
  Src 1 s h L.length (L.map (·.1)) ∧ ∀ x ∈ L, Src 1 x.1 h x.2.length (x.2.map (.int k)) ∧ (∀ y ∈ x.2, (Lit.int k y).wf = true) ∧ ∀ b off n cap es ex, x.1 = .slice b off n cap es ex → n ≤ cap
end
abbrev Foot := Nat → Prop
structure Mv (F F' : Foot) (H H' : Heap) : Prop where
  next : H.next ≤ H'.next
  old : ∀ b, b < H.next → ¬ F b → H'.blk b = H.blk b
  new : ∀ b, F' b → F b ∨ H.next ≤ b
theorem Mv.refl (F : Foot) (H : Heap) : Mv F F H H := ⟨Nat.le_refl _, fun _ _ _ => rfl, fun _ h => .inl h⟩
theorem Mv.trans {F F' F'' : Foot} {a b c : Heap} (x : Mv F F' a b) (y : Mv F' F'' b c) : Mv F F'' a c where
  next := Nat.le_trans x.next y.next
  old := fun i hi hn => by
    rw [y.old i (Nat.lt_of_lt_of_le hi x.next) (fun h => (x.new i h).elim hn fun h => by omega), x.old i hi hn]
  new := fun i h => (y.new i h).elim (x.new i) fun h => .inr (Nat.le_trans x.next h)
theorem Mv.went {F' : Foot} {H H' : Heap} (x : Mv (fun _ => False) F' H H') : Went H H' := ⟨x.next, fun b hb => x.old b hb id⟩
theorem Went.then {F F' : Foot} {h H H' : Heap} (W : Went h H) (hF : ∀ b, F b → h.next ≤ b) (x : Mv F F' H H') : Went h H' :=
  ⟨Nat.le_trans W.next x.next, fun b hb => by rw [x.old b (Nat.lt_of_lt_of_le hb W.next) (fun h => by have := hF b h; omega), W.old b hb]⟩
theorem Mv.behind {F F' : Foot} {H H' : Heap} (x : Mv F F' H H') {n : Nat} (hF : ∀ b, F b → n ≤ b) (hn : n ≤ H.next) : ∀ b, F' b → n ≤ b := fun b h => (x.new b h).elim (hF b) fun h => Nat.le_trans hn h
theorem Mv.apart {F F' G : Foot} {H H' : Heap} (x : Mv F F' H H') (hG : ∀ b, G b → b < H.next) (ha : ∀ b, F b → ¬ G b) : ∀ b, F' b → ¬ G b :=
  fun b h g => (x.new b h).elim (fun h => ha b h g) fun h => by have := hG b g; omega
structure El (α : Type) (es : Nat) where
  f : α → List AVal
  len : ∀ x, (f x).length = es
  pos : 0 < es
namespace El
variable {α : Type} {es : Nat} (E : El α es)
def rws : List α → List AVal
  | [] => []
  | x :: r => E.f x ++ rws r
@[simp] theorem rws_nil : E.rws [] = [] := rfl
@[simp] theorem rws_cons (x : α) (r : List α) : E.rws (x :: r) = E.f x ++ E.rws r := rfl
@[simp] theorem rws_len : ∀ l : List α, (E.rws l).length = l.length * es
  | [] => by simp
  | x :: r => by rw [rws_cons, List.length_append, E.len, rws_len r, List.length_cons, Nat.succ_mul]; omega
theorem rws_app : ∀ l m : List α, E.rws (l ++ m) = E.rws l ++ E.rws m
  | [], _ => rfl
  | x :: r, m => by rw [List.cons_append, rws_cons, rws_app r m, rws_cons, List.append_assoc]
theorem rws_one (x : α) : E.rws [x] = E.f x := by simp
theorem rws_drop : ∀ (l : List α) (i : Nat), (E.rws l).drop (i * es) = E.rws (l.drop i)
  | l, 0 => by simp
  | [], i + 1 => by simp
  | x :: r, i + 1 => by
    have h1 : (i + 1) * es = (E.f x).length + i * es := by rw [E.len x, Nat.succ_mul]; omega
    rw [h1, ← List.drop_drop, rws_cons, List.drop_left, rws_drop r i, List.drop_succ_cons]
theorem rws_take : ∀ (l : List α) (i : Nat), (E.rws l).take (i * es) = E.rws (l.take i)
  | l, 0 => by simp
  | [], i + 1 => by simp
  | x :: r, i + 1 => by
    have h1 : (i + 1) * es = (E.f x).length + i * es := by rw [E.len x, Nat.succ_mul]; omega
    rw [rws_cons, List.take_succ_cons, rws_cons, ← rws_take r i, h1, List.take_append, List.take_of_length_le (by omega), Nat.add_sub_cancel_left]
theorem rws_at (l : List α) (i : Nat) (hi : i < l.length) : ((E.rws l).drop (i * es)).take es = E.f l[i] := by
  rw [rws_drop, List.drop_eq_getElem_cons hi, rws_cons]
  exact List.take_left' (E.len _)
theorem rws_set (l : List α) (i : Nat) (hi : i < l.length) (x : α) : splice (E.rws l) (i * es) (E.f x) = E.rws (l.set i x) := by
  unfold splice
  rw [E.len x, ← Nat.succ_mul, rws_take, rws_drop, List.set_eq_take_append_cons_drop, if_pos hi, rws_app, rws_cons, List.append_assoc]
abbrev Src (s : AVal) (h : Heap) (l : List α) : Prop := Fw.Src es s h l.length (E.rws l)
abbrev Own (s : AVal) (h : Heap) (n0 : Nat) (l : List α) : Prop := Fw.Own es s h n0 l.length (E.rws l)
abbrev Buf (s : AVal) (h : Heap) (n0 : Nat) (l : List α) : Prop := Fw.Buf es s h n0 l.length (E.rws l)
variable {E}
theorem Src.el {s : AVal} {h : Heap} {l : List α} (S : E.Src s h l) (i : Nat) (hi : i < l.length) : ∃ p, aIaddr es s (.int .i64 i) = some p ∧ aLoad h es p = some (E.f l[i]) := by
  obtain ⟨p, e1, e2⟩ := Fw.Src.at S i hi
  rw [E.rws_at _ _ hi] at e2
  exact ⟨p, e1, e2⟩
theorem Own.snoc {bytes : Nat} {zero : List AVal} {s : AVal} {h : Heap} {n0 : Nat} {l : List α} (O : E.Own s h n0 l) (x : α) (h0 : n0 ≤ h.next) (hb : (l.length + 1) * bytes ≤ 140737488355328) (hc : l.length + 1 ≤ 4611686018427387904) :
    ∃ s' h', aAppend es bytes zero false s (.slice h.next 0 1 1 es true) (h.alloc (E.f x)) = some (s', h') ∧ E.Own s' h' n0 (l ++ [x]) ∧ Kept h s h' s' := by
  obtain ⟨s', h', e, O', K⟩ := Fw.Own.snoc (bytes := bytes) (zero := zero) (news := E.f x) O E.pos (E.len x) h0 hb hc
  refine ⟨s', h', e, ?_, K⟩
  unfold El.Own
  rw [E.rws_app, E.rws_one, List.length_append]
  exact O'
theorem Buf.snoc {bytes : Nat} {zero : List AVal} {s : AVal} {h : Heap} {n0 : Nat} {l : List α} (O : E.Buf s h n0 l) (x : α) (h0 : n0 ≤ h.next) (hb : (l.length + 1) * bytes ≤ 140737488355328) (hc : l.length + 1 ≤ 4611686018427387904) :
    ∃ s' h', aAppend es bytes zero false s (.slice h.next 0 1 1 es true) (h.alloc (E.f x)) = some (s', h') ∧ E.Buf s' h' n0 (l ++ [x]) ∧ Kept h s h' s' := by
  obtain ⟨s', h', e, O', K⟩ := Fw.Buf.snoc (bytes := bytes) (zero := zero) (news := E.f x) O E.pos (E.len x) h0 hb hc
  refine ⟨s', h', e, ?_, K⟩
  unfold El.Buf
  rw [E.rws_app, E.rws_one, List.length_append]
  exact O'
theorem Own.app {bytes : Nat} {zero : List AVal} {s x : AVal} {h : Heap} {n0 : Nat} {l m : List α} (O : E.Own s h n0 l) (S : E.Src x h m) (h0 : n0 ≤ h.next) (hb : (l.length + m.length) * bytes ≤ 140737488355328) (hc : l.length + m.length ≤ 4611686018427387904) :
    ∃ s' h', aAppend es bytes zero false s x h = some (s', h') ∧ E.Own s' h' n0 (l ++ m) ∧ Kept h s h' s' := by
  obtain ⟨s', h', e, O', K⟩ := Fw.Own.app (bytes := bytes) (zero := zero) O S E.pos h0 hb hc
  refine ⟨s', h', e, ?_, K⟩
  unfold El.Own
  rw [E.rws_app, List.length_append]
  exact O'
theorem Buf.app {bytes : Nat} {zero : List AVal} {s x : AVal} {h : Heap} {n0 : Nat} {l m : List α} (O : E.Buf s h n0 l) (S : E.Src x h m) (h0 : n0 ≤ h.next) (hb : (l.length + m.length) * bytes ≤ 140737488355328) (hc : l.length + m.length ≤ 4611686018427387904) :
    ∃ s' h', aAppend es bytes zero false s x h = some (s', h') ∧ E.Buf s' h' n0 (l ++ m) ∧ Kept h s h' s' := by
  obtain ⟨s', h', e, O', K⟩ := Fw.Buf.app (bytes := bytes) (zero := zero) O S E.pos h0 hb hc
  refine ⟨s', h', e, ?_, K⟩
  unfold El.Buf
  rw [E.rws_app, List.length_append]
  exact O'
theorem Src.clone {bytes : Nat} {zero : List AVal} {x : AVal} {h : Heap} {l : List α} (S : E.Src x h l) (hb : l.length * bytes ≤ 140737488355328) (hc : l.length ≤ 4611686018427387904) :
    ∃ s h', cloneS es bytes zero x h = some (0, [s], h') ∧ E.Own s h' h.next l ∧ Went h h' := clone_of S E.pos hb hc
theorem Own.lit (h : Heap) (l : List α) {n : Nat} (hn : n = l.length) (ex : Bool) : E.Own (.slice h.next 0 n n es ex) (h.alloc (E.rws l)) h.next l := by
  subst hn
  exact Fw.Own.lit es h _ _ (E.rws_len l) ex
theorem Buf.set {s : AVal} {h : Heap} {n0 : Nat} {l : List α} (O : E.Buf s h n0 l) (i : Nat) (hi : i < l.length) (x : α) :
    ∃ p h', aIaddr es s (.int .i64 i) = some p ∧ aStore h p (E.f x) = some h' ∧ E.Buf s h' n0 (l.set i x) ∧ h'.next = h.next ∧ ∀ b, slBlk s ≠ some b → h'.blk b = h.blk b := by
  obtain ⟨hl, ⟨rfl, h0⟩ | ⟨b, ex, k, rest, rfl, a1, a2, a3, a4⟩⟩ := O
  · omega
  · have i1 : (i : Int) < (l.length : Int) := by omega
    have hle : (i + 1) * es ≤ l.length * es := Nat.mul_le_mul_right es hi
    rw [Nat.succ_mul] at hle
    refine ⟨.ptr b (i * es), h.setBlk b (some ⟨E.rws (l.set i x) ++ rest, true⟩), by simp [aIaddr, aIdx, i1], ?_, ⟨by simp, .inr ⟨b, ex, k, rest, by simp, a1, a2, a3, setBlk_same _ _ _⟩⟩, rfl, fun c hc => setBlk_ne _ _ fun e => hc (by rw [e]; rfl)⟩
    have hw : h.wr b (i * es) (E.f x) = some (h.setBlk b (some ⟨splice (E.rws l ++ rest) (i * es) (E.f x), true⟩)) := wr_of a4 _ _ (by rw [List.length_append, hl, E.len]; omega)
    rw [← E.rws_set _ _ hi]
    show h.wr b (i * es) (E.f x) = _
    rw [hw]
    congr 4
    unfold splice
    rw [E.len, List.take_append_of_le_length (by rw [hl]; omega), List.drop_append_of_le_length (by rw [hl]; omega)]
    simp
theorem Buf.pre {s : AVal} {h : Heap} {n0 : Nat} {l : List α} (O : E.Buf s h n0 l) (i : Nat) (hi : i ≤ l.length) :
    ∃ s', aSliceSl es s none (some (.int .i64 i)) none = some s' ∧ E.Buf s' h n0 (l.take i) ∧ slBlk s' = slBlk s := by
  have hee : Nat.beq es es = true := Nat.beq_refl es
  obtain ⟨hl, ⟨rfl, h0⟩ | ⟨b, ex, k, rest, rfl, a1, a2, a3, a4⟩⟩ := O
  · obtain rfl : i = 0 := by omega
    exact ⟨.nilSlice, by simp [aSliceSl, aBound], Fw.Buf.nil es h n0, rfl⟩
  · have h2 : (0 : Int) ≤ (i : Int) ∧ (i : Int) ≤ ((l.length + k : Nat) : Int) := by omega
    refine ⟨.slice b 0 i (l.length + k) es ex, ?_, ⟨by rw [E.rws_len], .inr ⟨b, ex, l.length + k - i, E.rws (l.drop i) ++ rest, ?_, a1, a2, ?_, ?_⟩⟩, rfl⟩
    · simp only [aSliceSl, hee, cond_true, aBound, Option.bind_some]
      rw [if_pos h2]
      simp
    · rw [List.length_take, Nat.min_eq_left hi]; congr 1; omega
    · rw [List.length_append, E.rws_len, List.length_drop, a3, ← Nat.add_mul]; congr 1; omega
    · rw [a4, ← List.append_assoc, ← E.rws_app, List.take_append_drop]
def Room (s : AVal) : Prop := ∀ b off n cap es ex, s = .slice b off n cap es ex → n ≤ cap
theorem _root_.Go.Fw.Own.room {es : Nat} {s : AVal} {h : Heap} {n0 m : Nat} {cells : List AVal} (O : Fw.Own es s h n0 m cells) : Room s := by
  obtain ⟨_, ⟨rfl, _⟩ | ⟨b, ex, rfl, _⟩⟩ := O
  · intro _ _ _ _ _ _ e; cases e
  · intro _ _ _ _ _ _ e; cases e; exact Nat.le_refl _
theorem _root_.Go.Fw.Buf.room {es : Nat} {s : AVal} {h : Heap} {n0 m : Nat} {cells : List AVal} (O : Fw.Buf es s h n0 m cells) : Room s := by
  obtain ⟨_, ⟨rfl, _⟩ | ⟨b, ex, k, rest, rfl, _⟩⟩ := O
  · intro _ _ _ _ _ _ e; cases e
  · intro _ _ _ _ _ _ e; cases e; omega
theorem _root_.Go.Fw.Src.cut {es : Nat} {s : AVal} {h : Heap} {m : Nat} {cells : List AVal} (S : Fw.Src es s h m cells) (R : Room s) (lo hi : Option Nat) (i j : Nat) (e1 : i = lo.getD 0) (e2 : j = hi.getD m) (hij : i ≤ j) (hj : j ≤ m) :
    ∃ s', aSliceSl es s (lo.map fun x : Nat => AVal.int .i64 (x : Int)) (hi.map fun x : Nat => AVal.int .i64 (x : Int)) none = some s' ∧ Fw.Src es s' h (j - i) ((cells.drop (i * es)).take ((j - i) * es)) ∧ Room s' ∧ ∀ b, slBlk s' = some b → slBlk s = some b := by
  have hee : Nat.beq es es = true := Nat.beq_refl es
  obtain ⟨hl, ⟨rfl, h0⟩ | ⟨b, off, cap, ex, rfl, a2, a4⟩⟩ := S
  · subst h0
    have hc : cells = [] := List.length_eq_zero_iff.1 (by simpa using hl)
    subst hc
    have j0 : j = 0 := by omega
    have i0 : i = 0 := by omega
    subst i0 j0
    refine ⟨.nilSlice, ?_, ⟨by simp, .inl ⟨rfl, by simp⟩⟩, by (intro _ _ _ _ _ _ e; cases e), fun b hb => hb⟩
    have b2 : aBound (hi.map fun x : Nat => AVal.int .i64 (x : Int)) 0 0 = some 0 := by
      cases hi with
      | none => rfl
      | some q => simp at e2; subst e2; rfl
    have b1 : aBound (lo.map fun x : Nat => AVal.int .i64 (x : Int)) 0 0 = some 0 := by
      cases lo with
      | none => rfl
      | some q => simp at e1; subst e1; rfl
    simp only [aSliceSl, aBound, Option.bind_some] at b1 b2 ⊢
    rw [b2]
    simp only [Option.bind_some]
    rw [b1]
    rfl
  · have hm : m ≤ cap := R b off m cap es ex rfl
    have hle : j * es ≤ m * es := Nat.mul_le_mul_right es hj
    have hie : i * es ≤ j * es := Nat.mul_le_mul_right es hij
    have hs : (j - i) * es = j * es - i * es := Nat.sub_mul j i es
    obtain ⟨x, hx, hlx, hcs⟩ := rd_inv a4
    refine ⟨.slice b (off + i * es) (j - i) (cap - i) es ex, ?_, ⟨by rw [List.length_take, List.length_drop, hl, hs]; omega, .inr ⟨b, _, _, _, rfl, a2, ?_⟩⟩, by (intro _ _ _ _ _ _ e; cases e; omega), fun c hc => hc⟩
    · have b2 : aBound (hi.map fun x : Nat => AVal.int .i64 (x : Int)) m cap = some j := by
        cases hi with
        | none => simp at e2; simp [aBound, e2]
        | some q =>
          simp at e2; subst e2
          have : (j : Int) ≤ (cap : Int) := by omega
          simp [aBound, this]
      have b1 : aBound (lo.map fun x : Nat => AVal.int .i64 (x : Int)) 0 j = some i := by
        cases lo with
        | none => simp at e1; simp [aBound, e1]
        | some q => simp at e1; subst e1; simp [aBound, hij]
      simp only [aSliceSl, hee, cond_true]
      rw [show aBound none cap cap = some cap from rfl]
      simp only [Option.bind_some, b2, b1]
      simp
    · rw [rd_of hx _ _ (by omega)]
      rw [hcs, List.drop_take, List.take_take, List.drop_drop, Nat.min_eq_left (by omega)]
theorem Src.part {s : AVal} {h : Heap} {l : List α} (S : E.Src s h l) (R : Room s) (lo hi : Option Nat) (i j : Nat) (e1 : i = lo.getD 0) (e2 : j = hi.getD l.length) (hij : i ≤ j) (hj : j ≤ l.length) :
    ∃ s', aSliceSl es s (lo.map fun x : Nat => AVal.int .i64 (x : Int)) (hi.map fun x : Nat => AVal.int .i64 (x : Int)) none = some s' ∧ E.Src s' h ((l.drop i).take (j - i)) ∧ Room s' ∧ ∀ b, slBlk s' = some b → slBlk s = some b := by
  obtain ⟨s', e, S', R', hb⟩ := Fw.Src.cut S R lo hi i j e1 e2 hij hj
  refine ⟨s', e, ?_, R', hb⟩
  rw [E.rws_drop, E.rws_take] at S'
  unfold El.Src
  rw [List.length_take, List.length_drop, Nat.min_eq_left (by omega)]
  exact S'
end El
variable {α : Type} {es : Nat} {E : El α es}
noncomputable def indexFuncL (es : Nat) (call : Go.Fw.Call) (xs : List AVal) (h : Heap) : Option J :=
 (aBin .lss .plain (xs.getD 3 .undef) (xs.getD 2 .undef)).bind fun v2 =>
 condV v2
 ((aIaddr es (xs.getD 0 .undef) (xs.getD 3 .undef)).bind fun v3 =>
 (aLoad h es v3).bind fun c4 =>
 (fromCells true c4).bind fun v5 =>
 (aFn (xs.getD 1 .undef)).bind fun q6 =>
 (call q6.1 ([v5] ++ q6.2) h).bind fun r7 =>
 condV r7.1
 (some (2, [(xs.getD 3 .undef)], r7.2))
 ((aBin .add .plain (xs.getD 3 .undef) (.int .i64 1)).bind fun v8 =>
 some (0, [(xs.getD 0 .undef), (xs.getD 1 .undef), (xs.getD 2 .undef), v8], r7.2)))
 (some (1, [], h))
noncomputable def indexFuncS (es : Nat) (call : Go.Fw.Call) (a0 a1 : AVal) (h : Heap) : Option J :=
 (aLen false a0).bind fun v1 =>
 (loop (indexFuncL es call) [a0, a1, v1, (.int .i64 0)] h).bind fun x9 =>
 bif Nat.beq x9.1 1 then some (0, [(.int .i64 (-1))], x9.2.2) else
 bif Nat.beq x9.1 2 then some (0, [(x9.2.1.getD 0 .undef)], x9.2.2) else
 none
def firstI (p : α → Bool) (l : List α) : Int := match l.findIdx? p with | some i => i | none => -1
theorem firstI_cases (p : α → Bool) (l : List α) : (firstI p l = -1 ∧ ∀ x ∈ l, p x = false) ∨ ∃ (i : Nat) (hi : i < l.length), firstI p l = i ∧ p l[i] = true ∧ ∀ x ∈ l.take i, p x = false := by
  unfold firstI
  cases e : l.findIdx? p with
  | none =>
    left
    rw [List.findIdx?_eq_none_iff] at e
    exact ⟨rfl, e⟩
  | some i =>
    right
    obtain ⟨h1, h2, h3⟩ := List.findIdx?_eq_some_iff_getElem.1 e
    refine ⟨i, h1, rfl, h2, fun x hx => ?_⟩
    obtain ⟨j, hj, rfl⟩ := List.getElem_of_mem hx
    have hj' : j < i := by simp at hj; omega
    rw [List.getElem_take]
    simpa using h3 j hj'
def Tells (call : Go.Fw.Call) (E : El α es) (fv : AVal) (p : α → Bool) (h : Heap) : Prop := ∃ q, aFn fv = some q ∧ ∀ x, call q.1 (.agg (E.f x) :: q.2) h = some (.bool (p x), h)
theorem indexFunc_of {call : Go.Fw.Call} {s fv : AVal} {h : Heap} {l : List α} {p : α → Bool} (S : E.Src s h l) (hl : l.length ≤ 1000000) (T : Tells call E fv p h) : indexFuncS es call s fv h = some (0, [.int .i64 (firstI p l)], h) := by
  obtain ⟨q, q1, q2⟩ := T
  have key := loop_ok (f := indexFuncL es call) (fun m xs H => ∃ i : Nat, H = h ∧ m + i = l.length ∧ (∀ x ∈ l.take i, p x = false) ∧ xs = [s, fv, .int .i64 l.length, .int .i64 i])
    (fun r => (r = (1, [], h) ∧ ∀ x ∈ l, p x = false) ∨ ∃ (i : Nat) (hi : i < l.length), r = (2, [.int .i64 i], h) ∧ p l[i] = true ∧ ∀ x ∈ l.take i, p x = false) ?_ l.length _ h ⟨0, rfl, by omega, by simp, rfl⟩
  · obtain ⟨r, e, hr⟩ := key
    simp only [Int.cast_ofNat_Int] at e
    simp only [indexFuncS, El.Src, Fw.Src.len S, Option.bind_some, e]
    rcases hr with ⟨rfl, hn⟩ | ⟨i, hi, rfl, h1, h2⟩
    · rcases firstI_cases p l with ⟨h1, _⟩ | ⟨i, hi, _, h1, _⟩
      · rw [h1]; rfl
      · rw [hn _ (List.getElem_mem hi)] at h1; cases h1
    · rcases firstI_cases p l with ⟨_, h3⟩ | ⟨j, hj, h3, h4, h5⟩
      · rw [h3 _ (List.getElem_mem hi)] at h1; cases h1
      · have : j = i := by
          rcases Nat.lt_trichotomy j i with h6 | h6 | h6
          · have := h2 l[j] (List.mem_take_iff_getElem.2 ⟨j, by omega, rfl⟩)
            rw [h4] at this; cases this
          · exact h6
          · have := h5 l[i] (List.mem_take_iff_getElem.2 ⟨i, by omega, rfl⟩)
            rw [h1] at this; cases this
        subst this
        rw [h3]; rfl
  · rintro m xs H ⟨i, rfl, hi, hno, rfl⟩
    by_cases h1 : i < l.length
    · have i1 : ((i : Int) < (l.length : Int)) := by omega
      obtain ⟨a, e1, e2⟩ := El.Src.el S i h1
      have e3 := q2 l[i]
      cases hp : p l[i] with
      | true =>
        right
        refine ⟨1, [.int .i64 i], H, ?_, .inr ⟨i, h1, rfl, hp, hno⟩⟩
        simp [indexFuncL, i1, e1, e2, q1, e3, hp]
      | false =>
        left
        have w1 : IntKind.i64.wrap ((i : Int) + 1) = ((i + 1 : Nat) : Int) := wrap_succ _ (by omega)
        refine ⟨_, _, ?_, m - 1, by omega, i + 1, rfl, by omega, ?_, rfl⟩
        · simp [indexFuncL, i1, e1, e2, q1, e3, hp, w1]
        · intro x hx
          rw [List.take_add_one, List.getElem?_eq_getElem h1] at hx
          rcases List.mem_append.1 hx with hx | hx
          · exact hno x hx
          · simp at hx; subst hx; exact hp
    · right
      have i1 : ¬ ((i : Int) < (l.length : Int)) := by omega
      refine ⟨0, [], H, by simp [indexFuncL, i1], .inl ⟨rfl, ?_⟩⟩
      rwa [List.take_of_length_le (by omega)] at hno
end Go.Fw
