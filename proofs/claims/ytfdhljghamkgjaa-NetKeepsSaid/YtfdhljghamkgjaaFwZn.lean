/- A tape of numbers that is read one by one. -/
import Derived.Test.YtfdhljghamkgjaaFwZm
namespace Go.Fw
set_option linter.unusedSimpArgs false
set_option linter.unusedVariables false

/-- A call may have written block p alone, and made new ones. -/
structure Only (p : Nat) (h h' : Heap) : Prop where
  next : h.next ≤ h'.next
  old : ∀ b, b < h.next → b ≠ p → h'.blk b = h.blk b
theorem Only.refl (p : Nat) (h : Heap) : Only p h h := ⟨Nat.le_refl _, fun _ _ _ => rfl⟩
theorem Only.trans {p : Nat} {a b c : Heap} (x : Only p a b) (y : Only p b c) : Only p a c := ⟨Nat.le_trans x.next y.next, fun i hi hn => (y.old i (Nat.lt_of_lt_of_le hi x.next) hn).trans (x.old i hi hn)⟩

structure Tape (p : Nat) (s : AVal) (l : List Int) (h : Heap) : Prop where
  lt : p < h.next
  pos : ∃ n : Nat, n ≤ l.length ∧ h.blk p = some ⟨[s, .int .i64 n], true⟩
  ints : Ints .i64 s h l
  ne : ∀ b, slBlk s = some b → b < h.next ∧ b ≠ p
  sz : l.length < 4611686018427387904

theorem Tape.mono {p : Nat} {s : AVal} {l : List Int} {h h' : Heap} (T : Tape p s l h) (hn : h.next ≤ h'.next) (ho : ∀ b, b < h.next → h'.blk b = h.blk b) : Tape p s l h' where
  lt := Nat.lt_of_lt_of_le T.lt hn
  pos := by obtain ⟨n, h1, h2⟩ := T.pos; exact ⟨n, h1, by rw [ho p T.lt, h2]⟩
  ints := T.ints.mono fun b hb => ho b (T.ne b hb).1
  ne := fun b hb => ⟨Nat.lt_of_lt_of_le (T.ne b hb).1 hn, (T.ne b hb).2⟩
  sz := T.sz

theorem Tape.make {s : AVal} {l : List Int} {h : Heap} (I : Ints .i64 s h l) (lt : ∀ b, slBlk s = some b → b < h.next) (sz : l.length < 4611686018427387904) : Tape h.next s l (h.alloc [s, .int .i64 0]) where
  lt := by simp
  pos := ⟨0, by omega, by simp⟩
  ints := I.mono fun b hb => alloc_old _ _ (by have := lt b hb; omega)
  ne := fun b hb => by have := lt b hb; simp; omega
  sz := sz

noncomputable def tapeNextS (w : Nat) (call : Go.Fw.Call) (a0 a1 : AVal) (h : Heap) : Option J :=
 (aNilchk a0).bind fun v1 =>
 (aFaddr 1 v1).bind fun v2 =>
 (aLoad h 1 v2).bind fun c3 =>
 (fromCells false c3).bind fun v4 =>
 (aNilchk a0).bind fun v5 =>
 (aFaddr 0 v5).bind fun v6 =>
 (aLoad h 1 v6).bind fun c7 =>
 (fromCells false c7).bind fun v8 =>
 (aLen false v8).bind fun v9 =>
 (aBin .geq .plain v4 v9).bind fun v10 =>
 (guardV v10 false
 ((aBin .lss .plain a1 (.int .i64 1)).bind fun v11 =>
 some (0, [v11], h))
 (some (0, [skipV], h))).bind fun g12 =>
 (aPick v10 (.bool true) (g12.2.1.getD 0 .undef)).bind fun v13 =>
 condV v13
 (some (0, [(.int .i64 0)], g12.2.2))
 ((aNilchk a0).bind fun v14 =>
 (aFaddr 1 v14).bind fun v15 =>
 (aLoad g12.2.2 1 v15).bind fun c16 =>
 (fromCells false c16).bind fun v17 =>
 (aBin .add .plain v17 (.int .i64 1)).bind fun v18 =>
 (aNilchk a0).bind fun v19 =>
 (aFaddr 1 v19).bind fun v20 =>
 (aCells 1 v18).bind fun c21 =>
 (aStore g12.2.2 v20 c21).bind fun h22 =>
 (aNilchk a0).bind fun v23 =>
 (aFaddr 0 v23).bind fun v24 =>
 (aLoad h22 1 v24).bind fun c25 =>
 (fromCells false c25).bind fun v26 =>
 (aNilchk a0).bind fun v27 =>
 (aFaddr 1 v27).bind fun v28 =>
 (aLoad h22 1 v28).bind fun c29 =>
 (fromCells false c29).bind fun v30 =>
 (aBin .sub .plain v30 (.int .i64 1)).bind fun v31 =>
 (aIaddr 1 v26 v31).bind fun v32 =>
 (aLoad h22 1 v32).bind fun c33 =>
 (fromCells false c33).bind fun v34 =>
 (call w [v34, (.int .i64 0), (.int .i64 1073741824)] h22).bind fun r35 =>
 (aBin .rem .plain r35.1 a1).bind fun v36 =>
 some (0, [v36], r35.2))

def WithinOk (call : Go.Fw.Call) (w : Nat) : Prop := ∀ (a lo hi : Int) (h : Heap), -1000000000000 ≤ lo → lo ≤ hi → hi ≤ 1000000000000 → call w [.int .i64 a, .int .i64 lo, .int .i64 hi] h = some (.int .i64 (within a lo hi), h)

theorem tmod_in {a n : Int} (ha : 0 ≤ a) (hn : 1 ≤ n) : 0 ≤ a.tmod n ∧ a.tmod n < n :=
  ⟨Int.tmod_nonneg n ha, Int.tmod_lt_of_pos a (by omega)⟩

theorem tapeNext {w : Nat} {call : Go.Fw.Call} (W : WithinOk call w) {p : Nat} {s : AVal} {l : List Int} {h : Heap} (T : Tape p s l h) (n : Int) (hn : 1 ≤ n) :
    ∃ r h', tapeNextS w call (.ptr p 0) (.int .i64 n) h = some (0, [.int .i64 r], h') ∧ 0 ≤ r ∧ r < n ∧ Tape p s l h' ∧ Only p h h' ∧ h'.next = h.next := by
  obtain ⟨lt, ⟨at_, hat, hb⟩, I, ne, sz⟩ := T
  have r0 : h.rd p 0 1 = some [s] := rd_of hb 0 1 (by simp)
  have r1 : h.rd p 1 1 = some [.int .i64 at_] := rd_of hb 1 1 (by simp)
  have hn1 : ¬ n < 1 := by omega
  by_cases hge : l.length ≤ at_
  · refine ⟨0, h, ?_, by omega, by omega, ⟨lt, ⟨at_, hat, hb⟩, I, ne, sz⟩, Only.refl _ _, rfl⟩
    have h1 : ((l.length : Int) ≤ (at_ : Int)) := by omega
    simp [tapeNextS, r0, r1, I.len, h1]
  · have h1 : ¬ ((l.length : Int) ≤ (at_ : Int)) := by omega
    have w1 : IntKind.i64.wrap ((at_ : Int) + 1) = (at_ : Int) + 1 := IntWalk.i64_in _ (by omega)
    have w2 : IntKind.i64.wrap (at_ : Int) = (at_ : Int) := IntWalk.i64_in _ (by omega)
    let h2 := h.setBlk p (some ⟨[s, .int .i64 ((at_ : Int) + 1)], true⟩)
    have e2 : h.wr p 1 [.int .i64 ((at_ : Int) + 1)] = some h2 := by
      simp [Heap.wr, hb, h2]
    have hb2 : h2.blk p = some ⟨[s, .int .i64 ((at_ : Int) + 1)], true⟩ := setBlk_same _ _ _
    have r20 : h2.rd p 0 1 = some [s] := rd_of hb2 0 1 (by simp)
    have r21 : h2.rd p 1 1 = some [.int .i64 ((at_ : Int) + 1)] := rd_of hb2 1 1 (by simp)
    have I2 : Ints .i64 s h2 l := I.mono fun b hb => setBlk_ne _ _ (ne b hb).2
    obtain ⟨q, q1, q2⟩ := I2.at at_ (by omega)
    generalize l.getD at_ 0 = x at q2
    have hw := W x 0 1073741824 h2 (by omega) (by omega) (by omega)
    obtain ⟨w3, w4⟩ := within_in x 0 1073741824 (by omega)
    obtain ⟨m1, m2⟩ := tmod_in w3 hn
    have hn0 : ¬ n = 0 := by omega
    refine ⟨(within x 0 1073741824).tmod n, h2, ?_, m1, m2, ⟨lt, ⟨at_ + 1, by omega, hb2⟩, I2, ne, sz⟩, ⟨Nat.le_refl _, fun b _ hbp => setBlk_ne _ _ hbp⟩, rfl⟩
    have e1 : tapeNextS w call (.ptr p 0) (.int .i64 n) h = (call w [.int .i64 x, .int .i64 0, .int .i64 1073741824] h2).bind fun r35 => (aBin .rem .plain r35.1 (.int .i64 n)).bind fun v36 => some (0, [v36], r35.2) := by
      simp [tapeNextS, r0, r1, I.len, h1, hn1, w1, e2, r20, r21, w2, q1, q2]
    rw [e1, hw]
    simp [bin_rem, hn0]
end Go.Fw
