/- Keys, stamps, cards that are made of a tape. -/
import Derived.Test.YtfdhljghamkgjaaFwZn
namespace Go.Fw
set_option linter.unusedSimpArgs false
set_option linter.unusedVariables false

def NextOk (call : Go.Fw.Call) (x : Nat) : Prop := ∀ {p : Nat} {s : AVal} {l : List Int} {h : Heap}, Tape p s l h → ∀ n : Int, 1 ≤ n →
    ∃ r h', call x [.ptr p 0, .int .i64 n] h = some (.int .i64 r, h') ∧ 0 ≤ r ∧ r < n ∧ Tape p s l h' ∧ Only p h h' ∧ h'.next = h.next

theorem Heap.res_next (h : Heap) (n : Nat) : (h.res n).next = h.next + n := rfl
theorem Heap.res_blk (h : Heap) (n i : Nat) : (h.res n).blk i = h.blk i := rfl
theorem rd_blk {h h' : Heap} {b : Nat} (e : h'.blk b = h.blk b) (o n : Nat) : h'.rd b o n = h.rd b o n := by
  unfold Heap.rd; rw [e]

theorem Tape.fill {p : Nat} {s : AVal} {l : List Int} {h0 h : Heap} (T : Tape p s l h) {b : Nat} (hb : h0.next ≤ b) (h0p : p < h0.next) (h0s : ∀ b, slBlk s = some b → b < h0.next) (x : Option Blk) : Tape p s l (h.setBlk b x) where
  lt := T.lt
  pos := by obtain ⟨n, h1, h2⟩ := T.pos; exact ⟨n, h1, by rw [setBlk_ne _ _ (by omega), h2]⟩
  ints := T.ints.mono fun c hc => setBlk_ne _ _ (by have := h0s c hc; omega)
  ne := T.ne
  sz := T.sz

def keyApps : List (List UInt8) := [[97, 112, 112], [98], [97, 112, 112, 49], [122, 57]]
def keyIds : List (List UInt8) := [[105, 100], [97], [105, 100, 50], [120, 48], [109]]

noncomputable def tapeKeyS (nx : Nat) (call : Go.Fw.Call) (a0 : AVal) (h : Heap) : Option J :=
 (aFill (reps [.str []] 4) [(0, 1, (.str [97, 112, 112])), (1, 1, (.str [98])), (2, 1, (.str [97, 112, 112, 49])), (3, 1, (.str [122, 57]))]).bind fun c1 =>
 (call nx [a0, (.int .i64 4)] ((h.res 2).setBlk (h.next + 0) (some ⟨c1, true⟩))).bind fun r2 =>
 (aIaddr 1 (.slice (h.next + 0) 0 4 4 1 true) r2.1).bind fun v3 =>
 (aLoad r2.2 1 v3).bind fun c4 =>
 (fromCells false c4).bind fun v5 =>
 (aFill (reps [.str []] 5) [(0, 1, (.str [105, 100])), (1, 1, (.str [97])), (2, 1, (.str [105, 100, 50])), (3, 1, (.str [120, 48])), (4, 1, (.str [109]))]).bind fun c6 =>
 (call nx [a0, (.int .i64 5)] (r2.2.setBlk (h.next + 1) (some ⟨c6, true⟩))).bind fun r7 =>
 (aIaddr 1 (.slice (h.next + 1) 0 5 5 1 true) r7.1).bind fun v8 =>
 (aLoad r7.2 1 v8).bind fun c9 =>
 (fromCells false c9).bind fun v10 =>
 (aFill [.str [], .str []] [(0, 1, v5), (1, 1, v10)]).bind fun c11 =>
 (aCells 2 (.agg c11)).bind fun c12 =>
 bif Nat.ble ((0) + 2) (List.length (α := AVal) [.str [], .str []]) then bif checkPairs [(7, some (.ef [(2, [.str [], .str []])] (r2.2.setBlk (h.next + 1) (some ⟨c6, true⟩)) [(2, [.str [], .str []])] r7.2)), (4, logRd v3 1)] [(4, 7)] then (((rdL (splice [.str [], .str []] (0) c12) (0) 2).bind fun cs => fromCells true cs).bind fun v => (some []).bind fun vs => some (v :: vs)).bind fun vs => some (0, [oneOr vs], r7.2) else none else none

theorem str_at {h : Heap} {b : Nat} {L : List (List UInt8)} {n : Nat} (hn : n = L.length) (hb : h.blk b = some ⟨L.map .str, true⟩) (i : Int) (h0 : 0 ≤ i) (h1 : i < n) :
    ∃ t, t ∈ L ∧ aIaddr 1 (.slice b 0 n n 1 true) (.int .i64 i) = some (.ptr b i.toNat) ∧ h.rd b i.toNat 1 = some [.str t] := by
  subst hn
  have hi : i.toNat < L.length := by omega
  refine ⟨L[i.toNat], List.getElem_mem hi, by simp [aIaddr, aIdx_of _ _ _ h0 h1], ?_⟩
  rw [rd_of hb _ _ (by simp; omega)]
  simp only [Option.some.injEq]
  rw [List.drop_eq_getElem_cons (by simp [hi])]
  simp

theorem tapeKey {nx : Nat} {call : Go.Fw.Call} (N : NextOk call nx) {p : Nat} {s : AVal} {l : List Int} {h : Heap} (T : Tape p s l h) :
    ∃ a i h', tapeKeyS nx call (.ptr p 0) h = some (0, [.agg [.str a, .str i]], h') ∧ a ∈ keyApps ∧ i ∈ keyIds ∧ Tape p s l h' ∧ Only p h h' ∧ h'.next = h.next + 2 := by
  have l0 := T.lt
  have s0 : ∀ b, slBlk s = some b → b < h.next := fun b hb => (T.ne b hb).1
  have T1 : Tape p s l (h.res 2) := T.mono (by simp [Heap.res_next]) fun _ _ => rfl
  have T2 := T1.fill (h0 := h) (b := h.next) (Nat.le_refl _) l0 s0 (some ⟨keyApps.map .str, true⟩)
  obtain ⟨r1, h1, e1, a1, b1, T3, O1, n1⟩ := N T2 4 (by omega)
  have T4 := T3.fill (h0 := h) (b := h.next + 1) (by omega) l0 s0 (some ⟨keyIds.map .str, true⟩)
  obtain ⟨r2, h2, e2, a2, b2, T5, O2, n2⟩ := N T4 5 (by omega)
  have n1' : h1.next = h.next + 2 := n1
  have n2' : h2.next = h.next + 2 := n2.trans n1
  have k1 : h1.blk h.next = some ⟨keyApps.map .str, true⟩ := by
    rw [O1.old _ (by show _ < h.next + 2; omega) (by omega)]
    exact setBlk_same _ _ _
  have k2 : h2.blk (h.next + 1) = some ⟨keyIds.map .str, true⟩ := by
    rw [O2.old _ (by show _ < h1.next; omega) (by omega)]
    exact setBlk_same _ _ _
  obtain ⟨t1, m1, q1, d1⟩ := str_at (n := 4) rfl k1 r1 a1 b1
  obtain ⟨t2, m2, q2, d2⟩ := str_at (n := 5) rfl k2 r2 a2 b2
  have c1 : (h1.setBlk (h.next + 1) (some ⟨keyIds.map .str, true⟩)).rd h.next r1.toNat 1 = some [.str t1] := by
    rw [rd_blk (setBlk_ne _ _ (by omega)), d1]
  have c2 : h2.rd h.next r1.toNat 1 = some [.str t1] := by
    rw [rd_blk (O2.old _ (by show _ < h1.next; omega) (by omega)), c1]
  have O : Only p h h2 := by
    refine ⟨by omega, fun b hb hp => ?_⟩
    rw [O2.old b (by show _ < h1.next; omega) hp, setBlk_ne _ _ (by omega), O1.old b (by show _ < h.next + 2; omega) hp, setBlk_ne _ _ (by omega)]
    rfl
  refine ⟨t1, t2, h2, ?_, m1, m2, T5, O, n2'⟩
  simp only [keyApps, keyIds, List.map_cons, List.map_nil] at e1 e2 c1
  simp [tapeKeyS, e1, q1, d1, e2, q2, d2, checkPairs, c1, c2]

noncomputable def tapeStampS (nx : Nat) (call : Go.Fw.Call) (a0 : AVal) (h : Heap) : Option J :=
 (call nx [a0, (.int .i64 40)] h).bind fun r1 =>
 (call nx [a0, (.int .i64 6)] r1.2).bind fun r2 =>
 (call nx [a0, (.int .i64 9)] r2.2).bind fun r3 =>
 (aFill [.int .i64 0, .int .i64 0, .int .i64 0] [(0, 1, r1.1), (1, 1, r2.1), (2, 1, r3.1)]).bind fun c4 =>
 (aCells 3 (.agg c4)).bind fun c5 =>
 bif Nat.ble ((0) + 3) (List.length (α := AVal) [.int .i64 0, .int .i64 0, .int .i64 0]) then (((rdL (splice [.int .i64 0, .int .i64 0, .int .i64 0] (0) c5) (0) 3).bind fun cs => fromCells true cs).bind fun v => (some []).bind fun vs => some (v :: vs)).bind fun vs => some (0, [oneOr vs], r3.2) else none

theorem tapeStamp {nx : Nat} {call : Go.Fw.Call} (N : NextOk call nx) {p : Nat} {s : AVal} {l : List Int} {h : Heap} (T : Tape p s l h) :
    ∃ t k n h', tapeStampS nx call (.ptr p 0) h = some (0, [.agg [.int .i64 t, .int .i64 k, .int .i64 n]], h') ∧ (0 ≤ t ∧ t < 40) ∧ (0 ≤ k ∧ k < 6) ∧ (0 ≤ n ∧ n < 9) ∧ Tape p s l h' ∧ Only p h h' ∧ h'.next = h.next := by
  obtain ⟨r1, h1, e1, a1, b1, T1, O1, n1⟩ := N T 40 (by omega)
  obtain ⟨r2, h2, e2, a2, b2, T2, O2, n2⟩ := N T1 6 (by omega)
  obtain ⟨r3, h3, e3, a3, b3, T3, O3, n3⟩ := N T2 9 (by omega)
  exact ⟨r1, r2, r3, h3, by simp [tapeStampS, e1, e2, e3], ⟨a1, b1⟩, ⟨a2, b2⟩, ⟨a3, b3⟩, T3, (O1.trans O2).trans O3, by omega⟩

def KeyOk (call : Go.Fw.Call) (x : Nat) : Prop := ∀ {p : Nat} {s : AVal} {l : List Int} {h : Heap}, Tape p s l h →
    ∃ a i h', call x [.ptr p 0] h = some (.agg [.str a, .str i], h') ∧ a ∈ keyApps ∧ i ∈ keyIds ∧ Tape p s l h' ∧ Only p h h' ∧ h'.next = h.next + 2
def StampOk (call : Go.Fw.Call) (x : Nat) : Prop := ∀ {p : Nat} {s : AVal} {l : List Int} {h : Heap}, Tape p s l h →
    ∃ t k n h', call x [.ptr p 0] h = some (.agg [.int .i64 t, .int .i64 k, .int .i64 n], h') ∧ (0 ≤ t ∧ t < 40) ∧ (0 ≤ k ∧ k < 6) ∧ (0 ≤ n ∧ n < 9) ∧ Tape p s l h' ∧ Only p h h' ∧ h'.next = h.next
structure CardMay (a i : List UInt8) (s o l t k n : Int) : Prop where
  a : a ∈ keyApps
  i : i ∈ keyIds
  s : 1 ≤ s ∧ s ≤ 2
  o : 0 ≤ o ∧ o ≤ 3
  l : 1 ≤ l ∧ l ≤ 60
  t : 0 ≤ t ∧ t < 40
  k : 0 ≤ k ∧ k < 6
  n : 0 ≤ n ∧ n < 9
def CardOk (call : Go.Fw.Call) (x : Nat) : Prop := ∀ {p : Nat} {s : AVal} {l : List Int} {h : Heap}, Tape p s l h →
    ∃ a i st o le t k n g h', call x [.ptr p 0] h = some (.agg [.str a, .str i, .int .i64 st, .int .i64 o, .int .i64 le, .int .i64 t, .int .i64 k, .int .i64 n, .bool g], h') ∧ CardMay a i st o le t k n ∧ Tape p s l h' ∧ Only p h h'

noncomputable def tapeCardS (ky nx stp : Nat) (call : Go.Fw.Call) (a0 : AVal) (h : Heap) : Option J :=
 (call ky [a0] h).bind fun r1 =>
 (call nx [a0, (.int .i64 2)] r1.2).bind fun r2 =>
 (aBin .add .plain (.int .i64 1) r2.1).bind fun v3 =>
 (call nx [a0, (.int .i64 7)] r2.2).bind fun r4 =>
 (aBin .quo .plain r4.1 (.int .i64 2)).bind fun v5 =>
 (call nx [a0, (.int .i64 60)] r4.2).bind fun r6 =>
 (aBin .add .plain (.int .i64 1) r6.1).bind fun v7 =>
 (call stp [a0] r6.2).bind fun r8 =>
 (call nx [a0, (.int .i64 4)] r8.2).bind fun r9 =>
 (aBin .eql .plain r9.1 (.int .i64 0)).bind fun v10 =>
 (aFill [.str [], .str [], .int .i64 0, .int .i64 0, .int .i64 0, .int .i64 0, .int .i64 0, .int .i64 0, .bool false] [(0, 2, r1.1), (2, 1, v3), (3, 1, v5), (4, 1, v7), (5, 3, r8.1), (8, 1, v10)]).bind fun c11 =>
 (aCells 9 (.agg c11)).bind fun c12 =>
 bif Nat.ble ((0) + 9) (List.length (α := AVal) [.str [], .str [], .int .i64 0, .int .i64 0, .int .i64 0, .int .i64 0, .int .i64 0, .int .i64 0, .bool false]) then (((rdL (splice [.str [], .str [], .int .i64 0, .int .i64 0, .int .i64 0, .int .i64 0, .int .i64 0, .int .i64 0, .bool false] (0) c12) (0) 9).bind fun cs => fromCells true cs).bind fun v => (some []).bind fun vs => some (v :: vs)).bind fun vs => some (0, [oneOr vs], r9.2) else none

theorem tapeCard {ky nx stp : Nat} {call : Go.Fw.Call} (N : NextOk call nx) (K : KeyOk call ky) (S : StampOk call stp) {p : Nat} {s : AVal} {l : List Int} {h : Heap} (T : Tape p s l h) :
    ∃ a i st o le t k n g h', tapeCardS ky nx stp call (.ptr p 0) h = some (0, [.agg [.str a, .str i, .int .i64 st, .int .i64 o, .int .i64 le, .int .i64 t, .int .i64 k, .int .i64 n, .bool g]], h') ∧ CardMay a i st o le t k n ∧ Tape p s l h' ∧ Only p h h' := by
  obtain ⟨a, i, h1, e1, ma, mi, T1, O1, _⟩ := K T
  obtain ⟨r2, h2, e2, a2, b2, T2, O2, _⟩ := N T1 2 (by omega)
  obtain ⟨r3, h3, e3, a3, b3, T3, O3, _⟩ := N T2 7 (by omega)
  obtain ⟨r4, h4, e4, a4, b4, T4, O4, _⟩ := N T3 60 (by omega)
  obtain ⟨t, k, n, h5, e5, c1, c2, c3, T5, O5, _⟩ := S T4
  obtain ⟨r6, h6, e6, a6, b6, T6, O6, _⟩ := N T5 4 (by omega)
  have w2 : IntKind.i64.wrap (1 + r2) = 1 + r2 := IntWalk.i64_in _ (by omega)
  have w4 : IntKind.i64.wrap (1 + r4) = 1 + r4 := IntWalk.i64_in _ (by omega)
  have q : r3.tdiv 2 = r3 / 2 := Int.tdiv_eq_ediv_of_nonneg a3
  have w3 : IntKind.i64.wrap (r3 / 2) = r3 / 2 := IntWalk.i64_in _ (by omega)
  refine ⟨a, i, 1 + r2, r3 / 2, 1 + r4, t, k, n, r6 == 0, h6, ?_, ⟨ma, mi, by omega, by omega, by omega, c1, c2, c3⟩, T6, ((((O1.trans O2).trans O3).trans O4).trans O5).trans O6⟩
  simp [tapeCardS, e1, e2, w2, e3, bin_quo, q, w3, e4, w4, e5, e6]
end Go.Fw
