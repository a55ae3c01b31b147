/- Chapter 3: streams. -/
import Derived.Test.YtmmfcgbcocmkgaaOne
namespace Go.Proofs.Ytmmfcgbcocmkgaa.Code
set_option linter.unusedSimpArgs false
set_option linter.unusedVariables false
open Go.Fw

theorem nextN_le (l : List UInt8) : nextN l ≤ l.length := by unfold nextN; split <;> (try split) <;> (try split) <;> (try split) <;> omega
theorem nextN_8 (l : List UInt8) (h : nextN l ≠ 0) : 8 ≤ nextN l ∧ nextN l ≤ 8200 := by unfold nextN at *; split <;> (try split) <;> (try split) <;> (try split) <;> simp_all <;> omega
theorem next_left (l : List UInt8) (h1 : nextN l = 0) (h2 : nextW l = 0) : l.length < 8200 := by
  unfold nextN at h1; unfold nextW at h2
  split at h1
  · omega
  · split at h1
    · simp_all
    · split at h1
      · omega
      · split at h1
        · simp_all
        · omega

def parseF : Nat → List UInt8 → List (List UInt8) × Nat × List UInt8
  | 0, l => ([], 0, l)
  | k + 1, l => if nextW l ≠ 0 then ([], nextW l, []) else if nextN l = 0 then ([], 0, l) else (((l.drop 4).take (nextN l - 8)) :: (parseF k (l.drop (nextN l))).1, (parseF k (l.drop (nextN l))).2)
theorem parseF_same : ∀ (k j : Nat) (l : List UInt8), l.length ≤ k → l.length ≤ j → parseF k l = parseF j l
  | 0, 0, _, _, _ => rfl
  | 0, j + 1, l, h, _ => by
    have : l = [] := List.length_eq_zero_iff.1 (by omega)
    subst this
    rfl
  | k + 1, 0, l, _, h => by
    have : l = [] := List.length_eq_zero_iff.1 (by omega)
    subst this
    rfl
  | k + 1, j + 1, l, h1, h2 => by
    simp only [parseF]
    by_cases hw : nextW l ≠ 0
    · rw [if_pos hw, if_pos hw]
    · rw [if_neg hw, if_neg hw]
      by_cases hn : nextN l = 0
      · rw [if_pos hn, if_pos hn]
      · have := nextN_8 l hn
        rw [if_neg hn, if_neg hn, parseF_same k j (l.drop (nextN l)) (by rw [List.length_drop]; omega) (by rw [List.length_drop]; omega)]
/-- The frames of a stream; why it stops; what waits. -/
def parse (l : List UInt8) : List (List UInt8) × Nat × List UInt8 := parseF l.length l
theorem parse_eq (l : List UInt8) : parse l = if nextW l ≠ 0 then ([], nextW l, []) else if nextN l = 0 then ([], 0, l) else (((l.drop 4).take (nextN l - 8)) :: (parse (l.drop (nextN l))).1, (parse (l.drop (nextN l))).2) := by
  have h : parse l = parseF (l.length + 1) l := parseF_same _ _ _ (Nat.le_refl _) (by omega)
  rw [h]
  simp only [parseF]
  have h2 : parseF l.length (l.drop (nextN l)) = parse (l.drop (nextN l)) := parseF_same _ _ _ (by rw [List.length_drop]; omega) (Nat.le_refl _)
  rw [h2]
def feedP (l : List UInt8) (w : Nat) (b : List UInt8) : List (List UInt8) × Nat × List UInt8 := if w ≠ 0 then ([], w, l) else parse (l ++ b)

theorem parse_len : ∀ (n : Nat) (l : List UInt8), l.length ≤ n → (parse l).2.2.length < 8200 ∧ (parse l).1.length ≤ l.length ∧ (parse l).2.2.length ≤ l.length
  | n, l, h => by
    rw [parse_eq]
    by_cases hw : nextW l ≠ 0
    · rw [if_pos hw]; simp
    · rw [if_neg hw]
      by_cases hn : nextN l = 0
      · rw [if_pos hn]
        exact ⟨next_left l hn (by omega), by simp, Nat.le_refl _⟩
      · rw [if_neg hn]
        have h8 := nextN_8 l hn
        have hle := nextN_le l
        match n, h with
        | 0, h => omega
        | n + 1, h =>
          have := parse_len n (l.drop (nextN l)) (by rw [List.length_drop]; omega)
          rw [List.length_drop] at this
          refine ⟨this.1, ?_, ?_⟩
          · show _ + 1 ≤ _; omega
          · show (parse (l.drop (nextN l))).2.2.length ≤ _; omega

theorem reps_len1 (n : Nat) : (reps [AVal.int .u8 0] n).length = n := by rw [reps_length]; simp

/-- Room for so many. -/
theorem grow_eq (h : Heap) (n : Nat) (hn : n ≤ 140737488355328) : ∃ s h', E tbl 31 [.nilSlice, .int .i64 n] h = some (s, h') ∧ Buf 1 s h' h.next 0 [] ∧ Went h h' := by
  have i0 : ¬ (n : Int) < 0 := by omega
  have w0 : IntKind.i64.wrap (n : Int) = n := IntWalk.i64_in _ (by omega)
  have w00 : IntKind.i64.wrap 0 = 0 := by decide
  by_cases hz : n = 0
  · subst hz
    refine ⟨.nilSlice, h, ?_, Buf.nil _ _ _, Went.refl _⟩
    rw [c31]
    simp [S31, aCap, aLen, w00]
  · have i1 : (0 : Int) < (n : Int) := by omega
    have hb : Nat.beq n 0 = false := by rw [beq_dec]; simpa using hz
    refine ⟨.slice h.next 0 0 n 1 false, h.alloc (reps [.int .u8 0] n), ?_, ⟨rfl, .inr ⟨h.next, false, n, reps [.int .u8 0] n, by simp, Nat.le_refl _, by simp, by rw [reps_len1]; omega, by simp⟩⟩, Went.alloc _ _⟩
    have cp : aCap .nilSlice = some (.int .i64 0) := rfl
    have ln : aLen false .nilSlice = some (.int .i64 0) := rfl
    have sl : aSliceSl 1 .nilSlice none (some (.int .i64 0)) none = some .nilSlice := by simp [aSliceSl, aBound]
    have ap : aAppend 1 1 [.int .u8 0] true .nilSlice (.int .i64 (n : Int)) h = some (.slice h.next 0 n n 1 false, h.alloc (reps [.int .u8 0] n)) := by
      have g1 : (0 : Int) ≤ (n : Int) ∧ (n : Int) ≤ 140737488355328 ∧ (n : Int) * ((1 : Nat) : Int) ≤ 140737488355328 := by omega
      simp only [aAppend, aNews]
      rw [if_pos g1]
      simp only [Option.bind_some, Int.toNat_natCast, hb, cond_false]
      rw [if_pos (by omega)]
    have sl2 : aSliceSl 1 (.slice h.next 0 n n 1 false) none (some (.int .i64 0)) none = some (.slice h.next 0 0 n 1 false) := by simp [aSliceSl, aBound]
    rw [c31]
    have hpos : 0 < n := by omega
    simp [S31, i0, cp, ln, w0, w00, hpos, sl, ap, sl2, beq_dec]

theorem Buf.bytes {s x : AVal} {h : Heap} {n0 : Nat} {l m : List UInt8} (O : Buf 1 s h n0 l.length (byteCells l)) (S : Bs x h m) (h0 : n0 ≤ h.next) (hb : l.length + m.length ≤ 140737488355328) :
    ∃ s' h', aAppend 1 1 [.int .u8 0] false s x h = some (s', h') ∧ Buf 1 s' h' n0 (l ++ m).length (byteCells (l ++ m)) ∧ Kept h s h' s' := by
  obtain ⟨s', h', e, O', K⟩ := O.app (bytes := 1) (zero := [.int .u8 0]) S (by omega) h0 (by omega) (by omega)
  refine ⟨s', h', e, ?_, K⟩
  rw [byteCells_app, List.length_append]
  exact O'

theorem concat_eq {s x : AVal} {h : Heap} {l b : List UInt8} (L : Bs s h l) (B : Bs x h b) (hsz : l.length + b.length ≤ 140737488355328) :
    ∃ o h', E tbl 26 [.slice h.next 0 2 2 1 true] (h.alloc [s, x]) = some (o, h') ∧ Buf 1 o h' h.next (l ++ b).length (byteCells (l ++ b)) ∧ Went h h' := by
  have W1 : Went h (h.alloc [s, x]) := Went.alloc _ _
  have A0 : aIaddr 1 (.slice h.next 0 2 2 1 true) (.int .i64 0) = some (.ptr h.next 0) := by simp [aIaddr, aIdx]
  have A1 : aIaddr 1 (.slice h.next 0 2 2 1 true) (.int .i64 1) = some (.ptr h.next 1) := by simp [aIaddr, aIdx]
  have hb0 : (h.alloc [s, x]).blk h.next = some ⟨[s, x], true⟩ := alloc_same _ _
  have rd : ∀ G : Heap, G.blk h.next = some ⟨[s, x], true⟩ → aLoad G 1 (.ptr h.next 0) = some [s] ∧ aLoad G 1 (.ptr h.next 1) = some [x] := fun G hG => by
    constructor
    · rw [load_ptr, rd_of hG 0 1 (by simp)]; rfl
    · rw [load_ptr, rd_of hG 1 1 (by simp)]; rfl
  obtain ⟨r0, r1⟩ := rd _ hb0
  have ls := L.len
  have lx := B.len
  have w1 : IntKind.i64.wrap (0 + (l.length : Int)) = (l.length : Int) := by rw [IntWalk.i64_in _ (by omega)]; omega
  have w1' : IntKind.i64.wrap (l.length : Int) = (l.length : Int) := IntWalk.i64_in _ (by omega)
  have w2 : IntKind.i64.wrap ((l.length : Int) + (b.length : Int)) = ((l.length + b.length : Nat) : Int) := by rw [IntWalk.i64_in _ (by omega)]; omega
  have n1 : ¬ (l.length : Int) < 0 := by omega
  have n2 : ¬ ((l.length + b.length : Nat) : Int) < 0 := by omega
  have sum : loop (L26_0 (E tbl)) [.slice h.next 0 2 2 1 true, .int .i64 0, .slice h.next 0 2 2 1 true, .int .i64 2, .int .i64 0] (h.alloc [s, x]) = some (1, [.slice h.next 0 2 2 1 true, .int .i64 ((l.length + b.length : Nat) : Int)], h.alloc [s, x]) := by
    rw [loop_more (xs' := [.slice h.next 0 2 2 1 true, .int .i64 (l.length : Int), .slice h.next 0 2 2 1 true, .int .i64 2, .int .i64 1]) (h' := h.alloc [s, x])]
    · rw [loop_more (xs' := [.slice h.next 0 2 2 1 true, .int .i64 ((l.length + b.length : Nat) : Int), .slice h.next 0 2 2 1 true, .int .i64 2, .int .i64 2]) (h' := h.alloc [s, x])]
      · exact loop_done (by simp [L26_0])
      · have hw : IntKind.i64.wrap 2 = 2 := by decide
        generalize ((l.length + b.length : Nat) : Int) = z at w2 n2 ⊢
        simp [L26_0, A1, r1, lx, w2, n2, hw]
    · have hw : IntKind.i64.wrap 1 = 1 := by decide
      simp [L26_0, A0, r0, ls, w1', n1, hw]
  obtain ⟨g, G, e1, O1, W2⟩ := grow_eq (h.alloc [s, x]) (l.length + b.length) hsz
  have hgb : ∀ c, slBlk g = some c → (h.alloc [s, x]).next ≤ c := fun c hc => (O1.blk c hc).1
  have hnx : (h.alloc [s, x]).next = h.next + 1 := rfl
  obtain ⟨g1, G1, e2, O2, K2⟩ := Buf.bytes (l := []) O1 ((W1.trans W2).src L) W2.next (by simp; omega)
  rw [List.nil_append] at O2
  have W3 : Went (h.alloc [s, x]) G1 := K2.went W2 hgb
  obtain ⟨g2, G2, e3, O3, K3⟩ := Buf.bytes O2 ((W1.trans W3).src B) W3.next hsz
  have W4 : Went (h.alloc [s, x]) G2 := K3.went W3 fun c hc => (O2.blk c hc).1
  obtain ⟨q0, q1⟩ := rd G (by rw [W2.old _ (by omega)]; exact hb0)
  obtain ⟨q2, q3⟩ := rd G1 (by rw [W3.old _ (by omega)]; exact hb0)
  have cat : loop (L26_1 (E tbl)) [g, .slice h.next 0 2 2 1 true, .int .i64 2, .int .i64 0] G = some (1, [g2], G2) := by
    rw [loop_more (xs' := [g1, .slice h.next 0 2 2 1 true, .int .i64 2, .int .i64 1]) (h' := G1)]
    · rw [loop_more (xs' := [g2, .slice h.next 0 2 2 1 true, .int .i64 2, .int .i64 2]) (h' := G2)]
      · exact loop_done (by simp [L26_1])
      · have hw : IntKind.i64.wrap 2 = 2 := by decide
        simp [L26_1, A1, q3, e3, hw]
    · have hw : IntKind.i64.wrap 1 = 1 := by decide
      simp [L26_1, A0, q0, e2, hw]
  refine ⟨g2, G2, ?_, O3.base (by omega), W1.trans W4⟩
  have la : aLen false (.slice h.next 0 2 2 1 true) = some (.int .i64 2) := rfl
  rw [c26]
  generalize ((l.length + b.length : Nat) : Int) = z at sum e1
  simp [S26, la, sum, e1, cat, beq_dec]

/-- A stream in memory. -/
structure St (p : Nat) (G : Heap) (s : AVal) (l : List UInt8) (w : Nat) : Prop where
  lt : p < G.next
  blk : G.blk p = some ⟨[s, .int .i64 w], true⟩
  bs : Bs s G l
  room : El.Room s
  ne : ∀ b, slBlk s = some b → b ≠ p

theorem St.rd0 {p : Nat} {G : Heap} {s : AVal} {l : List UInt8} {w : Nat} (T : St p G s l w) : G.rd p 0 1 = some [s] := by rw [rd_of T.blk 0 1 (by simp)]; rfl
theorem St.rd1 {p : Nat} {G : Heap} {s : AVal} {l : List UInt8} {w : Nat} (T : St p G s l w) : G.rd p 1 1 = some [.int .i64 w] := by rw [rd_of T.blk 1 1 (by simp)]; rfl
theorem St.kept {p : Nat} {G H : Heap} {s : AVal} {l : List UInt8} {w : Nat} (T : St p G s l w) (hn : G.next ≤ H.next) (ho : ∀ b, b < G.next → b = p ∨ slBlk s = some b → H.blk b = G.blk b) : St p H s l w where
  lt := Nat.lt_of_lt_of_le T.lt hn
  blk := by rw [ho p T.lt (.inl rfl)]; exact T.blk
  bs := Src.kept T.bs hn fun b hb => ho b (T.bs.blk b hb) (.inr hb)
  room := T.room
  ne := T.ne
/-- Its cells are written anew. -/
theorem St.set {p : Nat} {G : Heap} {s s' : AVal} {l l' : List UInt8} {w w' : Nat} (T : St p G s l w) (B : Bs s' G l') (R : El.Room s') (ne : ∀ b, slBlk s' = some b → b ≠ p) : St p (G.setBlk p (some ⟨[s', .int .i64 w'], true⟩)) s' l' w' where
  lt := T.lt
  blk := setBlk_same _ _ _
  bs := Src.kept B (Nat.le_refl _) fun b hb => setBlk_ne _ _ (ne b hb)
  room := R
  ne := ne
theorem St.wr0 {p : Nat} {G : Heap} {s s' : AVal} {l : List UInt8} {w : Nat} (T : St p G s l w) : G.wr p 0 [s'] = some (G.setBlk p (some ⟨[s', .int .i64 w], true⟩)) := by rw [wr_of T.blk _ _ (by simp)]; rfl

/-- One round of the loop that takes frames. -/
theorem feedStep {p : Nat} {n0 : Nat} {G : Heap} {s o : AVal} {l : List UInt8} {fs : List (List UInt8)} (T : St p G s l 0) (O : Outs n0 G o fs) (h0 : n0 ≤ G.next) (hp : p < n0) (hsz : l.length ≤ 140737488355328) (hf : fs.length ≤ 4000000000000) (hso : ∀ b, slBlk s = some b → slBlk o ≠ some b) :
    (nextW l ≠ 0 ∧ ∃ G', L18_0 (E tbl) [.ptr p 0, o] G = some (1, [o, .int .i64 (nextW l)], G') ∧ Outs n0 G' o fs ∧ St p G' .nilSlice [] (nextW l) ∧ Only p G G') ∨
    (nextW l = 0 ∧ nextN l = 0 ∧ L18_0 (E tbl) [.ptr p 0, o] G = some (1, [o, .int .i64 0], G)) ∨
    (nextW l = 0 ∧ nextN l ≠ 0 ∧ ∃ o' G' s', L18_0 (E tbl) [.ptr p 0, o] G = some (0, [.ptr p 0, o'], G') ∧ Outs n0 G' o' (fs ++ [(l.drop 4).take (nextN l - 8)]) ∧ St p G' s' (l.drop (nextN l)) 0 ∧ G.next ≤ G'.next ∧ (∀ b, b < n0 → b ≠ p → G'.blk b = G.blk b) ∧ (∀ b, slBlk s' = some b → slBlk o' ≠ some b) ∧ ∀ b, slBlk s' = some b → slBlk s = some b) := by
  have r0 := T.rd0
  have en := next_eq T.bs T.room hsz
  have hn0 : ∀ b, slBlk o = some b → n0 ≤ b := fun b hb => by
    obtain ⟨S, OO, _⟩ := O
    exact (OO.blk b hb).1
  by_cases hw : nextW l ≠ 0
  · left
    have iw : ((nextW l : Int) == 0) = false := by simp only [beq_eq_false_iff_ne, ne_eq]; omega
    have T2 := T.set (Bs.nil G) Room.nil (fun b hb => by cases hb) (w' := 0)
    have T3 := T2.set (Bs.nil _) Room.nil (fun b hb => by cases hb) (w' := nextW l)
    rw [setBlk_twice] at T3
    refine ⟨hw, _, ?_, ?_, T3, ⟨Nat.le_refl _, fun b _ hb => setBlk_ne _ _ hb⟩⟩
    · have e1 := T.wr0 (s' := .nilSlice)
      have e2 : (G.setBlk p (some ⟨[.nilSlice, .int .i64 (0 : Nat)], true⟩)).wr p 1 [.int .i64 (nextW l)] = some (G.setBlk p (some ⟨[.nilSlice, .int .i64 (nextW l)], true⟩)) := by
        rw [wr_of (setBlk_same _ _ _) _ _ (by simp), setBlk_twice]; rfl
      have hc : aCells 1 .nilSlice = some [.nilSlice] := rfl
      simp only [Int.cast_ofNat_Int] at e1 e2
      simp [L18_0, r0, en, iw, bne, e1, hc, e2]
    · exact O.went (Nat.le_refl _) fun b hb _ => setBlk_ne _ _ (by omega)
  · have hw0 : nextW l = 0 := by omega
    by_cases hn : nextN l = 0
    · right; left
      refine ⟨hw0, hn, ?_⟩
      rw [hw0, hn] at en
      simp [L18_0, r0, en]
    · right; right
      have h8 := nextN_8 l hn
      have hle := nextN_le l
      have iN : ((nextN l : Int) == 0) = false := by simp only [beq_eq_false_iff_ne, ne_eq]; omega
      have wN : IntKind.i64.wrap ((nextN l : Int) - 4) = ((nextN l - 4 : Nat) : Int) := by rw [IntWalk.i64_in _ (by omega)]; omega
      obtain ⟨s1, e1, S1, _, _⟩ := T.bs.mid T.room 4 (nextN l - 4) (by omega) (by omega)
      obtain ⟨s2, G2, e2, F2⟩ := bclone_eq S1 (by rw [List.length_take, List.length_drop]; omega)
      have e48 : nextN l - 4 - 4 = nextN l - 8 := by omega
      rw [e48] at F2
      obtain ⟨o', G3, e3, O3, K3⟩ := O.snoc h0 F2 (by omega)
      have hk := K3.next
      have hn2 := F2.went.next
      have T3 : St p G3 s l 0 := T.kept (by omega) fun b hb hor => by
        rw [K3.old b (by omega) fun e => ?_, F2.went.old b hb]
        rcases hor with rfl | hs
        · have := hn0 _ e; omega
        · exact hso b hs e
      have r3 := T3.rd0
      obtain ⟨s4, e4, S4, R4, b4⟩ := T3.bs.post T.room (nextN l) hle
      have T4 := T3.set S4 R4 (fun b hb => T.ne b (b4 b hb)) (w' := 0)
      refine ⟨hw0, hn, o', G3.setBlk p (some ⟨[s4, .int .i64 ((0 : Nat) : Int)], true⟩), s4, ?_, O3.went (Nat.le_refl _) fun b hb _ => setBlk_ne _ _ (by omega), T4, by show G.next ≤ G3.next; omega, fun b hb hbp => ?_, fun b hb e => (K3.blk b e).elim (hso b (b4 b hb)) fun h => by have := T.bs.blk b (b4 b hb); omega, b4⟩
      · have e5 := T3.wr0 (s' := s4)
        have hc := S4.cell
        rw [hw0] at en
        have hc2 := F2.own.cell
        simp only [Int.cast_ofNat_Int] at e1 e5
        simp [L18_0, r0, en, iN, wN, e1, e2, hc2, e3, r3, e4, hc, e5]
      · rw [setBlk_ne _ _ hbp, K3.old b (by omega) fun e => by have := hn0 _ e; omega, F2.went.old b (by omega)]
end Go.Proofs.Ytmmfcgbcocmkgaa.Code
