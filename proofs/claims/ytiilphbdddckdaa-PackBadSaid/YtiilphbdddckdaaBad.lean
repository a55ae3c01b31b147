/- Chapter 2: PackBad. -/
import Derived.Test.YtiilphbdddckdaaNumbers
namespace Go.Proofs.Ytiilphbdddckdaa.Code
open Go.Fw

/-- Numbers packed one behind the other. -/
def ints8 (l : List Int) : List UInt8 := l.flatMap be8
theorem ints8_snoc (l : List Int) (x : Int) : ints8 (l ++ [x]) = ints8 l ++ be8 x := by simp [ints8]
theorem ints8_len (l : List Int) : (ints8 l).length = 8 * l.length := by
  induction l with
  | nil => rfl
  | cons a l ih => simp [ints8] at *; omega

theorem ints8_at : ∀ (l : List Int) (i : Nat) (hi : i < l.length), ((ints8 l).drop (8 * i)).take 8 = be8 (l.getD i 0)
  | [], i, hi => by simp at hi
  | a :: l, 0, _ => by simp [ints8, List.take_append_of_le_length]
  | a :: l, i + 1, hi => by
    have := ints8_at l i (by simpa using hi)
    have h1 : (ints8 (a :: l)).drop (8 * (i + 1)) = (ints8 l).drop (8 * i) := by
      have : ints8 (a :: l) = be8 a ++ ints8 l := by simp [ints8]
      rw [this, List.drop_append]
      simp
      rw [show 8 * (i + 1) - 8 = 8 * i by omega]
      simp [List.drop_eq_nil_of_le]
      omega
    rw [h1, this]
    simp

theorem fill_ints (h0 : Heap) (a1 : AVal) {s : AVal} {l : List Int} (I : Ints .i64 s h0 l) (lt : ∀ b, slBlk s = some b → b < h0.next) (k : Nat) (hk : k ≤ l.length) (hk2 : k ≤ 100) :
    ∃ s' h', loop (L3_0 (E tbl)) [s, a1, .nilSlice, .int .i64 k, .int .i64 0] h0 = some (1, [s, a1, s', .int .i64 k], h') ∧ Sub s' h' (ints8 (l.take k)) ∧ Went h0 h' := by
  obtain ⟨r, e, s', h', hr, S, W⟩ := loop_ok (f := L3_0 (E tbl)) (fun m xs h => ∃ (i : Nat) (b : AVal), i + m = k ∧ Sub b h (ints8 (l.take i)) ∧ Went h0 h ∧ xs = [s, a1, b, .int .i64 k, .int .i64 i])
      (fun r => ∃ (s' : AVal) (h' : Heap), r = (1, [s, a1, s', .int .i64 k], h') ∧ Sub s' h' (ints8 (l.take k)) ∧ Went h0 h') (by
    rintro m xs h ⟨i, b, hi, S, W, rfl⟩
    by_cases q : i < k
    · left
      have q' : (i : Int) < k := by omega
      have ws := wrap_succ i (by omega)
      have J := I.mono (h' := h) fun b hb => W.old b (lt b hb)
      obtain ⟨p, x1, x2⟩ := J.at i (by omega)
      have ht : l.take (i + 1) = l.take i ++ [l.getD i 0] := by
        rw [List.take_add_one, List.getElem?_eq_getElem (by omega), List.getD_eq_getElem?_getD, List.getElem?_eq_getElem (by omega)]
        rfl
      have hl := ints8_len (l.take i)
      have hl2 : (l.take i).length ≤ 100 := by simp; omega
      obtain ⟨b', h1, e1, F1⟩ := int_eq S.src (l.getD i 0) (by omega)
      refine ⟨_, h1, ?_, m - 1, by omega, i + 1, b', by omega, by rw [ht, ints8_snoc]; exact F1.sub, W.trans F1.went, rfl⟩
      generalize l.getD i 0 = x at *
      simp [L3_0, q', x1, x2, e1, ws]
    · right
      have q' : ¬ (i : Int) < k := by omega
      have : i = k := by omega
      subst this
      exact ⟨0, _, h, by simp [L3_0], b, h, rfl, S, W⟩) k _ h0 ⟨0, .nilSlice, by omega, .inl ⟨rfl, rfl⟩, Went.refl _, rfl⟩
  subst hr
  exact ⟨s', h', e, S, W⟩

/-- What a reader of the first c bytes is like behind so many numbers. -/
def stL (l : List UInt8) (c i : Nat) : List UInt8 := if 8 * i ≤ c then (l.take c).drop (8 * i) else (l.take c).drop (8 * (c / 8))
def stB (c i : Nat) : Bool := decide (c < 8 * i)

theorem st_step (l : List UInt8) (c i : Nat) (hc : c ≤ l.length) : takeF 8 (stL l c i) (stB c i) = (if 8 * i + 8 ≤ c then ((l.drop (8 * i)).take 8) else [], stL l c (i + 1), stB c (i + 1)) := by
  unfold takeF stB
  by_cases h1 : c < 8 * i
  · have h2 : ¬ 8 * i + 8 ≤ c := by omega
    have h3 : ¬ 8 * i ≤ c := by omega
    have h4 : ¬ 8 * (i + 1) ≤ c := by omega
    have h5 : c < 8 * (i + 1) := by omega
    simp [h1, h2, h5, stL, h3, h4]
  · have h3 : 8 * i ≤ c := by omega
    have hl : (stL l c i).length = c - 8 * i := by simp [stL, h3]; omega
    by_cases h2 : 8 * i + 8 ≤ c
    · have h4 : ¬ (c - 8 * i < 8) := by omega
      have h5 : ¬ c < 8 * (i + 1) := by omega
      have h6 : 8 * (i + 1) ≤ c := by omega
      simp only [h1, decide_false, Bool.false_eq_true, hl, h4, or_self, if_false, h2, if_true, h5]
      congr 1
      · simp only [stL, h3, if_true]
        rw [List.drop_take, List.take_take, Nat.min_eq_left (by omega)]
      · congr 1
        simp only [stL, h3, h6, if_true, List.drop_drop]
        rw [show 8 * i + 8 = 8 * (i + 1) by omega]
    · have h4 : c - 8 * i < 8 := by omega
      have h5 : c < 8 * (i + 1) := by omega
      have h6 : ¬ 8 * (i + 1) ≤ c := by omega
      have h7 : c / 8 = i := by omega
      simp only [h1, decide_false, Bool.false_eq_true, hl, h4, or_true, if_true, h2, if_false, h5, decide_true, Prod.mk.injEq, true_and, and_true]
      simp [stL, h3, h6, h7]

theorem packBad_law (h0 : Heap) {s : AVal} {l : List Int} (I : Ints .i64 s h0 l) (lt : ∀ b, slBlk s = some b → b < h0.next) (wf : ∀ x ∈ l, (Lit.int .i64 x).wf = true) (_ : l.length * 8 ≤ 140737488355328) (cut : Int) (_ : (Lit.int .i64 cut).wf = true) :
    ∃ h', E tbl 3 [s, .int .i64 cut] h0 = some (.bool true, h') := by
  obtain ⟨k, hk⟩ : ∃ k, k = min l.length 12 := ⟨_, rfl⟩
  have hmin : min (l.length : Int) 12 = (k : Int) := by omega
  obtain ⟨s1, h1, e1, S1, W1⟩ := fill_ints h0 (.int .i64 cut) I lt k (by omega) (by omega)
  have htl : (l.take k).length = k := by simp; omega
  have hlen : (ints8 (l.take k)).length = 8 * k := by rw [ints8_len, htl]
  obtain ⟨B, hB⟩ : ∃ B, B = ints8 (l.take k) := ⟨_, rfl⟩
  rw [← hB] at S1 hlen
  have e2 := within_eq cut 0 (8 * k : Nat) (by omega) (by omega) (by omega) h1
  have ci := within_in cut 0 (8 * k : Nat) (by omega)
  obtain ⟨c, hc⟩ : ∃ c : Nat, (c : Int) = within cut 0 (8 * k : Nat) := ⟨(within cut 0 (8 * k : Nat)).toNat, by omega⟩
  rw [← hc] at e2 ci
  have hck : c ≤ 8 * k := by omega
  obtain ⟨s2, s2', c1, _, S2, _, _, _⟩ := S1.cut c (by omega)
  obtain ⟨r, h2, e3, Q, W2, hr, _⟩ := new_eq S2.src (by simp; omega)
  have Q0 : R r h2 (stL B c 0) (stB c 0) := by
    have : stL B c 0 = B.take c ∧ stB c 0 = false := by simp [stL, stB]
    rw [this.1, this.2]
    exact Q
  have W02 := W1.trans W2
  have lt2 : h0.next ≤ r := Nat.le_trans W1.next hr
  obtain ⟨rr, e4, H, hrr, QH⟩ := loop_ok (f := L3_1 (E tbl)) (fun m xs h => ∃ (i : Nat), i + m = k ∧ R r h (stL B c i) (stB c i) ∧ Went h0 h ∧ xs = [s, s1, .int .i64 k, .int .i64 c, .ptr r 0, .int .i64 i])
      (fun rr => ∃ (H : Heap), rr = (1, [s1, .int .i64 c, .ptr r 0], H) ∧ R r H (stL B c k) (stB c k) ∧ (∀ b, slBlk s1 = some b → b ≠ r)) (by
    rintro m xs h ⟨i, hi, Q, W, rfl⟩
    by_cases q : i < k
    · left
      have q' : (i : Int) < k := by omega
      have ws := wrap_succ i (by omega)
      have w1 : IntKind.i64.wrap (8 * (i : Int)) = 8 * (i : Int) := IntWalk.i64_in _ (by omega)
      have w2 : IntKind.i64.wrap (8 * (i : Int) + 8) = 8 * (i : Int) + 8 := IntWalk.i64_in _ (by omega)
      obtain ⟨s3, h3, x1, _, T⟩ := rdInt_eq Q
      have hst := st_step B c i (by omega)
      rw [hst] at x1 T
      have W3 := took_went W lt2 T
      have J := I.mono (h' := h3) fun b hb => W3.old b (lt b hb)
      obtain ⟨p, a1, a2⟩ := J.at i (by omega)
      have bd := (bad_eq T.rd).1
      refine ⟨_, h3, ?_, m - 1, by omega, i + 1, by omega, T.rd, W3, rfl⟩
      by_cases qc : 8 * i + 8 ≤ c
      · have hv : intV ((B.drop (8 * i)).take 8) = l.getD i 0 := by
          have h4 := ints8_at (l.take k) i (by omega)
          rw [← hB] at h4
          have h5 : (l.take k).getD i 0 = l.getD i 0 := by simp [List.getD_eq_getElem?_getD, List.getElem?_take, q]
          rw [h4, h5]
          apply dec_be8
          have hmem : l.getD i 0 ∈ l := by
            rw [List.getD_eq_getElem?_getD, List.getElem?_eq_getElem (by omega)]
            exact List.getElem_mem _
          exact wf64 (wf _ hmem)
        have qc' : (8 * (i : Int) + 8) ≤ c := by omega
        have hb : stB c (i + 1) = false := by simp [stB]; omega
        simp only [qc, if_true, hv] at x1
        rw [hb] at bd
        generalize l.getD i 0 = x at *
        simp [L3_1, q', w1, w2, qc', x1, a1, a2, bd, ws]
      · have qc' : ¬ (8 * (i : Int) + 8) ≤ c := by omega
        have hv : intV [] = 0 := rfl
        have hb : stB c (i + 1) = true := by simp [stB]; omega
        simp only [qc, if_false, hv] at x1
        rw [hb] at bd
        simp [L3_1, q', w1, w2, qc', x1, bd, ws]
    · right
      have q' : ¬ (i : Int) < k := by omega
      have : i = k := by omega
      subst this
      refine ⟨0, _, h, by simp [L3_1], h, rfl, Q, fun b hb => ?_⟩
      have := S1.blk b hb
      omega) k _ h2 ⟨0, by omega, Q0, W02, rfl⟩
  subst hrr
  obtain ⟨QH, _⟩ := QH
  have bd := (bad_eq QH).1
  have dn := (done_eq QH).1
  obtain ⟨h5, kn⟩ := known_eq H
  refine ⟨h5, ?_⟩
  have ln := S1.src.len
  rw [hlen] at ln
  have hl0 : ((l.length : Int)) = (l.length : Int) := rfl
  have z : ((0 : Nat) : Int) = 0 := rfl
  have hbk : stB c k = decide ((c : Int) < ((8 * k : Nat) : Int)) := by
    unfold stB
    rw [Bool.eq_iff_iff, decide_eq_true_eq, decide_eq_true_eq]; omega
  have hdn : (!stB c k && decide ((stL B c k).length = 0)) = ((c : Int) == ((8 * k : Nat) : Int)) := by
    by_cases hcc : c = 8 * k
    · subst hcc
      have : (stL B (8 * k) k).length = 0 := by simp [stL]
      simp [stB, this]
    · have : stB c k = true := by simp [stB]; omega
      have h2 : ¬ (c : Int) = ((8 * k : Nat) : Int) := by omega
      rw [this]
      simp only [Bool.not_true, Bool.false_and]
      exact (beq_eq_false_iff_ne.2 h2).symm
  rw [hdn] at dn
  rw [hbk] at bd
  generalize ((8 * k : Nat) : Int) = K at *
  rw [c3]
  rw [z] at e4
  simp [S3, I.len, hmin, e1, ln, e2, c1, e3, e4, bd, dn, kn]

end Go.Proofs.Ytiilphbdddckdaa.Code
