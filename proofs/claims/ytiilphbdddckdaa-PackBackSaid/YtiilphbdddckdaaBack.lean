/- Chapter 2: PackBack. -/
import Derived.Test.YtiilphbdddckdaaBad
import Derived.Test.YtiilphbdddckdaaFwZl
namespace Go.Proofs.Ytiilphbdddckdaa.Code
open Go.Fw

def cutT (s : List UInt8) : List UInt8 := s.take 100
/-- What is packed of one round. -/
def item (ns : List Int) (ss : List (List UInt8)) (j : Nat) : List UInt8 := (be8 (ns.getD j 0) ++ packText (cutT (ss.getD j []))) ++ [bU8 j]
/-- So many rounds, from one on. -/
def enc (ns : List Int) (ss : List (List UInt8)) : Nat → Nat → List UInt8
  | _, 0 => []
  | j, m + 1 => item ns ss j ++ enc ns ss (j + 1) m

theorem enc_snoc (ns : List Int) (ss : List (List UInt8)) : ∀ (m j : Nat), enc ns ss j (m + 1) = enc ns ss j m ++ item ns ss (j + m)
  | 0, j => by simp [enc]
  | m + 1, j => by
    have := enc_snoc ns ss m (j + 1)
    rw [enc, this, enc, List.append_assoc, show j + 1 + m = j + (m + 1) by omega]

theorem packCut (s : List UInt8) : packText (cutT s) = bU8 ((cutT s).length : Int) :: cutT s ∧ (cutT s).length ≤ 100 := by
  have h : (cutT s).length ≤ 100 := by simp [cutT]; omega
  have : (cutT s).take 255 = cutT s := List.take_of_length_le (by omega)
  exact ⟨by simp [packText, this], h⟩

theorem item_len (ns : List Int) (ss : List (List UInt8)) (j : Nat) : (item ns ss j).length ≤ 120 := by
  obtain ⟨h1, h2⟩ := packCut (ss.getD j [])
  simp only [item, h1, List.length_append, be8_len, List.length_cons, List.length_nil]
  omega

theorem enc_len (ns : List Int) (ss : List (List UInt8)) : ∀ (m j : Nat), (enc ns ss j m).length ≤ 120 * m
  | 0, j => by simp [enc]
  | m + 1, j => by
    have := enc_len ns ss m (j + 1)
    have := item_len ns ss j
    simp [enc]
    omega

theorem bU8_nat (n : Nat) (h : n < 256) : (bU8 (n : Int)).toNat = n := by
  have := bU8_int (n : Int)
  rw [IntKind.wrap_u8] at this
  omega

theorem take8 (n : Int) (l : List UInt8) : takeF 8 (be8 n ++ l) false = (be8 n, l, false) := by
  have h1 : ¬ ((be8 n ++ l).length < 8) := by simp
  have h8 := be8_len n
  unfold takeF
  simp only [Bool.false_eq_true, h1, or_self, if_false]
  rw [List.take_append_of_le_length (by omega), List.take_of_length_le (by omega), List.drop_append, List.drop_of_length_le (by omega), h8]
  simp

theorem text_back (t l : List UInt8) (ht : t.length ≤ 100) : textF ((bU8 (t.length : Int) :: t) ++ l) false = (t, l, false) := by
  have h1 : takeF 1 ((bU8 (t.length : Int) :: t) ++ l) false = ([bU8 (t.length : Int)], t ++ l, false) := by
    unfold takeF
    simp
  unfold textF
  rw [h1]
  have hv : byteV [bU8 (t.length : Int)] = t.length := bU8_nat _ (by omega)
  simp only [hv]
  unfold takeF
  simp

theorem byte_back (i : Nat) (hi : i < 256) (l : List UInt8) : takeF 1 ([bU8 (i : Int)] ++ l) false = ([bU8 (i : Int)], l, false) ∧ byteV [bU8 (i : Int)] = i := by
  refine ⟨?_, bU8_nat _ hi⟩
  unfold takeF
  simp

theorem cut_eq (t : List UInt8) : (¬ (t.length : Int) > 100 → cutT t = t) ∧ ((t.length : Int) > 100 → aSliceStr (.str t) none (some (.int .i64 100)) = some (.str (cutT t))) := by
  constructor
  · intro h; exact List.take_of_length_le (by omega)
  · intro h
    have q : (100 : Int) ≤ (t.length : Int) := by omega
    simp [aSliceStr, aBound, q, cutT]

theorem packBack_law (h0 : Heap) {sn st : AVal} {ns : List Int} {ss : List (List UInt8)} (In : Ints .i64 sn h0 ns) (tn : ∀ b, slBlk sn = some b → b < h0.next) (wf : ∀ x ∈ ns, (Lit.int .i64 x).wf = true) (_ : ns.length * 8 ≤ 140737488355328)
    (Is : Src 1 st h0 ss.length (ss.map .str)) : ∃ h', E tbl 6 [sn, st] h0 = some (.bool true, h') := by
  obtain ⟨k, hk⟩ : ∃ k, k = min (min ns.length ss.length) 20 := ⟨_, rfl⟩
  obtain ⟨r, e1, s1, h1, hr, S1, W1⟩ := loop_ok (f := L6_0 (E tbl)) (fun m xs h => ∃ (i : Nat) (b : AVal), i + m = k ∧ Sub b h (enc ns ss 0 i) ∧ Went h0 h ∧ xs = [sn, st, b, .int .i64 i, .int .i64 i])
      (fun r => ∃ (s1 : AVal) (h1 : Heap), r = (1, [sn, st, s1, .int .i64 k], h1) ∧ Sub s1 h1 (enc ns ss 0 k) ∧ Went h0 h1) (by
    rintro m xs h ⟨i, b, hi, S, W, rfl⟩
    have J := In.mono (h' := h) fun b hb => W.old b (tn b hb)
    have JS := W.src Is
    by_cases q : i < k
    · left
      have q1 : (i : Int) < ns.length := by omega
      have q2 : (i : Int) < ss.length := by omega
      have q3 : (i : Int) < 20 := by omega
      obtain ⟨p1, a1, g1⟩ := J.at i (by omega)
      obtain ⟨p2, a2, g2⟩ := JS.str i (by omega)
      have ws := wrap_succ i (by omega)
      have hle := enc_len ns ss i 0
      have hsnoc : enc ns ss 0 (i + 1) = ((enc ns ss 0 i ++ be8 (ns.getD i 0)) ++ packText (cutT (ss.getD i []))) ++ [bU8 i] := by
        rw [enc_snoc, Nat.zero_add, item]
        simp [List.append_assoc]
      obtain ⟨pk1, pk2⟩ := packCut (ss.getD i [])
      obtain ⟨c1, c2⟩ := cut_eq (ss.getD i [])
      generalize ns.getD i 0 = x at *
      generalize ss.getD i [] = t at *
      obtain ⟨b1, h1, e1, F1⟩ := int_eq S.src x (by omega)
      obtain ⟨b2, h2, e2, F2⟩ := text_eq F1.own.src (cutT t) (by simp; omega)
      obtain ⟨b3, h3, e3, F3⟩ := byte_eq F2.own.src (by rw [List.length_append, List.length_append, pk1]; simp; omega) (i : Int)
      have ln : aLen true (.str t) = some (.int .i64 t.length) := rfl
      refine ⟨_, h3, ?_, m - 1, by omega, i + 1, b3, by omega, by rw [hsnoc]; exact F3.sub, ((W.trans F1.went).trans F2.went).trans F3.went, rfl⟩
      by_cases ql : (t.length : Int) > 100
      · simp [L6_0, J.len, JS.len, q1, q2, q3, a1, g1, a2, g2, ln, ql, c2 ql, e1, e2, e3, ws]
      · have := c1 ql
        rw [this] at e2
        simp [L6_0, J.len, JS.len, q1, q2, q3, a1, g1, a2, g2, ln, ql, e1, e2, e3, ws]
    · right
      have hik : i = k := by omega
      subst hik
      refine ⟨0, _, h, ?_, b, h, rfl, S, W⟩
      by_cases q1 : (i : Int) < ns.length
      · by_cases q2 : (i : Int) < ss.length
        · have q3 : ¬ (i : Int) < 20 := by omega
          simp [L6_0, J.len, JS.len, q1, q2, q3]
        · simp [L6_0, J.len, JS.len, q1, q2]
      · simp [L6_0, J.len, JS.len, q1]) k _ h0 ⟨0, .nilSlice, by omega, .inl ⟨rfl, rfl⟩, Went.refl _, rfl⟩
  subst hr
  have hle := enc_len ns ss k 0
  obtain ⟨r, h2, e2, Q, W2, hr, _⟩ := new_eq S1.src (by omega)
  have W02 := W1.trans W2
  have lt2 : h0.next ≤ r := Nat.le_trans W1.next hr
  obtain ⟨rr, e3, H, hrr, QH⟩ := loop_ok (f := L6_1 (E tbl)) (fun m xs h => ∃ (i : Nat), i + m = k ∧ R r h (enc ns ss i m) false ∧ Went h0 h ∧ xs = [sn, st, .int .i64 k, .ptr r 0, .int .i64 i])
      (fun rr => ∃ (H : Heap), rr = (1, [.ptr r 0], H) ∧ R r H [] false) (by
    rintro m xs h ⟨i, hi, QI, W, rfl⟩
    cases m with
    | zero =>
      right
      have hik : i = k := by omega
      subst hik
      exact ⟨0, _, h, by simp [L6_1], h, rfl, QI⟩
    | succ m =>
      left
      have q' : (i : Int) < k := by omega
      have ws := wrap_succ i (by omega)
      have JS := W.src Is
      obtain ⟨p2, a2, g2⟩ := JS.str i (by omega)
      have J := In.mono (h' := h) fun b hb => W.old b (tn b hb)
      obtain ⟨p1, a1, g1⟩ := J.at i (by omega)
      have hpos : 0 < (enc ns ss i (m + 1)).length := by simp [enc, item]; omega
      have dn := (done_eq QI).1
      have hdn : (!false && decide ((enc ns ss i (m + 1)).length = 0)) = false := by simp; intro h; rw [h] at hpos; simp at hpos
      rw [hdn] at dn
      obtain ⟨pk1, pk2⟩ := packCut (ss.getD i [])
      obtain ⟨c1, c2⟩ := cut_eq (ss.getD i [])
      have hcons : enc ns ss i (m + 1) = be8 (ns.getD i 0) ++ ((bU8 ((cutT (ss.getD i [])).length : Int) :: cutT (ss.getD i [])) ++ ([bU8 i] ++ enc ns ss (i + 1) m)) := by
        rw [enc, item, pk1]
        simp [List.append_assoc]
      have hdec : intV (be8 (ns.getD i 0)) = ns.getD i 0 := by
        apply dec_be8
        have hmem : ns.getD i 0 ∈ ns := by
          rw [List.getD_eq_getElem?_getD, List.getElem?_eq_getElem (by omega)]
          exact List.getElem_mem _
        exact wf64 (wf _ hmem)
      rw [hcons] at QI
      obtain ⟨s3, h3, x3, _, T3⟩ := rdInt_eq QI
      rw [take8] at x3 T3
      simp only [hdec] at x3
      have W3 := took_went W lt2 T3
      obtain ⟨s4, h4, x4, _, T4⟩ := rdText_eq T3.rd
      rw [text_back _ _ pk2] at x4 T4
      have W4 := took_went W3 lt2 T4
      obtain ⟨s5, h5, x5, _, T5⟩ := rdByte_eq T4.rd
      obtain ⟨bb1, bb2⟩ := byte_back i (by omega) (enc ns ss (i + 1) m)
      rw [bb1] at x5 T5
      simp only [bb2] at x5
      have W5 := took_went W4 lt2 T5
      have bd := (bad_eq T5.rd).1
      have J3 := In.mono (h' := h3) fun b hb => W3.old b (tn b hb)
      obtain ⟨p1', a1', g1'⟩ := J3.at i (by omega)
      rw [a1] at a1'
      cases a1'
      have pp : ∃ b off, p1 = .ptr b off := by
        cases p1 <;> simp [aLoad] at g1
        exact ⟨_, _, rfl⟩
      obtain ⟨pb, po, rfl⟩ := pp
      simp only [load_ptr] at g1 g1'
      generalize ns.getD i 0 = x at *
      generalize ss.getD i [] = t at *
      have ln : aLen true (.str t) = some (.int .i64 t.length) := rfl
      refine ⟨_, h5, ?_, m, by omega, i + 1, by omega, T5.rd, W5, rfl⟩
      by_cases ql : (t.length : Int) > 100
      · simp [L6_1, q', a2, g2, ln, ql, c2 ql, dn, x3, a1, g1, g1', checkPairs, x4, str_neq, x5, bd, ws]
      · have := c1 ql
        rw [this] at x4
        simp [L6_1, q', a2, g2, ln, ql, dn, x3, a1, g1, g1', checkPairs, x4, str_neq, x5, bd, ws]) k _ h2 ⟨0, by omega, Q, W02, rfl⟩
  subst hrr
  have d1 := (done_eq QH).1
  obtain ⟨s4, h4, x4, _, T4⟩ := rdByte_eq QH
  have v4 : byteV (takeF 1 [] false).1 = 0 := rfl
  rw [v4] at x4
  have Q4 : R r h4 [] true := T4.rd
  have b4 := (bad_eq Q4).1
  have d4 := (done_eq Q4).1
  obtain ⟨h5, kn⟩ := known_eq h4
  refine ⟨h5, ?_⟩
  have z : ((0 : Nat) : Int) = 0 := rfl
  rw [z] at e1 e3
  have x4' : E tbl 22 [.ptr r 0] H = some (.int .i64 0, h4) := x4
  rw [c6]
  simp [S6, e1, e2, e3, d1, x4', b4, d4, kn]

end Go.Proofs.Ytiilphbdddckdaa.Code
