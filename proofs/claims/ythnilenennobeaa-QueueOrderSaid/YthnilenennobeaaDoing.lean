/- Chapter 17: what the program's queue answers. -/
import Derived.Test.YthnilenennobeaaQueue
namespace Go.Proofs.Ythnilenennobeaa.Code
set_option linter.unusedSimpArgs false
set_option linter.unusedVariables false
open Go.Fw

theorem key_eq (a b : Cd) : aBin .eql (.cells [2, 2]) (.agg [.str a.a, .str a.i]) (.agg [.str b.a, .str b.i]) = some (.bool (decide (a.key = b.key))) := eq_key _ _ _ _

theorem tells32 {H : Heap} {pc : Nat} {c : Cd} (hb : H.blk pc = some ⟨c.cells, true⟩) : Tells (E tbl) cdE (.func 32 [.ptr pc 0]) (fun x => decide (x.key = c.key)) H := by
  refine ⟨(32, [.ptr pc 0]), rfl, fun x => ?_⟩
  have r : H.rd pc 0 2 = some [.str c.a, .str c.i] := by rw [rd_of hb 0 2 (by simp)]; rfl
  have k := key_eq x c
  rw [cdE_f, c32]
  simp only [Cd.cells] at k ⊢
  simp [S32, r]
  by_cases h1 : x.a = c.a <;> by_cases h2 : x.i = c.i <;> simp [Cd.key, h1, h2]

theorem indexFunc_eq {s fv : AVal} {h : Heap} {l : List Cd} {pr : Cd → Bool} (S : SrcC s h l) (hl : l.length ≤ 1000000) (T : Tells (E tbl) cdE fv pr h) : E tbl 33 [s, fv] h = some (.int .i64 (firstI pr l), h) := by
  rw [c33, show S33 = indexFuncS 9 from rfl, indexFunc_of (E := cdE) S hl T]
  rfl

theorem deleteFunc_eq {s fv : AVal} {h : Heap} {n0 : Nat} {l : List Cd} {pr : Cd → Bool} (O : BufC s h n0 l) (hl : l.length ≤ 1000000) (T : ∀ H, H.next = h.next → (∀ b, slBlk s ≠ some b → H.blk b = h.blk b) → Tells (E tbl) cdE fv pr H) :
    ∃ s' h', E tbl 31 [s, fv] h = some (s', h') ∧ BufC s' h' n0 (l.filter fun x => !pr x) ∧ slBlk s' = slBlk s ∧ h'.next = h.next ∧ ∀ b, slBlk s ≠ some b → h'.blk b = h.blk b := by
  obtain ⟨s', h', e, x⟩ := deleteFunc_of (E := cdE) (zero := czero) (call := E tbl) (ix := 33) (p := pr) rfl O hl (indexFunc_eq O.src hl (T h rfl fun _ _ => rfl)) T
  refine ⟨s', h', ?_, x⟩
  have e2 : S31 (E tbl) s fv h = deleteFuncS 9 czero 33 (E tbl) s fv h := rfl
  rw [c31, e2, e]
  rfl

section
variable {p : Nat} {H : Heap} {q : Q} {F : Foot} {ps rs : AVal} {S : List AVal}

theorem add_ok (Z : QIn true p H q F ps rs S) (i : Nat) (hi : i < S.length) (c : Cd) :
    ∃ H' S' F', E tbl 24 [.ptr p 0, .int .i64 i, .agg c.cells] H = some (.tuple [], H') ∧ QIn true p H' (q.addAt i c) F' ps rs S' ∧ Mv F F' H H' := by
  have Z1 := Z.mono (H' := H.alloc c.cells) (by simp) fun b hb => alloc_old _ _ (by have := Z.flt b hb; omega)
  obtain ⟨a0, i1, i2⟩ := Z1.rowAt i hi
  have hrow : BufC (S.getD i .nilSlice) (H.alloc c.cells) 0 (q.R.getD i []) := Z1.row i hi
  have hm := Z.most i
  have hsb : ∀ b, slBlk (S.getD i .nilSlice) = some b → b < H.next := fun b hb => Z.flt b (Z.rowb i b hb).1
  have hpn := Z.lt
  obtain ⟨s1, H1, e1, B1, b1, n1, f1⟩ := deleteFunc_eq (pr := fun x => decide (x.key = c.key)) hrow (by omega) (fun G _ hG => tells32 (pc := H.next) (c := c) (by rw [hG _ (fun e => by have := hsb _ e; omega)]; simp))
  have hc1 : H1.rd H.next 0 9 = some c.cells := by
    have : H1.blk H.next = some ⟨c.cells, true⟩ := by rw [f1 _ (fun e => by have := hsb _ e; omega)]; simp
    rw [rd_of this 0 9 (by simp)]; rfl
  obtain ⟨s2, H2, e2, B2, K2⟩ := B1.snoc c (by omega) (by have := List.length_filter_le (fun x => !decide (x.key = c.key)) (q.R.getD i []); omega)
  have hn1 : H1.next = H.next + 1 := by rw [n1]; simp
  have hp1 : H1.blk p = some ⟨[ps, rs, .int .i64 q.lost], true⟩ := by rw [f1 p fun e => (Z.rowb i p e).2.1 rfl]; exact Z1.blk
  have hp2 : H2.blk p = some ⟨[ps, rs, .int .i64 q.lost], true⟩ := by rw [K2.old p (by omega) (by rw [b1]; exact fun e => (Z.rowb i p e).2.1 rfl)]; exact hp1
  have hk := K2.next
  have ho2 : ∀ b, b < H.next → slBlk (S.getD i .nilSlice) ≠ some b → H2.blk b = H.blk b := fun b hb hne => by
    rw [K2.old b (by omega) (by rw [b1]; exact hne), f1 b hne, alloc_old _ _ (by omega)]
  have hin : (q.R.getD i []).filter (fun x => !decide (x.key = c.key)) ++ [c] = rowIn (q.R.getD i []) c := rfl
  rw [hin] at B2
  obtain ⟨l1, l2⟩ := rowIn_len (q.R.getD i []) c hm
  have hln := B2.src.len
  have hs2 : ∀ b, slBlk s2 = some b → slBlk (S.getD i .nilSlice) = some b ∨ H.next ≤ b := fun b hb => by
    rcases K2.blk b hb with h | h
    · left; rw [← b1]; exact h
    · right; omega
  by_cases h16 : 16 < (rowIn (q.R.getD i []) c).length
  · have i16 : ((16 : Int) < ((rowIn (q.R.getD i []) c).length : Int)) := by omega
    obtain ⟨s3, H3, e3, B3, b3, n3, f3⟩ := cdel_eq B2 1 l1 (by omega)
    have hp3 : H3.blk p = some ⟨[ps, rs, .int .i64 q.lost], true⟩ := by
      rw [f3 p fun e => ?_]; exact hp2
      rcases hs2 p e with h | h
      · exact (Z.rowb i p h).2.1 rfl
      · omega
    have r2 : H3.rd p 2 1 = some [.int .i64 q.lost] := by rw [rd_of hp3 2 1 (by simp)]; rfl
    let H4 := H3.setBlk p (some ⟨[ps, rs, .int .i64 (IntKind.i64.wrap (q.lost + 1))], true⟩)
    have e4 : H3.wr p 2 [.int .i64 (IntKind.i64.wrap (q.lost + 1))] = some H4 := by rw [wr_of hp3 _ _ (by simp)]; simp [H4]
    have hp4 : H4.blk p = some ⟨[ps, rs, .int .i64 (IntKind.i64.wrap (q.lost + 1))], true⟩ := setBlk_same _ _ _
    have r1 : H4.rd p 1 1 = some [rs] := by rw [rd_of hp4 1 1 (by simp)]; rfl
    have hs3 : ∀ b, slBlk s3 = some b → slBlk (S.getD i .nilSlice) = some b ∨ H.next ≤ b := fun b hb => hs2 b (by rw [← b3]; exact hb)
    have B4 : RowOk true s3 H4 ((rowIn (q.R.getD i []) c).drop 1) := Fw.Buf.kept B3 (Nat.le_refl _) fun b hb => setBlk_ne _ _ fun e => by
      rcases hs3 b hb with h | h
      · exact (Z.rowb i b h).2.1 e
      · omega
    obtain ⟨a, H5, e5, e6, Z5, M5, n5, _⟩ := Z.put (H1 := H4) (lost1 := IntKind.i64.wrap (q.lost + 1)) (s' := s3) (r' := (rowIn (q.R.getD i []) c).drop 1) i hi (by show _ ≤ H3.next; omega) (fun b hb hbp hne => by
        have hne := hne rfl
        show H4.blk b = _
        rw [setBlk_ne _ _ hbp, f3 b fun e => ?_, ho2 b hb hne]
        rcases hs2 b e with h | h
        · exact hne h
        · omega) hp4 B4 hs3 (by rw [List.length_drop]; omega)
    refine ⟨H5, S.set i s3, _, ?_, ?_, M5⟩
    · have r0 := Z1.rd1
      obtain rfl : a0 = a := by rw [i1] at e5; cases e5; rfl
      rw [c24]
      clear Z5 M5 Z1 hrow
      generalize S.getD i .nilSlice = si at *
      generalize q.R.getD i [] = ri at *
      simp only [Cd.cells] at *
      simp only [Int.cast_ofNat_Int] at e3
      simp [S24, r0, i1, i2, e1, hc1, e2, hln, i16, e3, r2, e4, r1, e5, e6, B3.cell]
    · have : q.addAt i c = ⟨q.P, q.R.set i ((rowIn (q.R.getD i []) c).drop 1), IntKind.i64.wrap (q.lost + 1)⟩ := by unfold Q.addAt rowAdd lostOf; simp only [h16, if_true, if_false]
      rw [this]; exact Z5
  · have i16 : ¬ ((16 : Int) < ((rowIn (q.R.getD i []) c).length : Int)) := by omega
    have r1 : H2.rd p 1 1 = some [rs] := by rw [rd_of hp2 1 1 (by simp)]; rfl
    obtain ⟨a, H5, e5, e6, Z5, M5, n5, _⟩ := Z.put (H1 := H2) (lost1 := q.lost) (s' := s2) (r' := rowIn (q.R.getD i []) c) i hi (by omega) (fun b hb hbp hne => ho2 b hb (hne rfl)) hp2 (Fw.Buf.base B2 (by omega)) hs2 (by omega)
    refine ⟨H5, S.set i s2, _, ?_, ?_, M5⟩
    · have r0 := Z1.rd1
      obtain rfl : a0 = a := by rw [i1] at e5; cases e5; rfl
      rw [c24]
      clear Z5 M5 Z1 hrow
      generalize S.getD i .nilSlice = si at *
      generalize q.R.getD i [] = ri at *
      simp only [Cd.cells] at *
      simp [S24, r0, i1, i2, e1, hc1, e2, hln, i16, r1, e5, e6, B2.cell]
    · have : q.addAt i c = ⟨q.P, q.R.set i (rowIn (q.R.getD i []) c), q.lost⟩ := by unfold Q.addAt rowAdd lostOf; simp only [h16, if_true, if_false]
      rw [this]; exact Z5

theorem addAt_len (q : Q) (i : Nat) (c : Cd) : (q.addAt i c).R.length = q.R.length := by simp [Q.addAt]
theorem addUp_len (q : Q) (c : Cd) : ∀ n, (q.addUp c n).R.length = q.R.length
  | 0 => rfl
  | n + 1 => by rw [Q.addUp, addAt_len, addUp_len q c n]

/-- A card into each row. -/
theorem add1_ok (Z : QIn true p H q F ps rs S) (c : Cd) {s : AVal} {l : List Cd} {at_ : Nat} :
    ∃ H' S' F', loop (L13_1 (E tbl)) [.ptr p 0, s, .int .i64 l.length, .int .i64 at_, .int .i64 q.R.length, .int .i64 0, .agg c.cells] H = some (1, [.ptr p 0, s, .int .i64 l.length, .int .i64 at_], H') ∧ QIn true p H' (q.add1 c) F' ps rs S' ∧ Mv F F' H H' := by
  have hl := Z.leq
  have hp := Z.pl
  have key := loop_ok (f := L13_1 (E tbl)) (fun m xs G => ∃ (n : Nat) (S' : List AVal) (F' : Foot), m + n = q.R.length ∧ QIn true p G (q.addUp c n) F' ps rs S' ∧ Mv F F' H G ∧ xs = [.ptr p 0, s, .int .i64 l.length, .int .i64 at_, .int .i64 q.R.length, .int .i64 n, .agg c.cells])
    (fun r => ∃ G S' F', r = (1, [.ptr p 0, s, .int .i64 l.length, .int .i64 at_], G) ∧ QIn true p G (q.add1 c) F' ps rs S' ∧ Mv F F' H G) ?_ q.R.length _ H ⟨0, S, F, rfl, Z, Mv.refl _ _, rfl⟩
  · obtain ⟨r, e, G, S', F', rfl, a, b⟩ := key
    simp only [Int.cast_ofNat_Int] at e
    exact ⟨G, S', F', e, a, b⟩
  · rintro m xs G ⟨n, S', F', m1, Z', M', rfl⟩
    by_cases h1 : n < q.R.length
    · left
      have i1 : (n : Int) < (q.R.length : Int) := by omega
      have hS : S'.length = q.R.length := by rw [Z'.len, addUp_len]
      obtain ⟨G2, S2, F2, e2, Z2, M2⟩ := add_ok Z' n (by omega) c
      have w1 : IntKind.i64.wrap ((n : Int) + 1) = ((n + 1 : Nat) : Int) := wrap_succ _ (by omega)
      refine ⟨_, G2, ?_, m - 1, by omega, n + 1, S2, _, by omega, Z2, M'.trans M2, rfl⟩
      simp only [Cd.cells] at e2 ⊢
      simp [L13_1, i1, e2, w1]
    · right
      obtain rfl : n = q.R.length := by omega
      exact ⟨0, _, G, by simp [L13_1], G, S', F', rfl, Z', M'⟩

theorem addAll_take (q : Q) (l : List Cd) (i : Nat) (hi : i < l.length) : q.addAll (l.take (i + 1)) = (q.addAll (l.take i)).add1 l[i] := by
  unfold Q.addAll
  rw [List.take_add_one, List.getElem?_eq_getElem hi, List.foldl_append]
  rfl

/-- Cards into each row, one behind the other. -/
theorem addAll_ok (Z : QIn true p H q F ps rs S) {s : AVal} {l : List Cd} (L : SrcC s H l) (hl : l.length ≤ 1000000) (hs : ∀ b, slBlk s = some b → ¬ F b) :
    ∃ H' S' F', E tbl 13 [.ptr p 0, s] H = some (.tuple [], H') ∧ QIn true p H' (q.addAll l) F' ps rs S' ∧ Mv F F' H H' := by
  have key := loop_ok (f := L13_0 (E tbl)) (fun m xs G => ∃ (n : Nat) (S' : List AVal) (F' : Foot), m + n = l.length ∧ QIn true p G (q.addAll (l.take n)) F' ps rs S' ∧ Mv F F' H G ∧ xs = [.ptr p 0, s, .int .i64 l.length, .int .i64 n])
    (fun r => ∃ G S' F', r = (1, [], G) ∧ QIn true p G (q.addAll l) F' ps rs S' ∧ Mv F F' H G) ?_ l.length _ H ⟨0, S, F, rfl, by simpa [Q.addAll] using Z, Mv.refl _ _, rfl⟩
  · obtain ⟨r, e, G, S', F', rfl, a, b⟩ := key
    simp only [Int.cast_ofNat_Int] at e
    refine ⟨G, S', F', ?_, a, b⟩
    rw [c13]
    simp [S13, L.len, e, beq_dec]
  · rintro m xs G ⟨n, S', F', m1, Z', M', rfl⟩
    by_cases h1 : n < l.length
    · left
      have i1 : (n : Int) < (l.length : Int) := by omega
      have LG : SrcC s G l := Fw.Src.kept L M'.next fun b hb => M'.old b (L.blk b hb) (hs b hb)
      obtain ⟨a, e1, e2⟩ := LG.card n h1
      have r1 := Z'.rd1
      have hS := Z'.rows.src.len
      rw [Z'.len] at hS
      obtain ⟨G2, S2, F2, e3, Z2, M2⟩ := add1_ok Z' l[n] (s := s) (l := l) (at_ := n)
      have w1 : IntKind.i64.wrap ((n : Int) + 1) = ((n + 1 : Nat) : Int) := wrap_succ _ (by omega)
      refine ⟨_, G2, ?_, m - 1, by omega, n + 1, S2, F2, by omega, by rw [addAll_take _ _ _ h1]; exact Z2, M'.trans M2, rfl⟩
      simp only [Cd.cells] at e2 e3 ⊢
      simp [L13_0, i1, e1, e2, r1, hS, e3, w1, beq_dec]
    · right
      obtain rfl : n = l.length := by omega
      rw [List.take_length] at Z'
      exact ⟨0, _, G, by simp [L13_0], G, S', F', rfl, Z', M'⟩

def Q.len (q : Q) (k : Int) : Int := match place q.P k with | .ofNat i => (q.R.getD i []).length | _ => 0
def Q.taken (q : Q) (k : Int) : List Cd := match place q.P k with | .ofNat i => (q.R.getD i []).take 4 | _ => []
def Q.take (q : Q) (k : Int) : Q := match place q.P k with | .ofNat i => ⟨q.P, q.R.set i ((q.R.getD i []).drop 4), q.lost⟩ | _ => q

theorem lost_eq {own : Bool} (Z : QIn own p H q F ps rs S) : E tbl 16 [.ptr p 0] H = some (.int .i64 q.lost, H) := by
  have r := Z.rd2
  rw [c16]
  simp [S16, r]

theorem len_eq {own : Bool} (Z : QIn own p H q F ps rs S) (k : Int) : E tbl 17 [.ptr p 0, .int .i64 k] H = some (.int .i64 (q.len k), H) := by
  have r0 := Z.rd0
  have r1 := Z.rd1
  have hp := Z.pl
  have ix := index_eq Z.ints (by omega) k
  rw [c17]
  unfold Q.len
  rcases place_cases q.P k with ⟨i, hi, h1, _⟩ | ⟨h1, _⟩
  · have hS : i < S.length := by rw [Z.len, Z.leq]; exact hi
    obtain ⟨a, i1, i2⟩ := Z.rowAt i hS
    have hln := (Z.row i hS).src.1.len
    rw [h1] at ix ⊢
    have h0 : ¬ (i : Int) < 0 := by omega
    generalize S.getD i .nilSlice = si at *
    simp [S17, r0, ix, h0, r1, i1, i2, hln]
  · rw [h1] at ix ⊢
    simp [S17, r0, ix]


theorem take_ok (Z : QIn true p H q F ps rs S) (k : Int) :
    ∃ o H' S' F', E tbl 14 [.ptr p 0, .int .i64 k] H = some (o, H') ∧ OwnC o H' H.next (q.taken k) ∧ QIn true p H' (q.take k) F' ps rs S' ∧ Mv F F' H H' ∧ ∀ b, slBlk o = some b → ¬ F' b := by
  have r0 := Z.rd0
  have r1 := Z.rd1
  have hp := Z.pl
  have ix := index_eq Z.ints (by omega) k
  unfold Q.taken Q.take
  rcases place_cases q.P k with ⟨i, hi, h1, _⟩ | ⟨h1, _⟩
  · have hS : i < S.length := by rw [Z.len, Z.leq]; exact hi
    obtain ⟨a, i1, i2⟩ := Z.rowAt i hS
    have hrow : BufC (S.getD i .nilSlice) H 0 (q.R.getD i []) := Z.row i hS
    have hln := hrow.src.len
    have hm := Z.most i
    have hn0 : ∃ n : Nat, min ((q.R.getD i []).length : Int) 4 = (n : Int) ∧ n = min (q.R.getD i []).length 4 := by
      exact ⟨min (q.R.getD i []).length 4, by omega, rfl⟩
    obtain ⟨n, hn1, hn2⟩ := hn0
    obtain ⟨s1, p1, p2, p3⟩ := El.Buf.pre (E := cdE) hrow n (by omega)
    obtain ⟨o, H1, e1, O1, W1⟩ := cclone_eq p2.src (by rw [List.length_take]; omega)
    have hrow1 : BufC (S.getD i .nilSlice) H1 0 (q.R.getD i []) := Fw.Buf.kept hrow W1.next fun b hb => W1.old b (Z.flt b (Z.rowb i b hb).1)
    obtain ⟨s2, H2, e2, B2, b2, n2, f2⟩ := cdel_eq hrow1 n (by omega) (by omega)
    have Z1 := Z.mono W1.next fun b hb => W1.old b (Z.flt b hb)
    have r11 := Z1.rd1
    obtain ⟨a1, i3, i4⟩ := Z1.rowAt i hS
    obtain rfl : a = a1 := by rw [i1] at i3; cases i3; rfl
    have hp2 : H2.blk p = some ⟨[ps, rs, .int .i64 q.lost], true⟩ := by rw [f2 p fun e => (Z.rowb i p e).2.1 rfl]; exact Z1.blk
    have r12 : H2.rd p 1 1 = some [rs] := by rw [rd_of hp2 1 1 (by simp)]; rfl
    obtain ⟨a5, H5, e5, e6, Z5, M5, n5, _⟩ := Z1.put (H1 := H2) (lost1 := q.lost) (s' := s2) (r' := (q.R.getD i []).drop n) i hS (by omega) (fun b hb hbp hne => f2 b (hne rfl)) hp2 B2 (fun b hb => .inl (by rw [← b2]; exact hb)) (by rw [List.length_drop]; omega)
    obtain rfl : a = a5 := by rw [i1] at e5; cases e5; rfl
    have ho : ∀ b, slBlk o = some b → H.next ≤ b ∧ b < H1.next := fun b hb => O1.blk b hb
    have hno : ∀ b, slBlk o = some b → ¬ Foot.add F s2 b := fun b hb h => by
      have h3 := (ho b hb).1
      rcases h with h | h
      · have := Z.flt b h; omega
      · rw [b2] at h
        have := Z.flt b (Z.rowb i b h).1; omega
    have hdt : (q.R.getD i []).drop n = (q.R.getD i []).drop 4 := by
      rw [hn2]
      by_cases h : (q.R.getD i []).length ≤ 4
      · rw [Nat.min_eq_left h, List.drop_of_length_le (Nat.le_refl _), List.drop_of_length_le h]
      · rw [Nat.min_eq_right (by omega)]
    have htt : (q.R.getD i []).take n = (q.R.getD i []).take 4 := by
      rw [hn2]
      by_cases h : (q.R.getD i []).length ≤ 4
      · rw [Nat.min_eq_left h, List.take_of_length_le (Nat.le_refl _), List.take_of_length_le h]
      · rw [Nat.min_eq_right (by omega)]
    rw [h1] at ix ⊢
    refine ⟨o, H5, S.set i s2, _, ?_, ?_, ?_, ⟨by have := W1.next; omega, fun b hb hF => ?_, fun b h => ?_⟩, hno⟩
    · have h0 : ¬ (i : Int) < 0 := by omega
      rw [c14]
      clear Z5 M5 Z1 hrow hrow1 Z hdt htt
      generalize S.getD i .nilSlice = si at *
      generalize q.R.getD i [] = ri at *
      simp [S14, r0, ix, h0, r1, i1, i2, hln, hn1, p1, e1, r11, i4, e2, e6, checkPairs_cons, r12, B2.cell]
    · show OwnC o H5 H.next ((q.R.getD i []).take 4)
      rw [← htt]
      exact Fw.Own.kept O1 (by omega) fun b hb => by
        have h3 := ho b hb
        rw [M5.old b h3.2 fun h => hno b hb (.inl h)]
    · show QIn true p H5 ⟨q.P, q.R.set i ((q.R.getD i []).drop 4), q.lost⟩ _ ps rs _
      rw [← hdt]
      exact Z5
    · rw [M5.old b (by have := W1.next; omega) hF, W1.old b hb]
    · rcases h with h | h
      · exact .inl h
      · rw [b2] at h
        exact .inl (Z.rowb i b h).1
  · rw [h1] at ix ⊢
    refine ⟨.nilSlice, H, S, F, ?_, Fw.Own.nil _ _ _, Z, Mv.refl _ _, fun b hb => by cases hb⟩
    rw [c14]
    simp [S14, r0, ix]
end
end Go.Proofs.Ythnilenennobeaa.Code
