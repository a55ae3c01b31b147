/- Chapter 17: cards, rows of cards. -/
import Derived.Test.YthnilenennobeaaCode
import Derived.Test.YthnilenennobeaaFwZm
namespace Go.Proofs.Ythnilenennobeaa.Code
set_option linter.unusedSimpArgs false
set_option linter.unusedVariables false
open Go.Fw

structure Cd where
  a : List UInt8
  i : List UInt8
  s : Int
  o : Int
  l : Int
  t : Int
  k : Int
  n : Int
  g : Bool
  deriving DecidableEq

def Cd.key (c : Cd) : KeyT := (c.a, c.i)
abbrev Cd.cells (c : Cd) : List AVal := [.str c.a, .str c.i, .int .i64 c.s, .int .i64 c.o, .int .i64 c.l, .int .i64 c.t, .int .i64 c.k, .int .i64 c.n, .bool c.g]
abbrev czero : List AVal := [.str [], .str [], .int .i64 0, .int .i64 0, .int .i64 0, .int .i64 0, .int .i64 0, .int .i64 0, .bool false]
def cdE : El Cd 9 := ⟨Cd.cells, fun _ => rfl, by omega⟩
@[simp] theorem cdE_f (c : Cd) : cdE.f c = c.cells := rfl
abbrev ccells (l : List Cd) : List AVal := cdE.rws l
theorem ccells_len (l : List Cd) : (ccells l).length = l.length * 9 := cdE.rws_len l
theorem ccells_app (l m : List Cd) : ccells (l ++ m) = ccells l ++ ccells m := cdE.rws_app l m
theorem ccells_drop (l : List Cd) (i : Nat) (_ : i ≤ l.length) : (ccells l).drop (i * 9) = ccells (l.drop i) := cdE.rws_drop l i
theorem ccells_take (l : List Cd) (i : Nat) (_ : i ≤ l.length) : (ccells l).take (i * 9) = ccells (l.take i) := cdE.rws_take l i

abbrev SrcC (s : AVal) (h : Heap) (l : List Cd) : Prop := Src 9 s h l.length (ccells l)
abbrev OwnC (s : AVal) (h : Heap) (n0 : Nat) (l : List Cd) : Prop := Own 9 s h n0 l.length (ccells l)
abbrev BufC (s : AVal) (h : Heap) (n0 : Nat) (l : List Cd) : Prop := Buf 9 s h n0 l.length (ccells l)

theorem SrcC.card {s : AVal} {h : Heap} {l : List Cd} (S : SrcC s h l) (i : Nat) (hi : i < l.length) : ∃ p, aIaddr 9 s (.int .i64 i) = some p ∧ aLoad h 9 p = some l[i].cells := El.Src.el (E := cdE) S i hi
theorem OwnC.snoc {s : AVal} {h : Heap} {n0 : Nat} {l : List Cd} (O : OwnC s h n0 l) (c : Cd) (h0 : n0 ≤ h.next) (hl : l.length ≤ 100000) :
    ∃ s' h', aAppend 9 88 czero false s (.slice h.next 0 1 1 9 true) (h.alloc c.cells) = some (s', h') ∧ OwnC s' h' n0 (l ++ [c]) ∧ Kept h s h' s' := El.Own.snoc (E := cdE) O c h0 (by omega) (by omega)
theorem BufC.snoc {s : AVal} {h : Heap} {n0 : Nat} {l : List Cd} (O : BufC s h n0 l) (c : Cd) (h0 : n0 ≤ h.next) (hl : l.length ≤ 100000) :
    ∃ s' h', aAppend 9 88 czero false s (.slice h.next 0 1 1 9 true) (h.alloc c.cells) = some (s', h') ∧ BufC s' h' n0 (l ++ [c]) ∧ Kept h s h' s' := El.Buf.snoc (E := cdE) O c h0 (by omega) (by omega)

theorem within_ok : WithinOk (E tbl) 10 := by
  intro a lo hi h h0 h1 h2
  rw [c10]
  rw [show S10 = withinS from rfl, withinS_eq _ a lo hi (by omega) h1 (by omega)]
  rfl
theorem next_ok : NextOk (E tbl) 19 := by
  intro p s l h T n hn
  obtain ⟨r, h', e, x⟩ := tapeNext within_ok T n hn
  refine ⟨r, h', ?_, x⟩
  rw [c19, show S19 = tapeNextS 10 from rfl, e]
  rfl
theorem key_ok : KeyOk (E tbl) 29 := by
  intro p s l h T
  obtain ⟨a, i, h', e, x⟩ := tapeKey next_ok T
  refine ⟨a, i, h', ?_, x⟩
  rw [c29, show S29 = tapeKeyS 19 from rfl, e]
  rfl
theorem stamp_ok : StampOk (E tbl) 30 := by
  intro p s l h T
  obtain ⟨t, k, n, h', e, x⟩ := tapeStamp next_ok T
  refine ⟨t, k, n, h', ?_, x⟩
  rw [c30, show S30 = tapeStampS 19 from rfl, e]
  rfl
theorem card_ok : CardOk (E tbl) 22 := by
  intro p s l h T
  obtain ⟨a, i, st, o, le, t, k, n, g, h', e, x⟩ := tapeCard next_ok key_ok stamp_ok T
  refine ⟨a, i, st, o, le, t, k, n, g, h', ?_, x⟩
  rw [c22, show S22 = tapeCardS 29 19 30 from rfl, e]
  rfl

theorem cards_ok {p : Nat} {s : AVal} {ts : List Int} {h : Heap} (T : Fw.Tape p s ts h) (most : Nat) (hm : most ≤ 1000) :
    ∃ o l H, E tbl 11 [.ptr p 0, .int .i64 most] h = some (o, H) ∧ OwnC o H h.next l ∧ l.length ≤ most ∧ Fw.Tape p s ts H ∧ Only p h H := by
  obtain ⟨r, h1, e1, r0, r1, T1, O1, n1⟩ := next_ok T ((most : Int) + 1) (by omega)
  obtain ⟨n, rfl⟩ : ∃ n : Nat, r = (n : Int) := ⟨r.toNat, by omega⟩
  have w1 : IntKind.i64.wrap ((most : Int) + 1) = (most : Int) + 1 := IntWalk.i64_in _ (by omega)
  have key : ∃ res, loop (L11_0 (E tbl)) [.ptr p 0, .nilSlice, .int .i64 n] h1 = some res ∧ ∃ o l H, res = (1, [o], H) ∧ OwnC o H h.next l ∧ l.length ≤ most ∧ Fw.Tape p s ts H ∧ Only p h H := by
    refine loop_ok (fun m xs G => ∃ (o : AVal) (l : List Cd), m + l.length ≤ most ∧ Fw.Tape p s ts G ∧ OwnC o G h.next l ∧ Only p h G ∧ xs = [.ptr p 0, o, .int .i64 (m : Int)]) _ ?_ n _ _ ⟨.nilSlice, [], by simp; omega, T1, Own.nil _ _ _, O1, rfl⟩
    rintro m xs G ⟨o, l, hl, TG, OG, Og, rfl⟩
    by_cases h0 : 0 < m
    · left
      have i1 : (0 : Int) < (m : Int) := by omega
      obtain ⟨a, i, st, ov, le, t, k, nn, g, G1, e2, _, T2, O2⟩ := card_ok TG
      have hlt := T.lt
      have hn := Og.next
      have hn2 := O2.next
      have Oa : OwnC o G1 h.next l := OG.kept hn2 fun b hb => O2.old b (OG.blk b hb).2 (by have := (OG.blk b hb).1; omega)
      obtain ⟨o', G2, e3, O3, K⟩ := OwnC.snoc Oa ⟨a, i, st, ov, le, t, k, nn, g⟩ (by omega) (by omega)
      have hk := K.next
      have hno : ∀ b, b < h.next → slBlk o ≠ some b := fun b hb e => by have := (OG.blk b e).1; omega
      have T3 : Fw.Tape p s ts G2 := by
        have hs : ∀ b, slBlk s = some b → b < h.next := fun b hb => (T.ne b hb).1
        refine ⟨by omega, ?_, T2.ints.mono fun b hb => K.old b (T2.ne b hb).1 (hno b (hs b hb)), fun b hb => ⟨by have := (T2.ne b hb).1; omega, (T2.ne b hb).2⟩, T2.sz⟩
        obtain ⟨q, hq, hb⟩ := T2.pos
        exact ⟨q, hq, by rw [K.old p T2.lt (hno p hlt), hb]⟩
      have wm : IntKind.i64.wrap ((m : Int) - 1) = ((m - 1 : Nat) : Int) := by rw [IntWalk.i64_in _ (by omega)]; omega
      refine ⟨_, G2, ?_, m - 1, by omega, o', l ++ [⟨a, i, st, ov, le, t, k, nn, g⟩], by simp; omega, T3, O3, ⟨by omega, fun b hb hp => ?_⟩, rfl⟩
      · simp [L11_0, h0, e2, e3, wm]
      · rw [K.old b (by omega) (hno b hb), O2.old b (by omega) hp, Og.old b hb hp]
    · right
      obtain rfl : m = 0 := by omega
      exact ⟨0, _, G, by simp [L11_0], o, l, G, rfl, OG, by omega, TG, Og⟩
  obtain ⟨_, e, o, l, H, rfl, a1, a2, a3, a4⟩ := key
  refine ⟨o, l, H, ?_, a1, a2, a3, a4⟩
  rw [c11]
  simp [S11, w1, e1, e, beq_dec]

theorem cclone_eq {s : AVal} {h : Heap} {l : List Cd} (S : SrcC s h l) (hl : l.length ≤ 1000) : ∃ o h', E tbl 26 [s] h = some (o, h') ∧ OwnC o h' h.next l ∧ Went h h' := by
  obtain ⟨o, h', e, O, W⟩ := clone_of (bytes := 88) (zero := czero) S (by omega) (by omega) (by omega)
  refine ⟨o, h', ?_, O, W⟩
  have e2 : S26 (E tbl) s h = cloneS 9 88 czero s h := rfl
  rw [c26, e2, e]
  rfl

theorem cdel_eq {s : AVal} {G : Heap} {n0 : Nat} {l : List Cd} (O : BufC s G n0 l) (d : Nat) (hd : d ≤ l.length) (hl : l.length ≤ 1000) :
    ∃ s' h', E tbl 27 [s, .int .i64 0, .int .i64 d] G = some (s', h') ∧ BufC s' h' n0 (l.drop d) ∧ slBlk s' = slBlk s ∧ h'.next = G.next ∧ ∀ b, slBlk s ≠ some b → h'.blk b = G.blk b := by
  have e2 : ∀ x, S27 (E tbl) s (.int .i64 0) x G = deleteS 9 88 czero s (.int .i64 0) x G := fun _ => rfl
  by_cases h0 : d = 0
  · subst h0
    refine ⟨s, G, ?_, by simpa using O, rfl, rfl, fun _ _ => rfl⟩
    have ln := O.src.len
    have s1 : ∃ q, aSliceSl 9 s (some (.int .i64 0)) (some (.int .i64 0)) (some (.int .i64 l.length)) = some q := by
      obtain ⟨_, ⟨rfl, hl0⟩ | ⟨b, ex, k, rest, rfl, _⟩⟩ := O
      · rw [hl0]; exact ⟨_, rfl⟩
      · have h1 : (l.length : Int) ≤ ((l.length + k : Nat) : Int) := by omega
        simp only [aSliceSl, aBound, show Nat.beq 9 9 = true from rfl, cond_true]
        rw [if_pos ⟨by omega, h1⟩]
        simp
    obtain ⟨q, s1⟩ := s1
    rw [c27, e2]
    simp [deleteS, ln, s1]
  · obtain ⟨s', h', e, B, x⟩ := delete_range (bytes := 88) (zero := czero) O rfl (by omega) 0 d (by omega) (by omega) (by omega) (by omega)
    refine ⟨s', h', ?_, ?_, x⟩
    · have c1 : ((0 + d : Nat) : Int) = (d : Int) := by omega
      rw [c1] at e
      have e' : deleteS 9 88 czero s (.int .i64 0) (.int .i64 d) G = some (0, [s'], h') := e
      rw [c27, e2, e']
      rfl
    · rw [Nat.zero_mul, List.take_zero, List.nil_append, Nat.zero_add, ccells_drop _ _ hd] at B
      rw [BufC, List.length_drop]
      exact B

/-- The first place of a number in a row. -/
theorem index_loop {s : AVal} {h : Heap} {l : List Int} (S : Ints .i64 s h l) (hl : l.length ≤ 1000) (k : Int) :
    ∀ m xs H, (∃ i : Nat, H = h ∧ m + i = l.length ∧ (∀ j (hj : j < i) (hj2 : j < l.length), l[j] ≠ k) ∧ xs = [s, .int .i64 k, .int .i64 l.length, .int .i64 i]) →
      ∃ r, loop (L25_0 (E tbl)) xs H = some r ∧ ((∃ (i : Nat) (hi : i < l.length), r = (2, [.int .i64 i], h) ∧ l[i] = k ∧ ∀ j (hj : j < i), l[j] ≠ k) ∨ (r = (1, [], h) ∧ ¬ k ∈ l)) := by
  refine loop_ok _ _ ?_
  rintro m xs H ⟨i, rfl, hi, hno, rfl⟩
  by_cases h1 : i < l.length
  · have i1 : ((i : Int) < (l.length : Int)) := by omega
    obtain ⟨p, q1, q2⟩ := S.at i h1
    rw [List.getD_eq_getElem?_getD, List.getElem?_eq_getElem h1, Option.getD_some] at q2
    by_cases hk : k = l[i]
    · right
      refine ⟨1, [.int .i64 i], H, ?_, .inl ⟨i, h1, rfl, hk.symm, fun j hj => hno j hj (by omega)⟩⟩
      simp [L25_0, i1, q1, q2, hk]
    · left
      have w1 : IntKind.i64.wrap ((i : Int) + 1) = ((i + 1 : Nat) : Int) := wrap_succ _ (by omega)
      have hk' : (k == l[i]) = false := by simpa using hk
      refine ⟨_, _, ?_, m - 1, by omega, i + 1, rfl, by omega, ?_, rfl⟩
      · simp only [L25_0, List.getD_cons_succ, List.getD_cons_zero, bin_lss, Option.bind_some, i1, decide_true, cond_bool, cond_true, q1, q2, from_one, bin_eql, hk', cond_false, bin_add, w1]
      · intro j hj hj2
        by_cases hji : j = i
        · subst hji; exact fun e => hk e.symm
        · exact hno j (by omega) hj2
  · right
    have i1 : ¬ ((i : Int) < (l.length : Int)) := by omega
    refine ⟨0, [], H, by simp [L25_0, i1], .inr ⟨rfl, ?_⟩⟩
    intro hm
    obtain ⟨j, hj, e⟩ := List.getElem_of_mem hm
    exact hno j (by omega) hj e

/-- Where a number stands; -1: nowhere. -/
def place (l : List Int) (k : Int) : Int := match l.findIdx? (· == k) with | some i => i | none => -1

theorem place_some {l : List Int} {k : Int} {i : Nat} (hi : i < l.length) (h1 : l[i] = k) (h2 : ∀ j (hj : j < i), l[j] ≠ k) : place l k = i := by
  unfold place
  have : l.findIdx? (· == k) = some i := by
    rw [List.findIdx?_eq_some_iff_getElem]
    exact ⟨hi, by simpa using h1, fun j hj => by simpa using h2 j hj⟩
  rw [this]
theorem place_none {l : List Int} {k : Int} (h : ¬ k ∈ l) : place l k = -1 := by
  unfold place
  have : l.findIdx? (· == k) = none := by
    rw [List.findIdx?_eq_none_iff]
    intro x hx
    simp only [beq_eq_false_iff_ne]
    rintro rfl
    exact h hx
  rw [this]
theorem place_cases (l : List Int) (k : Int) : (∃ (i : Nat) (hi : i < l.length), place l k = i ∧ l[i] = k) ∨ (place l k = -1 ∧ ¬ k ∈ l) := by
  by_cases h : k ∈ l
  · left
    obtain ⟨i, hi⟩ : ∃ i, l.findIdx? (· == k) = some i := by
      cases e : l.findIdx? (· == k) with
      | some i => exact ⟨i, rfl⟩
      | none =>
        rw [List.findIdx?_eq_none_iff] at e
        have := e k h
        simp at this
    have h2 := List.findIdx?_eq_some_iff_getElem.1 hi
    obtain ⟨h3, h4, _⟩ := h2
    exact ⟨i, h3, by unfold place; rw [hi], by simpa using h4⟩
  · exact .inr ⟨place_none h, h⟩

theorem index_eq {s : AVal} {h : Heap} {l : List Int} (S : Ints .i64 s h l) (hl : l.length ≤ 1000) (k : Int) : E tbl 25 [s, .int .i64 k] h = some (.int .i64 (place l k), h) := by
  obtain ⟨r, e, hr⟩ := index_loop S hl k l.length _ h ⟨0, rfl, by omega, fun j hj => by omega, rfl⟩
  rw [c25]
  simp only [S25, S.len, Option.bind_some]
  simp only [Int.cast_ofNat_Int] at e
  rw [e]
  rcases hr with ⟨i, hi, rfl, h1, h2⟩ | ⟨rfl, hk⟩
  · rw [place_some hi h1 h2]
    simp [beq_dec]
  · rw [place_none hk]
    simp [beq_dec]
theorem contains_eq {s : AVal} {h : Heap} {l : List Int} (S : Ints .i64 s h l) (hl : l.length ≤ 1000) (k : Int) : E tbl 23 [s, .int .i64 k] h = some (.bool (decide (k ∈ l)), h) := by
  rw [c23]
  rcases place_cases l k with ⟨i, hi, h1, h2⟩ | ⟨h1, h2⟩
  · have : k ∈ l := h2 ▸ List.getElem_mem hi
    simp [S23, index_eq S hl, h1, this]
  · simp [S23, index_eq S hl, h1, h2]

theorem card_cmp (a b : Cd) : aBin .neq (.cells [2, 2, 1, 1, 1, 1, 1, 1, 0]) (.agg a.cells) (.agg b.cells) = some (.bool (decide (¬ a = b))) := by
  obtain ⟨a1, a2, a3, a4, a5, a6, a7, a8, a9⟩ := a
  obtain ⟨b1, b2, b3, b4, b5, b6, b7, b8, b9⟩ := b
  have h : cellsEq [2, 2, 1, 1, 1, 1, 1, 1, 0] (Cd.cells ⟨a1, a2, a3, a4, a5, a6, a7, a8, a9⟩) (Cd.cells ⟨b1, b2, b3, b4, b5, b6, b7, b8, b9⟩) = some (decide ((⟨a1, a2, a3, a4, a5, a6, a7, a8, a9⟩ : Cd) = ⟨b1, b2, b3, b4, b5, b6, b7, b8, b9⟩)) := by
    simp only [cellsEq_str, cellsEq_int, cellsEq_bool, cellsEq_nil, Option.bind_some, Option.some.injEq]
    rw [Bool.eq_iff_iff]
    simp [and_assoc]
  rw [bin_cells_ne, h]
  simp

theorem same_eq {s u : AVal} {h : Heap} {l : List Cd} (S : SrcC s h l) (U : SrcC u h l) (hl : l.length ≤ 100000) : E tbl 15 [s, u] h = some (.bool true, h) := by
  have key : ∃ h', loop (L15_0 (E tbl)) ((fun j : Nat => [s, u, .int .i64 l.length, .int .i64 j]) 0) h = some (1, [], h') ∧ h' = h := by
    refine loop_up (f := L15_0 (E tbl)) l.length (fun j : Nat => [s, u, .int .i64 l.length, .int .i64 j]) _ (fun G => G = h) ?_ ?_ h rfl
    · intro j G hj hG
      rw [hG]
      have i1 : ((j : Int) < (l.length : Int)) := by omega
      obtain ⟨p, q1, q2⟩ := SrcC.card S j hj
      obtain ⟨p', q3, q4⟩ := SrcC.card U j hj
      have w1 : IntKind.i64.wrap ((j : Int) + 1) = ((j + 1 : Nat) : Int) := wrap_succ _ (by omega)
      refine ⟨h, ?_, rfl⟩
      simp only [L15_0, List.getD_cons_succ, List.getD_cons_zero, bin_lss, Option.bind_some, i1, decide_true, cond_bool, cond_true, q1, q2, q3, q4, from_agg, card_cmp, not_true, decide_false, cond_false, bin_add, w1]
    · intro G hG
      rw [hG]
      exact ⟨h, by simp [L15_0], rfl⟩
  obtain ⟨h', e, rfl⟩ := key
  simp only [Int.cast_ofNat_Int] at e
  have l1 := S.len
  have l2 := U.len
  rw [c15]
  simp [S15, l1, l2, e, beq_dec]
end Go.Proofs.Ythnilenennobeaa.Code
