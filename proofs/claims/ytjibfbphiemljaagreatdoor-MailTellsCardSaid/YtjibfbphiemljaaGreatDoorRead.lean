/- YtjibfbphiemljaaGreatDoorRead -/
import Derived.Test.YtjibfbphiemljaaGreatDoorPack
set_option linter.unusedSimpArgs false
set_option linter.unusedVariables false
namespace Go.Proofs.YtjibfbphiemljaaGreatDoor.Code
open Go.Fw
def Sub (s : AVal) (h : Heap) (l : List UInt8) : Prop :=
  (s = .nilSlice ∧ l = []) ∨ ∃ b off cap ex, s = .slice b off l.length cap 1 ex ∧ l.length ≤ cap ∧ b < h.next ∧ h.rd b off l.length = some (byteCells l)
theorem Sub.src {s : AVal} {h : Heap} {l : List UInt8} (S : Sub s h l) : Go.Fw.Bs s h l := by
  rcases S with ⟨rfl, rfl⟩ | ⟨b, off, cap, ex, rfl, _, h2, h3⟩
  · exact ⟨by simp, .inl ⟨rfl, rfl⟩⟩
  · exact ⟨by simp, .inr ⟨b, off, cap, ex, rfl, h2, by simpa using h3⟩⟩
theorem fresh_sub {h0 h : Heap} {s : AVal} {l : List UInt8} (F : Fresh h0 s h l) : Sub s h l := by
  obtain ⟨⟨hl, ⟨rfl, h1⟩ | ⟨b, ex, rfl, h1, h2, h3⟩⟩, _⟩ := F
  · exact .inl ⟨rfl, List.length_eq_zero_iff.1 h1⟩
  · refine .inr ⟨b, 0, l.length, ex, rfl, Nat.le_refl _, h2, ?_⟩
    rw [rd_of h3 0 _ (by simp)]
    have : (byteCells l).take l.length = byteCells l := List.take_of_length_le (by simp)
    simp [this]
theorem Sub.mono {s : AVal} {h h' : Heap} {l : List UInt8} (S : Sub s h l) (hn : h.next ≤ h'.next) (ho : ∀ b, slBlk s = some b → h'.blk b = h.blk b) : Sub s h' l := by
  rcases S with h1 | ⟨b, off, cap, ex, rfl, h1, h2, h3⟩
  · exact .inl h1
  · refine .inr ⟨b, off, cap, ex, rfl, h1, by omega, ?_⟩
    unfold Heap.rd at h3 ⊢
    rw [ho b rfl]
    exact h3
theorem Sub.blk {s : AVal} {h : Heap} {l : List UInt8} (S : Sub s h l) : ∀ b, slBlk s = some b → b < h.next := S.src.blk
theorem Sub.cut {s : AVal} {h : Heap} {l : List UInt8} (S : Sub s h l) (n : Nat) (hn : n ≤ l.length) : ∃ s1 s2, aSliceSl 1 s none (some (.int .i64 n)) none = some s1 ∧ aSliceSl 1 s (some (.int .i64 n)) none none = some s2 ∧ Sub s1 h (l.take n) ∧ Sub s2 h (l.drop n) ∧
    (∀ b, slBlk s1 = some b → slBlk s = some b) ∧ (∀ b, slBlk s2 = some b → slBlk s = some b) := by
  rcases S with ⟨rfl, rfl⟩ | ⟨b, off, cap, ex, rfl, h1, h2, h3⟩
  · have : n = 0 := by simpa using hn
    subst this
    exact ⟨.nilSlice, .nilSlice, rfl, rfl, .inl ⟨rfl, rfl⟩, .inl ⟨rfl, rfl⟩, fun _ h => h, fun _ h => h⟩
  · obtain ⟨x, hx, hlx, hc⟩ := rd_inv h3
    have q1 : (0 : Int) ≤ (n : Int) ∧ (n : Int) ≤ (cap : Int) := by omega
    have q2 : (0 : Int) ≤ (n : Int) ∧ (n : Int) ≤ (l.length : Int) := by omega
    refine ⟨.slice b off n cap 1 ex, .slice b (off + n) (l.length - n) (cap - n) 1 ex, ?_, ?_, .inr ⟨b, off, cap, ex, by simp [Nat.min_eq_left hn], by simp; omega, h2, ?_⟩, .inr ⟨b, off + n, cap - n, ex, by simp, by simp; omega, h2, ?_⟩, fun _ h => h, fun _ h => h⟩
    · have e1 : Nat.beq 1 1 = true := rfl
      simp only [aSliceSl, e1, cond_true, aBound, Option.bind_some]
      rw [if_pos q1]
      simp
    · have e1 : Nat.beq 1 1 = true := rfl
      simp only [aSliceSl, e1, cond_true, aBound, Option.bind_some]
      rw [if_pos q2]
      simp
    · rw [rd_of hx _ _ (by simp; omega)]
      simp only [Option.some.injEq]
      have : (byteCells (l.take n)) = (byteCells l).take n := by simp [byteCells]
      rw [this, hc, List.take_take]
      simp
    · rw [rd_of hx _ _ (by simp; omega)]
      simp only [Option.some.injEq]
      have : (byteCells (l.drop n)) = (byteCells l).drop n := by simp [byteCells]
      rw [this, hc, List.drop_take, List.drop_drop, List.length_drop]
structure R (r : Nat) (h : Heap) (l : List UInt8) (bad : Bool) : Prop where
  lt : r < h.next
  at' : ∃ s, h.blk r = some ⟨[s, .bool bad], true⟩ ∧ Sub s h l ∧ slBlk s ≠ some r
def takeF (n : Nat) (l : List UInt8) (bad : Bool) : List UInt8 × List UInt8 × Bool := if bad = true ∨ l.length < n then ([], l, true) else (l.take n, l.drop n, false)
structure Took (r : Nat) (h : Heap) (s : AVal) (h' : Heap) (o : List UInt8 × List UInt8 × Bool) : Prop where
  out : Sub s h' o.1
  rd : R r h' o.2.1 o.2.2
  next : h'.next = h.next
  old : ∀ b, b ≠ r → h'.blk b = h.blk b
  held : ∀ s0 s1 b0 b1, h.blk r = some ⟨[s0, b0], true⟩ → h'.blk r = some ⟨[s1, b1], true⟩ → ∀ b, slBlk s1 = some b → slBlk s0 = some b
theorem take_eq {r : Nat} {h : Heap} {l : List UInt8} {bad : Bool} (Q : R r h l bad) (n : Nat) : ∃ s h', E tbl 91 [.ptr r 0, .int .i64 n] h = some (s, h') ∧ E tbl 93 [.ptr r 0, .int .i64 n] h = some (s, h') ∧ Took r h s h' (takeF n l bad) := by
  obtain ⟨lt, s, h1, h2, h3⟩ := Q
  have r0 : h.rd r 0 1 = some [s] := rd_of h1 0 1 (by simp)
  have r1 : h.rd r 1 1 = some [.bool bad] := rd_of h1 1 1 (by simp)
  have w0 : ∀ x, h.wr r 0 [x] = some (h.setBlk r (some ⟨[x, .bool bad], true⟩)) := fun x => wr_of h1 0 _ (by simp)
  have w1 : ∀ x, h.wr r 1 [x] = some (h.setBlk r (some ⟨[s, x], true⟩)) := fun x => wr_of h1 1 _ (by simp)
  have ln := h2.src.len
  have keep : ∀ (s' : AVal) (b' : Bool) (l' : List UInt8), Sub s' h l' → (∀ b, slBlk s' = some b → slBlk s = some b) → Sub s' (h.setBlk r (some ⟨[s, .bool b'], true⟩)) l' := fun s' b' l' S hb => S.mono (Nat.le_refl _) fun b hh => setBlk_ne _ _ fun e => h3 (by rw [← e]; exact hb b hh)
  by_cases c : bad = true ∨ l.length < n
  · refine ⟨.nilSlice, h.setBlk r (some ⟨[s, .bool true], true⟩), ?_, ?_, ?_⟩
    · rw [c91]
      cases hbad : bad with
      | true => subst hbad; simp [S91, r1, w1]
      | false =>
        have q : (l.length : Int) < (n : Int) := by
          rcases c with c | c
          · rw [hbad] at c; cases c
          · omega
        subst hbad
        simp [S91, r1, r0, ln, w1, q]
    · rw [c93]
      cases hbad : bad with
      | true => subst hbad; simp [S93, r1, w1]
      | false =>
        have q : (l.length : Int) < (n : Int) := by
          rcases c with c | c
          · rw [hbad] at c; cases c
          · omega
        subst hbad
        simp [S93, r1, r0, ln, w1, q]
    · have : takeF n l bad = ([], l, true) := by simp [takeF, c]
      rw [this]
      refine ⟨.inl ⟨rfl, rfl⟩, ⟨lt, s, setBlk_same _ _ _, keep s true l h2 fun _ h => h, h3⟩, rfl, fun b hb => setBlk_ne _ _ hb, ?_⟩
      intro s0 s1 b0 b1 e0 e1 b hb
      rw [h1] at e0
      rw [setBlk_same] at e1
      cases e0; cases e1
      exact hb
  · have cb : bad = false := by cases bad <;> simp_all
    have cn : n ≤ l.length := by
      have : ¬ l.length < n := fun h => c (.inr h)
      omega
    subst cb
    obtain ⟨s1, s2, f1, f2, S1, S2, k1, k2⟩ := h2.cut n cn
    have q : ¬ (l.length : Int) < (n : Int) := by omega
    have q' : ¬ (n : Int) > (l.length : Int) := by omega
    have ones : ∀ (s' : AVal) (l' : List UInt8), Sub s' h l' → aCells 1 s' = some [s'] := by
      intro s' l' S
      rcases S with ⟨rfl, _⟩ | ⟨b, off, cap, ex, rfl, _⟩ <;> rfl
    have keep2 : ∀ (s' : AVal) (l' : List UInt8), Sub s' h l' → (∀ b, slBlk s' = some b → slBlk s = some b) → Sub s' (h.setBlk r (some ⟨[s2, .bool false], true⟩)) l' := fun s' l' S hb => S.mono (Nat.le_refl _) fun b hh => setBlk_ne _ _ fun e => h3 (by rw [← e]; exact hb b hh)
    refine ⟨s1, h.setBlk r (some ⟨[s2, .bool false], true⟩), ?_, ?_, ?_⟩
    · rw [c91]
      simp [S91, r1, r0, ln, w0, q, f1, f2, ones s2 _ S2]
    · rw [c93]
      simp [S93, r1, r0, ln, w0, q, f1, f2, ones s2 _ S2]
    · have : takeF n l false = (l.take n, l.drop n, false) := by simp [takeF, cn]
      rw [this]
      refine ⟨keep2 s1 _ S1 k1, ⟨lt, s2, setBlk_same _ _ _, keep2 s2 _ S2 k2, fun e => h3 (k2 _ e)⟩, rfl, fun b hb => setBlk_ne _ _ hb, ?_⟩
      intro s0 s1' b0 b1 e0 e1 b hb
      rw [h1] at e0
      rw [setBlk_same] at e1
      cases e0; cases e1
      exact k2 b hb
def intV (o : List UInt8) : Int := IntKind.i64.wrap (dec o)
def byteV (o : List UInt8) : Nat := (o.headD 0).toNat
theorem foldInt (k : IntKind) (hk : k = .i64 ∨ k = .u64) {s : AVal} {h : Heap} {o : List UInt8} (S : Go.Fw.Bs s h o) (hl : o.length ≤ 1000) (L : List AVal → Heap → Option J)
    (hL : ∀ (m : Int) (i : Nat), L [.int k (k.wrap m), s, .int .i64 o.length, .int .i64 i] h = if i < o.length then some (0, [.int k (k.wrap (m * 256 + (o.getD i 0).toNat)), s, .int .i64 o.length, .int .i64 ((i + 1 : Nat) : Int)], h) else some (1, [.int k (k.wrap m)], h)) :
    loop L [.int k 0, s, .int .i64 o.length, .int .i64 0] h = some (1, [.int k (k.wrap (dec o))], h) := by
  obtain ⟨r, e, hr⟩ := loop_ok (f := L) (fun n xs h' => ∃ (i : Nat), i + n = o.length ∧ xs = [.int k (k.wrap (dec (o.take i))), s, .int .i64 o.length, .int .i64 i] ∧ h' = h) (fun r => r = (1, [.int k (k.wrap (dec o))], h)) (by
    rintro n xs h' ⟨i, hi, rfl, rfl⟩
    by_cases q : i < o.length
    · left
      refine ⟨_, _, by rw [hL, if_pos q], n - 1, by omega, i + 1, by omega, ?_, rfl⟩
      have : o.take (i + 1) = o.take i ++ [o.getD i 0] := by
        rw [List.take_add_one, List.getElem?_eq_getElem q, List.getD_eq_getElem?_getD, List.getElem?_eq_getElem q]
        rfl
      rw [this, dec_snoc]
    · right
      have : o.take i = o := List.take_of_length_le (by omega)
      exact ⟨0, _, _, by rw [hL, if_neg q], by rw [this]⟩) o.length _ h ⟨0, by omega, rfl, rfl⟩
  have w0 : k.wrap (dec (o.take 0)) = 0 := by rcases hk with rfl | rfl <;> rfl
  have : (AVal.int k 0) = .int k (k.wrap (dec (o.take 0))) := by rw [w0]
  rw [this]
  exact e.trans (by rw [hr])
theorem rdInt_eq {r : Nat} {h : Heap} {l : List UInt8} {bad : Bool} (Q : R r h l bad) : ∃ s h', E tbl 75 [.ptr r 0] h = some (.int .i64 (intV (takeF 8 l bad).1), h') ∧ E tbl 82 [.ptr r 0] h = some (.int .i64 (intV (takeF 8 l bad).1), h') ∧ Took r h s h' (takeF 8 l bad) := by
  obtain ⟨s, h', e1, e2, T⟩ := take_eq Q 8
  have hl : (takeF 8 l bad).1.length ≤ 8 := by unfold takeF; split <;> simp; omega
  refine ⟨s, h', ?_, ?_, T⟩
  · have hb := T.out.src
    generalize (takeF 8 l bad).1 = o at *
    have e3 := foldInt .i64 (.inl rfl) hb (by omega) (L75_0 (E tbl)) (by
      intro m i
      split
      · rename_i q
        have q' : (i : Int) < o.length := by omega
        obtain ⟨p, a1, a2⟩ := hb.byte i q
        have hc : (o.getD i 0).toNat < 256 := UInt8.toNat_lt _
        have w1 : IntKind.i64.wrap ((o.getD i 0).toNat : Int) = ((o.getD i 0).toNat : Int) := IntWalk.i64_in _ (by omega)
        have ob := or_byte .i64 (.inl rfl) m (o.getD i 0).toNat hc
        have sb := shl_byte .i64 (.inl rfl) (IntKind.i64.wrap m)
        generalize (o.getD i 0).toNat = x at *
        simp only [L75_0, List.getD_cons_zero, List.getD_cons_succ, bin_lss, Option.bind_some, q', decide_true, cond_bool, cond_true, a1, a2, from_one, sb, conv_int, w1, ob, bin_add, wrap_succ i (by omega)]
      · rename_i q
        have q' : ¬ (i : Int) < o.length := by omega
        simp only [L75_0, List.getD_cons_zero, List.getD_cons_succ, bin_lss, Option.bind_some, q', decide_false, cond_bool, cond_false])
    rw [c75]
    have e1' : E tbl 91 [.ptr r 0, .int .i64 8] h = some (s, h') := e1
    simp [S75, e1', hb.len, e3, intV]
  · have hb := T.out.src
    generalize (takeF 8 l bad).1 = o at *
    have e3 := foldInt .u64 (.inr rfl) hb (by omega) (L82_0 (E tbl)) (by
      intro m i
      split
      · rename_i q
        have q' : (i : Int) < o.length := by omega
        obtain ⟨p, a1, a2⟩ := hb.byte i q
        have hc : (o.getD i 0).toNat < 256 := UInt8.toNat_lt _
        have w1 : IntKind.u64.wrap ((o.getD i 0).toNat : Int) = ((o.getD i 0).toNat : Int) := by rw [IntKind.wrap_u64]; omega
        have ob := or_byte .u64 (.inr rfl) m (o.getD i 0).toNat hc
        have sb := shl_byte .u64 (.inr rfl) (IntKind.u64.wrap m)
        generalize (o.getD i 0).toNat = x at *
        simp only [L82_0, List.getD_cons_zero, List.getD_cons_succ, bin_lss, Option.bind_some, q', decide_true, cond_bool, cond_true, a1, a2, from_one, sb, conv_int, w1, ob, bin_add, wrap_succ i (by omega)]
      · rename_i q
        have q' : ¬ (i : Int) < o.length := by omega
        simp only [L82_0, List.getD_cons_zero, List.getD_cons_succ, bin_lss, Option.bind_some, q', decide_false, cond_bool, cond_false])
    have w : IntKind.i64.wrap (IntKind.u64.wrap (dec o)) = intV o := by
      unfold intV
      rw [IntKind.wrap_u64, IntKind.wrap_i64, IntKind.wrap_i64]
      omega
    rw [c82]
    have e2' : E tbl 93 [.ptr r 0, .int .i64 8] h = some (s, h') := e2
    simp [S82, e2', hb.len, e3, w]
theorem rdByte_eq {r : Nat} {h : Heap} {l : List UInt8} {bad : Bool} (Q : R r h l bad) : ∃ s h', E tbl 74 [.ptr r 0] h = some (.int .i64 (byteV (takeF 1 l bad).1), h') ∧ E tbl 81 [.ptr r 0] h = some (.int .i64 (byteV (takeF 1 l bad).1), h') ∧ Took r h s h' (takeF 1 l bad) := by
  obtain ⟨s, h', e1, e2, T⟩ := take_eq Q 1
  have e1' : E tbl 91 [.ptr r 0, .int .i64 1] h = some (s, h') := e1
  have e2' : E tbl 93 [.ptr r 0, .int .i64 1] h = some (s, h') := e2
  have hb := T.out.src
  have ln := hb.len
  refine ⟨s, h', ?_, ?_, T⟩
  · generalize (takeF 1 l bad).1 = o at *
    rw [c74]
    cases o with
    | nil =>
      have e3 : loop (L74_0 (E tbl)) [s, .int .i64 0, .int .i64 0] h' = some (1, [], h') := loop_done (i := 0) (by simp [L74_0])
      have ln' : aLen false s = some (.int .i64 0) := ln
      simp [S74, e1', ln', e3, byteV]
    | cons x o =>
      obtain ⟨p, a1, a2⟩ := hb.byte 0 (by simp)
      have w1 : IntKind.i64.wrap (x.toNat : Int) = (x.toNat : Int) := IntWalk.i64_in _ (by have := UInt8.toNat_lt x; omega)
      have q' : (0 : Int) < ((x :: o).length : Int) := by simp only [List.length_cons]; omega
      have a1' : aIaddr 1 s (.int .i64 0) = some p := a1
      have a2' : aLoad h' 1 p = some [.int .u8 (x.toNat : Int)] := a2
      generalize ((x :: o).length : Int) = n at *
      have e3 : loop (L74_0 (E tbl)) [s, .int .i64 n, .int .i64 0] h' = some (2, [.int .i64 (x.toNat : Int)], h') := loop_done (i := 1) (by simp [L74_0, q', a1', a2', w1])
      simp [S74, e1', ln, e3, byteV, beq_dec]
  · generalize (takeF 1 l bad).1 = o at *
    rw [c81]
    cases o with
    | nil =>
      have e3 : loop (L81_0 (E tbl)) [s, .int .i64 0, .int .i64 0] h' = some (1, [], h') := loop_done (i := 0) (by simp [L81_0])
      have ln' : aLen false s = some (.int .i64 0) := ln
      simp [S81, e2', ln', e3, byteV]
    | cons x o =>
      obtain ⟨p, a1, a2⟩ := hb.byte 0 (by simp)
      have w1 : IntKind.i64.wrap (x.toNat : Int) = (x.toNat : Int) := IntWalk.i64_in _ (by have := UInt8.toNat_lt x; omega)
      have q' : (0 : Int) < ((x :: o).length : Int) := by simp only [List.length_cons]; omega
      have a1' : aIaddr 1 s (.int .i64 0) = some p := a1
      have a2' : aLoad h' 1 p = some [.int .u8 (x.toNat : Int)] := a2
      generalize ((x :: o).length : Int) = n at *
      have e3 : loop (L81_0 (E tbl)) [s, .int .i64 n, .int .i64 0] h' = some (2, [.int .i64 (x.toNat : Int)], h') := loop_done (i := 1) (by simp [L81_0, q', a1', a2', w1])
      simp [S81, e2', ln, e3, byteV, beq_dec]
theorem Took.trans {r : Nat} {h h1 h2 : Heap} {s1 s2 : AVal} {o1 o2 : List UInt8 × List UInt8 × Bool} (T1 : Took r h s1 h1 o1) (T2 : Took r h1 s2 h2 o2) : Took r h s2 h2 o2 where
  out := T2.out
  rd := T2.rd
  next := T2.next.trans T1.next
  old := fun b hb => (T2.old b hb).trans (T1.old b hb)
  held := fun s0 s2' b0 b2 e0 e2 b hb => by
    obtain ⟨_, s, e1, _, _⟩ := T1.rd
    exact T1.held s0 s b0 _ e0 e1 b (T2.held s s2' _ b2 e1 e2 b hb)
def textF (l : List UInt8) (bad : Bool) : List UInt8 × List UInt8 × Bool := takeF (byteV (takeF 1 l bad).1) (takeF 1 l bad).2.1 (takeF 1 l bad).2.2
theorem rdText_eq {r : Nat} {h : Heap} {l : List UInt8} {bad : Bool} (Q : R r h l bad) : ∃ s h', E tbl 92 [.ptr r 0] h = some (.str (textF l bad).1, h') ∧ E tbl 94 [.ptr r 0] h = some (.str (textF l bad).1, h') ∧ Took r h s h' (textF l bad) := by
  obtain ⟨s1, h1, a1, a2, T1⟩ := rdByte_eq Q
  obtain ⟨s2, h2, b1, b2, T2⟩ := take_eq T1.rd (byteV (takeF 1 l bad).1)
  have t := T2.out.src.text
  refine ⟨s2, h2, ?_, ?_, T1.trans T2⟩
  · rw [c92]
    simp only [S92, a1, b1, Option.bind_some, t, ans_one]
    rfl
  · rw [c94]
    simp only [S94, a2, b2, Option.bind_some, t, ans_one]
    rfl
theorem done_eq {r : Nat} {h : Heap} {l : List UInt8} {bad : Bool} (Q : R r h l bad) : E tbl 61 [.ptr r 0] h = some (.bool (!bad && decide (l.length = 0)), h) ∧ E tbl 86 [.ptr r 0] h = some (.bool (!bad && decide (l.length = 0)), h) := by
  obtain ⟨lt, s, h1, h2, h3⟩ := Q
  have r0 : h.rd r 0 1 = some [s] := rd_of h1 0 1 (by simp)
  have r1 : h.rd r 1 1 = some [.bool bad] := rd_of h1 1 1 (by simp)
  have hq : ((l.length : Int) == 0) = decide (l.length = 0) := by
    rw [Bool.eq_iff_iff, beq_iff_eq, decide_eq_true_eq]; omega
  constructor
  · rw [c61]
    cases bad <;> simp [S61, r1, r0, h2.src.len, hq]
  · rw [c86]
    cases bad <;> simp [S86, r1, r0, h2.src.len, hq]
theorem new_eq {a : AVal} {h : Heap} {l : List UInt8} (S : Go.Fw.Bs a h l) (hb : l.length ≤ 140737488355328) : ∃ r h', E tbl 59 [a] h = some (.ptr r 0, h') ∧ R r h' l false ∧ Went h h' ∧ h.next ≤ r ∧ (∀ s b, h'.blk r = some ⟨[s, b], true⟩ → ∀ c, slBlk s = some c → h.next ≤ c ∧ c < r) := by
  obtain ⟨s, h1, e, F⟩ := clone_eq S hb
  have ones : aCells 1 s = some [s] := by
    obtain ⟨⟨hl, ⟨rfl, _⟩ | ⟨b, ex, rfl, _⟩⟩, _⟩ := F <;> rfl
  refine ⟨h1.next, h1.alloc [s, .bool false], ?_, ⟨by simp, s, alloc_same _ _, (fresh_sub F).mono (by simp) fun b hb => alloc_old _ _ (by have := (fresh_sub F).blk b hb; omega), fun hs => by have := (fresh_sub F).blk _ hs; omega⟩, F.went.trans (Went.alloc _ _), F.went.next, ?_⟩
  · have f1 : aFill [.nilSlice, .bool false] [(0, 1, s)] = some [s, .bool false] := by
      simp only [aFill, ones, Option.bind_some]
      rfl
    rw [c59]
    simp [S59, e, ones]
  · intro s' b hb c hc
    rw [alloc_same] at hb
    cases hb
    exact F.own.blk c hc
end Go.Proofs.YtjibfbphiemljaaGreatDoor.Code
