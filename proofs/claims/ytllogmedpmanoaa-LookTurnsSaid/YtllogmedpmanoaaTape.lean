/- The tape; rows of cards. -/
import Derived.Test.YtllogmedpmanoaaSort
namespace Go.Proofs.Ytllogmedpmanoaa.Code
set_option linter.unusedSimpArgs false
set_option linter.unusedVariables false
open Go.Fw

abbrev czero : List AVal := zCd
abbrev SrcC (s : AVal) (h : Heap) (l : List Cd) : Prop := cdE.Src s h l
abbrev OwnC (s : AVal) (h : Heap) (n0 : Nat) (l : List Cd) : Prop := cdE.Own s h n0 l
abbrev BufC (s : AVal) (h : Heap) (n0 : Nat) (l : List Cd) : Prop := cdE.Buf s h n0 l
theorem SrcC.card {s : AVal} {h : Heap} {l : List Cd} (S : SrcC s h l) (i : Nat) (hi : i < l.length) : ∃ p, aIaddr 9 s (.int .i64 i) = some p ∧ aLoad h 9 p = some l[i].cells := El.Src.el (E := cdE) S i hi
theorem OwnC.snoc {s : AVal} {h : Heap} {n0 : Nat} {l : List Cd} (O : OwnC s h n0 l) (c : Cd) (h0 : n0 ≤ h.next) (hl : l.length ≤ 100000) :
    ∃ s' h', aAppend 9 88 czero false s (.slice h.next 0 1 1 9 true) (h.alloc c.cells) = some (s', h') ∧ OwnC s' h' n0 (l ++ [c]) ∧ Kept h s h' s' := El.Own.snoc (E := cdE) O c h0 (by omega) (by omega)
theorem BufC.snoc {s : AVal} {h : Heap} {n0 : Nat} {l : List Cd} (O : BufC s h n0 l) (c : Cd) (h0 : n0 ≤ h.next) (hl : l.length ≤ 100000) :
    ∃ s' h', aAppend 9 88 czero false s (.slice h.next 0 1 1 9 true) (h.alloc c.cells) = some (s', h') ∧ BufC s' h' n0 (l ++ [c]) ∧ Kept h s h' s' := El.Buf.snoc (E := cdE) O c h0 (by omega) (by omega)

theorem within_ok : WithinOk (E tbl) 26 := by
  intro a lo hi h h0 h1 h2
  rw [c26]
  rw [show S26 = withinS from rfl, withinS_eq _ a lo hi (by omega) h1 (by omega)]
  rfl
theorem next_ok : NextOk (E tbl) 15 := by
  intro p s l h T n hn
  obtain ⟨r, h', e, x⟩ := tapeNext within_ok T n hn
  refine ⟨r, h', ?_, x⟩
  rw [c15, show S15 = tapeNextS 26 from rfl, e]
  rfl
theorem key_ok : KeyOk (E tbl) 27 := by
  intro p s l h T
  obtain ⟨a, i, h', e, x⟩ := tapeKey next_ok T
  refine ⟨a, i, h', ?_, x⟩
  rw [c27, show S27 = tapeKeyS 15 from rfl, e]
  rfl
theorem stamp_ok : StampOk (E tbl) 28 := by
  intro p s l h T
  obtain ⟨t, k, n, h', e, x⟩ := tapeStamp next_ok T
  refine ⟨t, k, n, h', ?_, x⟩
  rw [c28, show S28 = tapeStampS 15 from rfl, e]
  rfl
theorem card_ok : CardOk (E tbl) 16 := by
  intro p s l h T
  obtain ⟨a, i, st, o, le, t, k, n, g, h', e, x⟩ := tapeCard next_ok key_ok stamp_ok T
  refine ⟨a, i, st, o, le, t, k, n, g, h', ?_, x⟩
  rw [c16, show S16 = tapeCardS 27 15 28 from rfl, e]
  rfl

theorem cards_ok {p : Nat} {s : AVal} {ts : List Int} {h : Heap} (T : Fw.Tape p s ts h) (most : Nat) (hm : most ≤ 1000) :
    ∃ o l H, E tbl 6 [.ptr p 0, .int .i64 most] h = some (o, H) ∧ OwnC o H h.next l ∧ l.length ≤ most ∧ Fw.Tape p s ts H ∧ Only p h H := by
  obtain ⟨r, h1, e1, r0, r1, T1, O1, n1⟩ := next_ok T ((most : Int) + 1) (by omega)
  obtain ⟨n, rfl⟩ : ∃ n : Nat, r = (n : Int) := ⟨r.toNat, by omega⟩
  have w1 : IntKind.i64.wrap ((most : Int) + 1) = (most : Int) + 1 := IntWalk.i64_in _ (by omega)
  have key : ∃ res, loop (L6_0 (E tbl)) [.ptr p 0, .nilSlice, .int .i64 n] h1 = some res ∧ ∃ o l H, res = (1, [o], H) ∧ OwnC o H h.next l ∧ l.length ≤ most ∧ Fw.Tape p s ts H ∧ Only p h H := by
    refine loop_ok (fun m xs G => ∃ (o : AVal) (l : List Cd), m + l.length ≤ most ∧ Fw.Tape p s ts G ∧ OwnC o G h.next l ∧ Only p h G ∧ xs = [.ptr p 0, o, .int .i64 (m : Int)]) _ ?_ n _ _ ⟨.nilSlice, [], by simp; omega, T1, Own.nil _ _ _, O1, rfl⟩
    rintro m xs G ⟨o, l, hl, TG, OG, Og, rfl⟩
    by_cases h0 : 0 < m
    · left
      have i1 : (0 : Int) < (m : Int) := by omega
      obtain ⟨a, i, st, ov, le, t, k, nn, g, G1, e2, _, T2, O2⟩ := card_ok TG
      have hlt := T.lt
      have hn := Og.next
      have hn2 := O2.next
      have Oa : OwnC o G1 h.next l := OG.kept hn2 fun b hb => O2.old b (OG.blk b hb).2 (by have := (OG.blk b hb).1; omega)
      obtain ⟨o', G2, e3, O3, K⟩ := OwnC.snoc Oa ⟨a, i, st, ov, le, t, k, nn, g⟩ (by omega) (by omega)
      have hk := K.next
      have hno : ∀ b, b < h.next → slBlk o ≠ some b := fun b hb e => by have := (OG.blk b e).1; omega
      have T3 : Fw.Tape p s ts G2 := by
        have hs : ∀ b, slBlk s = some b → b < h.next := fun b hb => (T.ne b hb).1
        refine ⟨by omega, ?_, T2.ints.mono fun b hb => K.old b (T2.ne b hb).1 (hno b (hs b hb)), fun b hb => ⟨by have := (T2.ne b hb).1; omega, (T2.ne b hb).2⟩, T2.sz⟩
        obtain ⟨q, hq, hb⟩ := T2.pos
        exact ⟨q, hq, by rw [K.old p T2.lt (hno p hlt), hb]⟩
      have wm : IntKind.i64.wrap ((m : Int) - 1) = ((m - 1 : Nat) : Int) := by rw [IntWalk.i64_in _ (by omega)]; omega
      refine ⟨_, G2, ?_, m - 1, by omega, o', l ++ [⟨a, i, st, ov, le, t, k, nn, g⟩], by simp; omega, T3, O3, ⟨by omega, fun b hb hp => ?_⟩, rfl⟩
      · simp [L6_0, h0, e2, e3, wm]
      · rw [K.old b (by omega) (hno b hb), O2.old b (by omega) hp, Og.old b hb hp]
    · right
      obtain rfl : m = 0 := by omega
      exact ⟨0, _, G, by simp [L6_0], o, l, G, rfl, OG, by omega, TG, Og⟩
  obtain ⟨_, e, o, l, H, rfl, a1, a2, a3, a4⟩ := key
  refine ⟨o, l, H, ?_, a1, a2, a3, a4⟩
  rw [c6]
  simp [S6, w1, e1, e, beq_dec]

theorem cclone_eq {s : AVal} {h : Heap} {l : List Cd} (S : SrcC s h l) (hl : l.length ≤ 1000) : ∃ o h', E tbl 30 [s] h = some (o, h') ∧ OwnC o h' h.next l ∧ Went h h' := by
  obtain ⟨o, h', e, O, W⟩ := clone_of (bytes := 88) (zero := czero) S (by omega) (by omega) (by omega)
  refine ⟨o, h', ?_, O, W⟩
  have e2 : S30 (E tbl) s h = cloneS 9 88 czero s h := rfl
  rw [c30, e2, e]
  rfl

end Go.Proofs.Ytllogmedpmanoaa.Code
