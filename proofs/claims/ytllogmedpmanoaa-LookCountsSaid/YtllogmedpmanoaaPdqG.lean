/- pdqsort of at most fourteen texts. -/
import Derived.Test.YtllogmedpmanoaaPdqF
namespace Go.Proofs.Ytllogmedpmanoaa.Code
set_option linter.unusedSimpArgs false
set_option linter.unusedVariables false
open Go.Fw

section
variable {s : AVal} {n0 : Nat} {l M : List Tx} {a b : Nat}
theorem sorted_of_next (h : ∀ k, a < k → k < b → lt (tat M k) (tat M (k - 1)) = false) : SortedP M a b := by
  have key : ∀ d i, a ≤ i → i + d < b → leT (tat M i) (tat M (i + d)) := by
    intro d
    induction d with
    | zero => intro i _ _; exact leT_refl _
    | succ d ih =>
      intro i h1 h2
      exact lt_le_trans (ih i h1 (by omega)) (by have := h (i + (d + 1)) (by omega) h2; rwa [show i + (d + 1) - 1 = i + d by omega] at this)
  intro i j h1 h2 h3
  have := key (j - i) i h1 (by omega)
  rwa [show i + (j - i) = j by omega] at this

theorem t18_ok {h : Heap} (B : BufT s h n0 M) (hl : M.length ≤ 1000) (hab : a < b) (hb : b ≤ M.length) (h14 : b ≤ a + 14) (lim : AVal) (wb wp : Bool) (n pv : AVal) (hint : Int) :
    (T18 (E tbl) (0, [s, .int .i64 a, .int .i64 b, lim, .bool wb, .bool wp, n, pv, .int .i64 hint], h) = some (1, [], h) ∧ SortedP M a b) ∨
    T18 (E tbl) (0, [s, .int .i64 a, .int .i64 b, lim, .bool wb, .bool wp, n, pv, .int .i64 hint], h) = T25 (E tbl) (1, [s, .int .i64 a, .int .i64 b, lim, .bool wb, .bool wp, n, pv], h) := by
  have t1 : T25 (E tbl) (0, [], h) = some (1, [], h) := rfl
  by_cases hc : (wb && wp && (hint == 1)) = true
  · rw [Bool.and_eq_true, Bool.and_eq_true] at hc
    obtain ⟨⟨rfl, rfl⟩, hh⟩ := hc
    obtain ⟨c, e, hs⟩ := partial_ok B hl hab hb (by omega)
    cases c with
    | true =>
      left
      refine ⟨?_, sorted_of_next (hs rfl)⟩
      simp only [T18, List.getD_cons_zero, List.getD_cons_succ, nat_beq0, cond_true, guard_bool, BEq.rfl, Option.bind_some, pick_bool, bin_eql, hh, cond_bool, e, t1]
    | false =>
      right
      simp only [T18, List.getD_cons_zero, List.getD_cons_succ, nat_beq0, cond_true, cond_false, guard_bool, BEq.rfl, Option.bind_some, pick_bool, bin_eql, hh, cond_bool, e]
  · right
    have ff : (false == true) = false := rfl
    cases wb with
    | false => simp only [T18, List.getD_cons_zero, List.getD_cons_succ, nat_beq0, cond_true, cond_false, guard_bool, ff, Option.bind_some, pick_bool, cond_bool]
    | true =>
      cases wp with
      | false => simp only [T18, List.getD_cons_zero, List.getD_cons_succ, nat_beq0, cond_true, cond_false, guard_bool, ff, BEq.rfl, Option.bind_some, pick_bool, cond_bool]
      | true =>
        have hh : (hint == 1) = false := by simpa using hc
        simp only [T18, List.getD_cons_zero, List.getD_cons_succ, nat_beq0, cond_true, cond_false, guard_bool, BEq.rfl, Option.bind_some, pick_bool, bin_eql, hh, cond_bool]

theorem t9_ok {h : Heap} (B : BufT s h n0 M) (P : InP l M a b) (hl : l.length ≤ 1000) (h13 : a + 8 ≤ b) (h14 : b ≤ a + 14) (lim : AVal) (wb wp : Bool) (n : Nat) (hn : n ≤ 1000) :
    (∃ H, T9 (E tbl) (0, [s, .int .i64 a, .int .i64 b, lim, .bool wb, .bool wp, .int .i64 n], h) = some (1, [], H) ∧ BufT s H n0 (sortI lt [] l) ∧ OnlyS s h H) ∨
    ∃ (a' b' : Nat) (wb' wp' : Bool) (R : List Tx) (H : Heap), T9 (E tbl) (0, [s, .int .i64 a, .int .i64 b, lim, .bool wb, .bool wp, .int .i64 n], h) = some (0, [s, .int .i64 a', .int .i64 b', lim, .bool wb', .bool wp'], H) ∧ BufT s H n0 R ∧ InP l R a' b' ∧ b' - a' < b - a ∧ OnlyS s h H := by
  have hM := P.perm.length_eq
  have hbl := P.bl
  obtain ⟨m, hint, h1, e1, hm, W1⟩ := pivot_ok B (by omega) (by omega) h13 (by omega)
  have B1 : BufT s h1 n0 M := Fw.Buf.kept B W1.next fun c hc => W1.old c (Fw.Buf.blk B c hc).2
  have O1 : OnlyS s h h1 := OnlyS.of_went W1
  have fin : ∀ (N : List Tx) (h2 : Heap) (pv : Nat) (hint : Int), BufT s h2 n0 N → InP l N a b → a ≤ pv → pv < b → OnlyS s h h2 →
      (∃ H, T18 (E tbl) (0, [s, .int .i64 a, .int .i64 b, lim, .bool wb, .bool wp, .int .i64 n, .int .i64 pv, .int .i64 hint], h2) = some (1, [], H) ∧ BufT s H n0 (sortI lt [] l) ∧ OnlyS s h H) ∨
      ∃ (a' b' : Nat) (wb' wp' : Bool) (R : List Tx) (H : Heap), T18 (E tbl) (0, [s, .int .i64 a, .int .i64 b, lim, .bool wb, .bool wp, .int .i64 n, .int .i64 pv, .int .i64 hint], h2) = some (0, [s, .int .i64 a', .int .i64 b', lim, .bool wb', .bool wp'], H) ∧ BufT s H n0 R ∧ InP l R a' b' ∧ b' - a' < b - a ∧ OnlyS s h H := by
    intro N h2 pv hint BN PN p1 p2 ON
    have hN := PN.perm.length_eq
    rcases t18_ok BN (by omega) (by omega) (by omega) h14 lim wb wp (.int .i64 n) (.int .i64 pv) hint with ⟨e, S⟩ | e
    · left
      have := PN.done S
      exact ⟨h2, e, this ▸ BN, ON⟩
    · right
      obtain ⟨a', b', wb', wp', R, H, f1, f2, f3, f4, f5⟩ := t25_ok BN PN hl (by omega) h14 pv p1 p2 lim wb wp n hn
      exact ⟨a', b', wb', wp', R, H, e.trans f1, f2, f3, f4, ON.trans f5⟩
  by_cases h2 : hint = 2
  · subst h2
    obtain ⟨R, h3, e3, B3, R3, O3⟩ := reverse_ok (a := a) (b := b) B1 (by omega) (by omega) (by omega)
    have w15 : IntKind.i64.wrap ((b : Int) - 1) = ((b - 1 : Nat) : Int) := by rw [IntWalk.i64_in _ (by omega)]; omega
    have w16 : IntKind.i64.wrap ((m : Int) - (a : Int)) = ((m - a : Nat) : Int) := by rw [IntWalk.i64_in _ (by omega)]; omega
    have w17 : IntKind.i64.wrap (((b - 1 : Nat) : Int) - ((m - a : Nat) : Int)) = ((b - 1 - (m - a) : Nat) : Int) := by rw [IntWalk.i64_in _ (by omega)]; omega
    have q2 : ((2 : Int) == 2) = true := rfl
    have eq : T9 (E tbl) (0, [s, .int .i64 a, .int .i64 b, lim, .bool wb, .bool wp, .int .i64 n], h) = T18 (E tbl) (0, [s, .int .i64 a, .int .i64 b, lim, .bool wb, .bool wp, .int .i64 n, .int .i64 ((b - 1 - (m - a) : Nat) : Int), .int .i64 1], h3) := by
      simp only [T9, List.getD_cons_zero, List.getD_cons_succ, nat_beq0, cond_true, e1, Option.bind_some, ext_0, ext_1, bin_eql, q2, cond_bool, e3, bin_sub, w15, w16, w17]
    rw [eq]
    exact fin R h3 _ 1 B3 (P.reg R3) (by omega) (by omega) (O1.trans O3)
  · have q2 : (hint == 2) = false := beq_eq_false_iff_ne.2 h2
    have eq : T9 (E tbl) (0, [s, .int .i64 a, .int .i64 b, lim, .bool wb, .bool wp, .int .i64 n], h) = T18 (E tbl) (0, [s, .int .i64 a, .int .i64 b, lim, .bool wb, .bool wp, .int .i64 n, .int .i64 m, .int .i64 hint], h1) := by
      simp only [T9, List.getD_cons_zero, List.getD_cons_succ, nat_beq0, cond_true, e1, Option.bind_some, ext_0, ext_1, bin_eql, q2, cond_bool, cond_false]
    rw [eq]
    exact fin M h1 m hint B1 P hm.1 hm.2 O1

theorem loop35 (hl : l.length ≤ 1000) : ∀ (N : Nat) (h : Heap) (M : List Tx) (a b lim : Nat) (wb wp : Bool), b - a ≤ N → BufT s h n0 M → InP l M a b → b - a ≤ lim + 10 → lim ≤ 1000 → b ≤ a + 14 →
    ∃ H, loop (L35_0 (E tbl)) [s, .int .i64 a, .int .i64 b, .int .i64 lim, .bool wb, .bool wp] h = some (1, [], H) ∧ BufT s H n0 (sortI lt [] l) ∧ OnlyS s h H := by
  intro N
  induction N with
  | zero =>
    intro h M a b lim wb wp hN B P _ _ _
    have hM := P.perm.length_eq
    have := P.bl
    obtain ⟨R, H, e, BR, RR, S, O⟩ := few35 B (by omega) P.ab (by omega) (by omega) (.int .i64 lim) (.bool wb) (.bool wp)
    exact ⟨H, loop_done (i := 0) e, (P.reg RR).done S ▸ BR, O⟩
  | succ N ih =>
    intro h M a b lim wb wp hN B P hlim hlim2 h14
    have hM := P.perm.length_eq
    have hbl := P.bl
    by_cases h12 : b ≤ a + 12
    · obtain ⟨R, H, e, BR, RR, S, O⟩ := few35 B (by omega) P.ab (by omega) h12 (.int .i64 lim) (.bool wb) (.bool wp)
      exact ⟨H, loop_done (i := 0) e, (P.reg RR).done S ▸ BR, O⟩
    · have w0 : IntKind.i64.wrap ((b : Int) - (a : Int)) = ((b - a : Nat) : Int) := by rw [IntWalk.i64_in _ (by omega)]; omega
      have i1 : decide (((b - a : Nat) : Int) ≤ 12) = false := decide_eq_false (by omega)
      have i0 : ((lim : Int) == 0) = false := beq_eq_false_iff_ne.2 (by omega)
      have wl : IntKind.i64.wrap ((lim : Int) - 1) = ((lim - 1 : Nat) : Int) := by rw [IntWalk.i64_in _ (by omega)]; omega
      have go : ∀ (h1 : Heap) (M1 : List Tx) (lim1 : Nat), BufT s h1 n0 M1 → InP l M1 a b → OnlyS s h h1 → lim ≤ lim1 + 1 → lim1 ≤ lim →
          L35_0 (E tbl) [s, .int .i64 a, .int .i64 b, .int .i64 lim, .bool wb, .bool wp] h = T9 (E tbl) (0, [s, .int .i64 a, .int .i64 b, .int .i64 lim1, .bool wb, .bool wp, .int .i64 (b - a : Nat)], h1) →
          ∃ H, loop (L35_0 (E tbl)) [s, .int .i64 a, .int .i64 b, .int .i64 lim, .bool wb, .bool wp] h = some (1, [], H) ∧ BufT s H n0 (sortI lt [] l) ∧ OnlyS s h H := by
        intro h1 M1 lim1 B1 P1 O1 hl1 hl2 e
        rcases t9_ok B1 P1 hl (by omega) h14 (.int .i64 lim1) wb wp (b - a) (by omega) with ⟨H, f, BH, OH⟩ | ⟨a', b', wb', wp', R, H, f1, f2, f3, f4, f5⟩
        · exact ⟨H, loop_done (i := 0) (e.trans f), BH, O1.trans OH⟩
        · obtain ⟨H2, g1, g2, g3⟩ := ih H R a' b' lim1 wb' wp' (by omega) f2 f3 (by omega) (by omega) (by omega)
          exact ⟨H2, (loop_more (e.trans f1)).trans g1, g2, (O1.trans f5).trans g3⟩
      cases wb with
      | true =>
        refine go h M lim B P (OnlyS.refl _ _) (by omega) (Nat.le_refl _) ?_
        rw [L35_cut]
        simp only [List.getD_cons_zero, List.getD_cons_succ, bin_sub, w0, bin_leq, i1, Option.bind_some, cond_bool, cond_false, bin_eql, i0, un_not, Bool.not_true]
      | false =>
        obtain ⟨R, h1, e1, B1, R1, O1⟩ := break_ok B (by omega) (by omega) (by omega) h14
        refine go h1 R (lim - 1) B1 (P.reg R1) O1 (by omega) (by omega) ?_
        rw [L35_cut]
        simp only [List.getD_cons_zero, List.getD_cons_succ, bin_sub, w0, bin_leq, i1, Option.bind_some, cond_bool, cond_false, cond_true, bin_eql, i0, un_not, Bool.not_false, e1, wl]

theorem tsort14 {h : Heap} (B : BufT s h n0 l) (hl : l.length ≤ 14) :
    ∃ H, E tbl 23 [s] h = some (.tuple [], H) ∧ BufT s H n0 (sortI lt [] l) ∧ OnlyS s h H := by
  have e1 := bits_ok h l.length (by omega)
  obtain ⟨lm, hlm⟩ : ∃ lm : Nat, lm = if l.length = 0 then 0 else if l.length < 2 then 1 else if l.length < 4 then 2 else if l.length < 8 then 3 else 4 := ⟨_, rfl⟩
  have hi : (if l.length = 0 then (0 : Int) else if l.length < 2 then 1 else if l.length < 4 then 2 else if l.length < 8 then 3 else 4) = (lm : Int) := by
    rw [hlm]
    repeat' split
    all_goals rfl
  have hll : l.length ≤ lm + 10 ∧ lm ≤ 4 := by rw [hlm]; repeat' split
                                               all_goals omega
  rw [hi] at e1
  have P : InP l l 0 l.length := ⟨List.Perm.refl _, Nat.zero_le _, Nat.le_refl _, fun i j _ _ h => absurd ⟨Nat.zero_le _, by omega⟩ h⟩
  obtain ⟨H, e2, BH, O⟩ := loop35 (s := s) (n0 := n0) (l := l) (by omega) l.length h l 0 l.length lm true true (by omega) B P (by omega) (by omega) (by omega)
  refine ⟨H, ?_, BH, O⟩
  have ln : aLen false s = some (.int .i64 l.length) := (Fw.Buf.src B).len
  have w : IntKind.u64.wrap (l.length : Int) = (l.length : Int) := IntWalk.u64_in _ (by omega)
  have e3 : E tbl 35 [s, .int .i64 0, .int .i64 l.length, .int .i64 lm] h = some (.tuple [], H) := by
    simp only [Int.cast_ofNat_Int] at e2
    rw [c35]
    simp only [S35, e2, Option.bind_some, nat_beq11, cond_true, ans_one]
  rw [c23]
  simp only [S23, ln, Option.bind_some, conv_int, w, e1, e3, ans_one]
end

theorem apps14 {s : AVal} {h : Heap} {l : List Cd} (S : SrcC s h l) (hl : l.length ≤ 14) :
    ∃ o H, E tbl 14 [s] h = some (o, H) ∧ SrcT o H (appsC l) ∧ Went h H := by
  obtain ⟨o1, h1, e1, O1, W1⟩ := appsLoop_ok S (by omega)
  have ln : aLen false s = some (.int .i64 l.length) := S.len
  have hr := appsRaw_len l
  have B1 : BufT o1 h1 h.next (appsRaw l) := Own.buf O1
  obtain ⟨h2, e2, B2, OS2⟩ := tsort14 B1 (by omega)
  obtain ⟨o3, h3, e3, B3, sb, OS3⟩ := compact_ok B2 (by rw [sortI_len]; omega)
  have ln3 : aLen false o3 = some (.int .i64 (appsC l).length) := (Fw.Buf.src B3).len
  obtain ⟨o4, e4, S4, _, _⟩ := clip_of (Fw.Buf.src B3) (Fw.Buf.room B3)
  have e4' : E tbl 24 [o3] h3 = some (o4, h3) := by
    rw [c24]
    simp only [S24, ln3, Option.bind_some]
    erw [e4]
    rfl
  refine ⟨o4, h3, ?_, S4, ?_⟩
  · rw [c14]
    simp only [S14, ln, Option.bind_some, e1, nat_beq11, cond_true, List.getD_cons_zero, e2, e3, e4', ans_one]
  · have OS : OnlyS o1 h1 h3 := OS2.trans OS3
    refine ⟨Nat.le_trans W1.next OS.next, fun b hb => ?_⟩
    rw [OS.old b (Nat.lt_of_lt_of_le hb W1.next) (fun e => by have := (Fw.Buf.blk B1 b e).1; omega), W1.old b hb]
end Go.Proofs.Ytllogmedpmanoaa.Code
