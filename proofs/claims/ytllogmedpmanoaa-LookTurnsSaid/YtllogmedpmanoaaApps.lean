/- slices.Sort of few texts; look.Apps. -/
import Derived.Test.YtllogmedpmanoaaCompact
namespace Go.Proofs.Ytllogmedpmanoaa.Code
set_option linter.unusedSimpArgs false
set_option linter.unusedVariables false
open Go.Fw

theorem bits64 (h : Heap) (x : AVal) (n : Int) (e : (S50 (E tbl) x h).bind ansOf = some (.int .i64 n, h)) : E tbl 36 [x] h = some (.int .i64 n, h) := by
  have e' : E tbl 50 [x] h = some (.int .i64 n, h) := by rw [c50]; exact e
  rw [c36]
  simp only [S36, cond_bool, cond_false, e', Option.bind_some, ans_one]
theorem bits_ok (h : Heap) : ∀ n : Nat, n ≤ 14 → E tbl 36 [.int .u64 n] h = some (.int .i64 (if n = 0 then 0 else if n < 2 then 1 else if n < 4 then 2 else if n < 8 then 3 else 4), h)
  | 0, _ => bits64 h _ 0 (by kernel_rfl)
  | 1, _ => bits64 h _ 1 (by kernel_rfl)
  | 2, _ => bits64 h _ 2 (by kernel_rfl)
  | 3, _ => bits64 h _ 2 (by kernel_rfl)
  | 4, _ => bits64 h _ 3 (by kernel_rfl)
  | 5, _ => bits64 h _ 3 (by kernel_rfl)
  | 6, _ => bits64 h _ 3 (by kernel_rfl)
  | 7, _ => bits64 h _ 3 (by kernel_rfl)
  | 8, _ => bits64 h _ 4 (by kernel_rfl)
  | 9, _ => bits64 h _ 4 (by kernel_rfl)
  | 10, _ => bits64 h _ 4 (by kernel_rfl)
  | 11, _ => bits64 h _ 4 (by kernel_rfl)
  | 12, _ => bits64 h _ 4 (by kernel_rfl)
  | 13, _ => bits64 h _ 4 (by kernel_rfl)
  | 14, _ => bits64 h _ 4 (by kernel_rfl)
  | n + 15, h => by omega

theorem pdq_few {s : AVal} {h : Heap} {n0 : Nat} {l : List Tx} (B : BufT s h n0 l) (hn0 : n0 ≤ h.next) (hl : l.length ≤ 12) (lim : Int) :
    ∃ H, E tbl 35 [s, .int .i64 0, .int .i64 l.length, .int .i64 lim] h = some (.tuple [], H) ∧ BufT s H n0 (sortI lt [] l) ∧ OnlyS s h H := by
  obtain ⟨H, e, BH, O⟩ := tisort_ok B hn0 (by omega)
  refine ⟨H, ?_, BH, O⟩
  have w0 : IntKind.i64.wrap ((l.length : Int) - 0) = (l.length : Int) := by rw [IntWalk.i64_in _ (by omega)]; omega
  have i1 : decide ((l.length : Int) ≤ 12) = true := decide_eq_true (by omega)
  have s0 : L35_0 (E tbl) [s, .int .i64 0, .int .i64 l.length, .int .i64 lim, .bool true, .bool true] h = some (1, [], H) := by
    simp only [L35_0, List.getD_cons_zero, List.getD_cons_succ, bin_sub, w0, bin_leq, i1, Option.bind_some, cond_bool, cond_true, e]
  rw [c35]
  simp only [S35, loop_done (i := 0) s0, Option.bind_some, Nat.zero_add, nat_beq11, cond_true, ans_one]

theorem tsort_ok {s : AVal} {h : Heap} {n0 : Nat} {l : List Tx} (B : BufT s h n0 l) (hn0 : n0 ≤ h.next) (hl : l.length ≤ 12) :
    ∃ H, E tbl 23 [s] h = some (.tuple [], H) ∧ BufT s H n0 (sortI lt [] l) ∧ OnlyS s h H := by
  have e1 := bits_ok h l.length (by omega)
  obtain ⟨H, e2, BH, O⟩ := pdq_few B hn0 hl (if l.length = 0 then 0 else if l.length < 2 then 1 else if l.length < 4 then 2 else if l.length < 8 then 3 else 4)
  refine ⟨H, ?_, BH, O⟩
  have ln : aLen false s = some (.int .i64 l.length) := (Fw.Buf.src B).len
  have w : IntKind.u64.wrap (l.length : Int) = (l.length : Int) := IntWalk.u64_in _ (by omega)
  rw [c23]
  simp only [S23, ln, Option.bind_some, conv_int, w, e1, e2, ans_one]

def appsRaw (l : List Cd) : List Tx := (l.filter isHere).map Cd.a
def appsC (l : List Cd) : List Tx := dd (sortI lt [] (appsRaw l))
theorem appsLoop_ok {row : AVal} {G0 : Heap} {l : List Cd} (R : SrcC row G0 l) (hl : l.length ≤ 1000) :
    ∃ o G, loop (L14_0 (E tbl)) [.nilSlice, row, .int .i64 l.length, .int .i64 0] G0 = some (1, [o], G) ∧ OwnT o G G0.next (appsRaw l) ∧ Went G0 G := by
  have key := loop_ok (f := L14_0 (E tbl)) (fun m xs G => ∃ (n : Nat) (o : AVal), m + n = l.length ∧ OwnT o G G0.next (appsRaw (l.take n)) ∧ Went G0 G ∧ xs = [o, row, .int .i64 l.length, .int .i64 n])
    (fun r => ∃ G o, r = (1, [o], G) ∧ OwnT o G G0.next (appsRaw l) ∧ Went G0 G) ?_ l.length _ G0 ⟨0, .nilSlice, rfl, Fw.Own.nil _ _ _, Went.refl _, rfl⟩
  · obtain ⟨r, e, G, o, rfl, a, b⟩ := key
    simp only [Int.cast_ofNat_Int] at e
    exact ⟨o, G, e, a, b⟩
  · rintro m xs G ⟨n, o, m1, O, W, rfl⟩
    by_cases h1 : n < l.length
    · left
      have i1 : (n : Int) < (l.length : Int) := by omega
      obtain ⟨a, e1, e2⟩ := SrcC.card (W.src R) n h1
      have w1 : IntKind.i64.wrap ((n : Int) + 1) = ((n + 1 : Nat) : Int) := wrap_succ _ (by omega)
      have hf : appsRaw (l.take (n + 1)) = appsRaw (l.take n) ++ (if isHere l[n] then [l[n].a] else []) := by
        unfold appsRaw
        rw [filter_take l isHere n h1, List.map_append]
        split <;> rfl
      have h3 := List.length_filter_le isHere (l.take n)
      have h4 : (l.take n).length ≤ l.length := by rw [List.length_take]; omega
      have h5 : (appsRaw (l.take n)).length ≤ l.length := by unfold appsRaw; rw [List.length_map]; omega
      obtain ⟨o', G2, e3, O2, K2⟩ := El.Own.snoc (E := txE) (bytes := 16) (zero := [.str []]) O l[n].a (by have := W.next; omega) (by omega) (by omega)
      generalize hc : l[n] = c at *
      have hu : isHere c = !c.g := rfl
      cases hq : c.g with
      | true =>
        rw [hq] at hu
        refine ⟨_, G, ?_, m - 1, by omega, n + 1, o, by omega, ?_, W, rfl⟩
        · simp only [Cd.cells, hq] at e2
          simp only [L14_0, List.getD_cons_zero, List.getD_cons_succ, bin_lss, i1, decide_true, Option.bind_some, cond_bool, cond_true, e1, e2, from_agg, aCells_agg, List.length_cons, List.length_nil, Nat.zero_add, Nat.reduceAdd, if_true, spl_s, spl_z, spl_c, ble_dec, Nat.le_refl, rdL_t, rdL_z, rdL_s, Option.map_some, from_one, un_not, Bool.not_true, cond_false, beq_dec, bin_add, w1]
        · rw [hf, hu]; simpa using O
      | false =>
        rw [hq] at hu
        refine ⟨_, G2, ?_, m - 1, by omega, n + 1, o', by omega, ?_, K2.went W fun b hb => (Fw.Own.blk O b hb).1, rfl⟩
        · simp only [Cd.cells, hq, txE_f] at e2 e3
          have cs1 : aCells 1 (.str c.a) = some [.str c.a] := rfl
          simp only [L14_0, cs1, List.getD_cons_zero, List.getD_cons_succ, bin_lss, i1, decide_true, Option.bind_some, cond_bool, cond_true, e1, e2, from_agg, aCells_agg, List.length_cons, List.length_nil, Nat.zero_add, Nat.reduceAdd, if_true, spl_s, spl_z, spl_c, ble_dec, Nat.le_refl, rdL_t, rdL_z, rdL_s, Option.map_some, from_one, un_not, Bool.not_false, cond_false, beq_dec, bin_add, w1, reps_one, fill_cons, fill_nil, cell_str, e3]
        · rw [hf, hu]; simpa using O2
    · right
      obtain rfl : n = l.length := by omega
      rw [List.take_length] at O
      exact ⟨0, _, G, by simp [L14_0], G, o, rfl, O, W⟩
theorem appsRaw_len (l : List Cd) : (appsRaw l).length ≤ l.length := by
  unfold appsRaw
  rw [List.length_map]
  exact List.length_filter_le _ _
theorem apps_ok {s : AVal} {h : Heap} {l : List Cd} (S : SrcC s h l) (hl : l.length ≤ 12) :
    ∃ o H, E tbl 14 [s] h = some (o, H) ∧ SrcT o H (appsC l) ∧ Went h H := by
  obtain ⟨o1, h1, e1, O1, W1⟩ := appsLoop_ok S (by omega)
  have ln : aLen false s = some (.int .i64 l.length) := S.len
  have hr := appsRaw_len l
  have B1 : BufT o1 h1 h.next (appsRaw l) := Own.buf O1
  obtain ⟨h2, e2, B2, OS2⟩ := tsort_ok B1 W1.next (by omega)
  obtain ⟨o3, h3, e3, B3, sb, OS3⟩ := compact_ok B2 (by rw [sortI_len]; omega)
  have ln3 : aLen false o3 = some (.int .i64 (appsC l).length) := (Fw.Buf.src B3).len
  obtain ⟨o4, e4, S4, _, _⟩ := clip_of (Fw.Buf.src B3) (Fw.Buf.room B3)
  have e4' : E tbl 24 [o3] h3 = some (o4, h3) := by
    rw [c24]
    simp only [S24, ln3, Option.bind_some]
    erw [e4]
    rfl
  refine ⟨o4, h3, ?_, S4, ?_⟩
  · rw [c14]
    simp only [S14, ln, Option.bind_some, e1, nat_beq11, cond_true, List.getD_cons_zero, e2, e3, e4', ans_one]
  · have OS : OnlyS o1 h1 h3 := OS2.trans OS3
    refine ⟨Nat.le_trans W1.next OS.next, fun b hb => ?_⟩
    rw [OS.old b (Nat.lt_of_lt_of_le hb W1.next) (fun e => by have := (Fw.Buf.blk B1 b e).1; omega), W1.old b hb]
end Go.Proofs.Ytllogmedpmanoaa.Code
