/- Chapter 17: QueueLosts. -/
import Derived.Test.YthnilenennobeaaLaws
namespace Go.Proofs.Ythnilenennobeaa.Code
set_option linter.unusedSimpArgs false
set_option linter.unusedVariables false
open Go.Fw

theorem loop7 {p : Nat} {H : Heap} {q : Q} {F : Foot} {ps rs : AVal} {S : List AVal} (Z : QIn true p H q F ps rs S) (k : Nat) (hk : k ≤ 60) (x0 : AVal) :
    ∃ H' S' F', loop (L7_0 (E tbl)) [x0, .ptr p 0, .int .i64 k, .int .i64 0] H = some (1, [x0, .ptr p 0, .int .i64 k], H') ∧ QIn true p H' (q.addAll (cds 65 k)) F' ps rs S' ∧ Mv F F' H H' := by
  have key := loop_ok (f := L7_0 (E tbl)) (fun m xs G => ∃ (n : Nat) (S' : List AVal) (F' : Foot), m + n = k ∧ QIn true p G (q.addAll (cds 65 n)) F' ps rs S' ∧ Mv F F' H G ∧ xs = [x0, .ptr p 0, .int .i64 k, .int .i64 n])
    (fun r => ∃ G S' F', r = (1, [x0, .ptr p 0, .int .i64 k], G) ∧ QIn true p G (q.addAll (cds 65 k)) F' ps rs S' ∧ Mv F F' H G) ?_ k _ H ⟨0, S, F, rfl, by simpa [Q.addAll, cds] using Z, Mv.refl _ _, rfl⟩
  · obtain ⟨r, e, G, S', F', rfl, a, b⟩ := key
    simp only [Int.cast_ofNat_Int] at e
    exact ⟨G, S', F', e, a, b⟩
  · rintro m xs G ⟨n, S', F', m1, Z', M', rfl⟩
    by_cases h1 : n < k
    · left
      have i1 : (n : Int) < (k : Int) := by omega
      have w1 : IntKind.i64.wrap ((n : Int) + 1) = ((n + 1 : Nat) : Int) := wrap_succ _ (by omega)
      have w2 : IntKind.i64.wrap (65 + (n : Int)) = ((65 + n : Nat) : Int) := by rw [IntWalk.i64_in _ (by omega)]; omega
      have w3 := wrap32 (65 + n) (by omega)
      have w4 := enc1 (65 + n) (by omega)
      obtain ⟨G2, S2, F2, e2, Z2, M2⟩ := addOne_ok Z' (cardK 65 n)
      refine ⟨_, G2, ?_, m - 1, by omega, n + 1, S2, F2, by omega, by rw [cds_succ, addAll_snoc]; exact Z2, M'.trans M2, rfl⟩
      have c1 : aConv (.toInt .i32) (.int .i64 ((65 + n : Nat) : Int)) G = some (.int .i32 ((65 + n : Nat) : Int), G) := by simp only [aConv, w3]
      have c2 : aConv .intStr (.int .i32 ((65 + n : Nat) : Int)) G = some (.str [UInt8.ofNat (65 + n)], G) := by simp only [aConv, w4]
      simp only [Cd.cells, cardK] at e2
      simp only [L7_0, List.getD_cons_zero, List.getD_cons_succ, bin_lss, i1, decide_true, Option.bind_some, cond_bool, cond_true, bin_add, w2, c1, c2]
      generalize UInt8.ofNat (65 + n) = u at e2 ⊢
      simp [e2, w1]
    · right
      obtain rfl : n = k := by omega
      exact ⟨0, _, G, by simp [L7_0], G, S', F', rfl, Z', M'⟩

/-- Cards of unlike keys in one row: the last sixteen wait, the others are lost. -/
theorem unlike_row (k : Nat) (hk : k ≤ 60) : (Q.new [5]).addAll (cds 65 k) = ⟨[5], [(cds 65 k).drop (k - 16)], ((k - 16 : Nat) : Int)⟩ := by
  induction k with
  | zero => rfl
  | succ n ih =>
    have hkey : ∀ i, i < n → (cardK 65 i).key ≠ (cardK 65 n).key := by
      intro i hi e
      have e2 : [UInt8.ofNat (65 + i)] = [UInt8.ofNat (65 + n)] := congrArg Prod.snd e
      have e3 := congrArg UInt8.toNat (List.cons.inj e2).1
      rw [UInt8.toNat_ofNat', UInt8.toNat_ofNat'] at e3
      omega
    rw [cds_succ, addAll_snoc, ih (by omega)]
    have hfil : ((cds 65 n).drop (n - 16)).filter (fun x => !decide (x.key = (cardK 65 n).key)) = (cds 65 n).drop (n - 16) := by
      rw [List.filter_eq_self]
      intro x hx
      have hx' := List.mem_of_mem_drop hx
      unfold cds at hx'
      obtain ⟨i, hi, rfl⟩ := List.mem_map.1 hx'
      have := hkey i (by simpa using hi)
      simpa using this
    have hin : rowIn ((cds 65 n).drop (n - 16)) (cardK 65 n) = (cds 65 n).drop (n - 16) ++ [cardK 65 n] := by unfold rowIn; rw [hfil]
    have hl : ((cds 65 n).drop (n - 16) ++ [cardK 65 n]).length = n - (n - 16) + 1 := by rw [List.length_append, List.length_drop, cds_len]; rfl
    show Q.mk _ _ _ = _
    simp only [List.length_singleton, Q.addUp, Q.addAt, List.getD_cons_zero, List.set_cons_zero, rowAdd, lostOf, hin, hl]
    by_cases h16 : n < 16
    · have e1 : n - 16 = 0 := by omega
      have e2 : n + 1 - 16 = 0 := by omega
      rw [e1, e2, if_neg (by omega), if_neg (by omega), List.drop_zero, List.drop_zero]
    · have e1 : n + 1 - 16 = (n - 16) + 1 := by omega
      rw [e1, if_pos (by omega), if_pos (by omega), wrap_succ _ (by omega)]
      have e3 : ((cds 65 n).drop (n - 16) ++ [cardK 65 n]).drop 1 = (cds 65 n ++ [cardK 65 n]).drop (n - 16 + 1) := by
        rw [← List.drop_append_of_le_length (by rw [cds_len]; omega), List.drop_drop]
      rw [e3]

/-- Takes, one behind the other. -/
def Q.takes (q : Q) (k : Int) : Nat → Q
  | 0 => q
  | n + 1 => (q.takes k n).take k
theorem takes_row (P : List Int) (r : List Cd) (lost : Int) (hP : place P 5 = 0) : ∀ n, (Q.mk P [r] lost).takes 5 n = ⟨P, [r.drop (4 * n)], lost⟩
  | 0 => by simp [Q.takes]
  | n + 1 => by
    rw [Q.takes, takes_row P r lost hP n]
    unfold Q.take
    show (match place P 5 with | .ofNat i => _ | _ => _) = _
    rw [hP]
    show Q.mk P [(r.drop (4 * n)).drop 4] lost = _
    rw [List.drop_drop]
    rfl

theorem loop7b {p : Nat} {H : Heap} {P : List Int} {r : List Cd} {lost : Int} {F : Foot} {ps rs : AVal} {S : List AVal} (Z : QIn true p H ⟨P, [r], lost⟩ F ps rs S) (hP : place P 5 = 0) (a : Int) (y : AVal) :
    ∃ H' S' F' n, n ≤ 6 ∧ loop (L7_1 (E tbl)) [.int .i64 a, .ptr p 0, y, .int .i64 0, .int .i64 0] H = some (1, [.ptr p 0, y, .int .i64 (min r.length (4 * n) : Nat)], H') ∧ QIn true p H' ⟨P, [r.drop (4 * n)], lost⟩ F' ps rs S' ∧ Mv F F' H H' := by
  have hr : r.length ≤ 16 := Z.most 0
  have wi := within_in a 0 6 (by omega)
  obtain ⟨t, ht⟩ : ∃ t : Nat, within a 0 6 = (t : Int) := ⟨(within a 0 6).toNat, by omega⟩
  have key := loop_ok (f := L7_1 (E tbl)) (fun m xs G => ∃ (n : Nat) (S' : List AVal) (F' : Foot), m + n = t ∧ QIn true p G ⟨P, [r.drop (4 * n)], lost⟩ F' ps rs S' ∧ Mv F F' H G ∧ xs = [.int .i64 a, .ptr p 0, y, .int .i64 (min r.length (4 * n) : Nat), .int .i64 n])
    (fun x => ∃ G S' F', x = (1, [.ptr p 0, y, .int .i64 (min r.length (4 * t) : Nat)], G) ∧ QIn true p G ⟨P, [r.drop (4 * t)], lost⟩ F' ps rs S' ∧ Mv F F' H G) ?_ t _ H ⟨0, S, F, rfl, by simpa using Z, Mv.refl _ _, rfl⟩
  · obtain ⟨x, e, G, S', F', rfl, a1, b1⟩ := key
    have z0 : ((min r.length (4 * 0) : Nat) : Int) = 0 := by simp
    rw [z0] at e
    simp only [Int.cast_ofNat_Int] at e
    exact ⟨G, S', F', t, by omega, e, a1, b1⟩
  · rintro m xs G ⟨n, S', F', m1, Z', M', rfl⟩
    have ew := within_ok a 0 6 G (by omega) (by omega) (by omega)
    rw [ht] at ew
    by_cases h1 : n < t
    · left
      have i1 : (n : Int) < (t : Int) := by omega
      have w1 : IntKind.i64.wrap ((n : Int) + 1) = ((n + 1 : Nat) : Int) := wrap_succ _ (by omega)
      obtain ⟨o, G2, S2, F2, e2, O2, Z2, M2, _⟩ := take_ok Z' 5
      have htk : (Q.mk P [r.drop (4 * n)] lost).taken 5 = (r.drop (4 * n)).take 4 := by
        unfold Q.taken
        show (match place P 5 with | .ofNat i => _ | _ => _) = _
        rw [hP]; rfl
      have htq : (Q.mk P [r.drop (4 * n)] lost).take 5 = ⟨P, [r.drop (4 * (n + 1))], lost⟩ := by
        unfold Q.take
        show (match place P 5 with | .ofNat i => _ | _ => _) = _
        rw [hP]
        show Q.mk P [(r.drop (4 * n)).drop 4] lost = _
        rw [List.drop_drop]; rfl
      rw [htk] at O2
      rw [htq] at Z2
      have lo := O2.src.len
      have hlen : ((r.drop (4 * n)).take 4).length = min r.length (4 * (n + 1)) - min r.length (4 * n) := by rw [List.length_take, List.length_drop]; omega
      rw [hlen] at lo
      have w2 : IntKind.i64.wrap (((min r.length (4 * n) : Nat) : Int) + ((min r.length (4 * (n + 1)) - min r.length (4 * n) : Nat) : Int)) = ((min r.length (4 * (n + 1)) : Nat) : Int) := by rw [IntWalk.i64_in _ (by omega)]; omega
      refine ⟨_, G2, ?_, m - 1, by omega, n + 1, S2, F2, by omega, Z2, M'.trans M2, rfl⟩
      simp only [L7_1, List.getD_cons_zero, List.getD_cons_succ, ew, Option.bind_some, bin_lss, i1, decide_true, cond_bool, cond_true, e2, lo, bin_add, w2, w1]
    · right
      obtain rfl : n = t := by omega
      refine ⟨0, _, G, ?_, G, S', F', rfl, Z', M'⟩
      have i1 : ¬ (n : Int) < (n : Int) := by omega
      simp only [L7_1, List.getD_cons_zero, List.getD_cons_succ, ew, Option.bind_some, bin_lss, i1, decide_false, cond_bool, cond_false]

theorem queueLosts_true (h0 : Heap) (n : Int) (_ : (Lit.int .i64 n).wf = true) (tk : Int) (_ : (Lit.int .i64 tk).wf = true) : ∃ h', E tbl 7 [.int .i64 n, .int .i64 tk] h0 = some (.bool true, h') := by
  have I := Ints.lit .i64 h0 [5] 1 rfl true
  obtain ⟨G1, F, ps, rs, S, e1, Z1, W1, f1⟩ := new_ok I (fun b hb => by cases hb; simp) (by simp)
  have e2 := within_ok n 0 60 G1 (by omega) (by omega) (by omega)
  have wi := within_in n 0 60 (by omega)
  obtain ⟨k, hk⟩ : ∃ k : Nat, within n 0 60 = (k : Int) := ⟨(within n 0 60).toNat, by omega⟩
  rw [hk] at e2 wi
  obtain ⟨G2, S2, F2, e3, Z2, M2⟩ := loop7 Z1 k (by omega) (.int .i64 tk)
  rw [unlike_row k (by omega)] at Z2
  obtain ⟨G3, S3, F3, t, ht, e4, Z3, M3⟩ := loop7b Z2 rfl tk (.int .i64 k)
  have e5 := lost_eq Z3
  have e6 := len_eq Z3 5
  obtain ⟨H, e7, _⟩ := known_ok G3
  have hlen : (Q.mk [5] [((cds 65 k).drop (k - 16)).drop (4 * t)] ((k - 16 : Nat) : Int)).len 5 = ((((cds 65 k).drop (k - 16)).drop (4 * t)).length : Int) := rfl
  rw [hlen] at e6
  have hl2 : (((cds 65 k).drop (k - 16)).drop (4 * t)).length = k - (k - 16) - 4 * t := by rw [List.length_drop, List.length_drop, cds_len]
  have hl3 : ((cds 65 k).drop (k - 16)).length = k - (k - 16) := by rw [List.length_drop, cds_len]
  rw [hl2] at e6
  rw [hl3] at e4
  have w1 : IntKind.i64.wrap (((k - 16 : Nat) : Int) + ((min (k - (k - 16)) (4 * t) : Nat) : Int)) = ((k - 16 + min (k - (k - 16)) (4 * t) : Nat) : Int) := by rw [IntWalk.i64_in _ (by omega)]; omega
  have w2 : IntKind.i64.wrap (((k - 16 + min (k - (k - 16)) (4 * t) : Nat) : Int) + ((k - (k - 16) - 4 * t : Nat) : Int)) = (k : Int) := by rw [IntWalk.i64_in _ (by omega)]; omega
  have w3 : IntKind.i64.wrap ((k : Int) - 16) = (k : Int) - 16 := IntWalk.i64_in _ (by omega)
  have mx : aMinMaxL true [.int .i64 ((k : Int) - 16), .int .i64 0] = some (.int .i64 (((k - 16 : Nat) : Nat) : Int)) := by
    rw [max_two]
    congr 2
    omega
  refine ⟨H, ?_⟩
  simp only [List.map_cons, List.map_nil] at e1 e3 e4 e5 e6
  have f1 : aFill (reps [.int .i64 0] 1) [(0, 1, (.int .i64 5))] = some [.int .i64 5] := rfl
  rw [c7]
  simp only [S7, f1, Option.bind_some, e1, bin_ptr_nil, cond_bool, cond_false, e2, e3, e4, e5, e6, beq_dec, decide_true, cond_true, List.getD_cons_zero, List.getD_cons_succ, bin_add, w1, w2, bin_eql, beq_self_eq_true, guard_bool, bin_sub, w3, mx, pick_bool, e7, ans_one]
end Go.Proofs.Ythnilenennobeaa.Code
