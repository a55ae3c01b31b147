/- Chapter 8: NetKeeps. -/
import Derived.Test.YtfdhljghamkgjaaParts
import Derived.Test.YtfdhljghamkgjaaFwZt
namespace Go.Proofs.Ytfdhljghamkgjaa.Code
set_option linter.unusedSimpArgs false
set_option linter.unusedVariables false
open Go.Fw

/-- The bytes of each inner row. -/
theorem rows_bytes {h : Heap} : ∀ {R : List (AVal × List Int)}, (∀ x ∈ R, Src 1 x.1 h x.2.length (x.2.map (.int .u8)) ∧ ∀ y ∈ x.2, (Lit.int .u8 y).wf = true) →
    ∃ B : List (List UInt8), B.length = R.length ∧ ∀ (j : Nat) (x : AVal × List Int) (b : List UInt8), R[j]? = some x → B[j]? = some b → Src 1 x.1 h b.length (byteCells b) ∧ b.length = x.2.length
  | [], _ => ⟨[], rfl, fun j x b h => by simp at h⟩
  | r :: R, hR => by
    obtain ⟨B, hB, hh⟩ := rows_bytes (R := R) fun x hx => hR x (by simp [hx])
    obtain ⟨S, wf⟩ := hR r (by simp)
    obtain ⟨bl, hbl, S'⟩ := ints_bytes S.ints S.blk wf
    refine ⟨bl :: B, by simp [hB], fun j x b hx hb => ?_⟩
    cases j with
    | zero =>
      simp only [List.getElem?_cons_zero, Option.some.injEq] at hx hb
      subst hx; subst hb
      exact ⟨S', hbl⟩
    | succ j =>
      simp only [List.getElem?_cons_succ] at hx hb
      exact hh j x b hx hb

theorem netKeeps_law (h0 : Heap) {s : AVal} {R : List (AVal × List Int)} (I : Go.Fw.Rows .u8 s h0 R) (sz : R.length * 24 ≤ 140737488355328) (sz2 : ∀ x ∈ R, x.2.length * 1 ≤ 140737488355328) :
    ∃ h', E tbl 3 [s] h0 = some (.bool true, h') := by
  obtain ⟨S, inner⟩ := I
  obtain ⟨B, hB, hBy⟩ := rows_bytes inner
  obtain ⟨H1, e1, N1, _⟩ := new_eq h0 3 (by omega)
  have ln := S.len
  -- each letter is sent
  have send : ∃ res, loop (L3_0 (E tbl)) [s, .ptr h0.next 0, .int .i64 0, .int .i64 0] H1 = some res ∧ ∃ (n : Nat) (H : Heap) (sl : AVal) (l : List Lt), res = (1, [s, .ptr h0.next 0, .int .i64 n], H) ∧ n ≤ R.length ∧ n ≤ 40 ∧ l.length = n ∧ (∀ (j : Nat) (x : Lt), l[j]? = some x → x.f = (j : Int) % 3 ∧ x.t = ((j : Int) + 1) % 3 ∧ B[j]? = some x.b) ∧ NetAt h0 h0.next sl H 3 l (fun _ _ => false) := by
    refine loop_ok (fun m xs G => ∃ (i : Nat) (sl : AVal) (l : List Lt), m + i = 40 ∧ i ≤ R.length ∧ l.length = i ∧ (∀ (j : Nat) (x : Lt), l[j]? = some x → x.f = (j : Int) % 3 ∧ x.t = ((j : Int) + 1) % 3 ∧ B[j]? = some x.b) ∧ NetAt h0 h0.next sl G 3 l (fun _ _ => false) ∧ xs = [s, .ptr h0.next 0, .int .i64 i, .int .i64 i]) _ ?_ 40 _ _ ⟨0, .nilSlice, [], rfl, by omega, rfl, (fun j x hx => by simp at hx), N1, rfl⟩
    rintro m xs G ⟨i, sl, l, hm, hi, hl, hx, N, rfl⟩
    by_cases h1 : i < R.length
    · have i1 : ((i : Int) < (R.length : Int)) := by omega
      by_cases h2 : i < 40
      · have i2 : ((i : Int) < 40) := by omega
        left
        have SG : Src 1 s G R.length (R.map (·.1)) := N.went.src S
        obtain ⟨p, q1, q2⟩ := SG.at i h1
        have q2' : aLoad G 1 p = some [R[i].1] := by
          rw [q2, Nat.mul_one, List.drop_eq_getElem_cons (by simpa using h1)]
          simp
        have hb : B[i]? = some B[i] := List.getElem?_eq_getElem (by omega)
        obtain ⟨Sb, hbl⟩ := hBy i R[i] B[i] (List.getElem?_eq_getElem h1) hb
        have hsz := sz2 R[i] (List.getElem_mem h1)
        have r1 : (i : Int).tmod 3 = (i : Int) % 3 := Int.tmod_eq_emod_of_nonneg (by omega)
        have r2 : ((i : Int) + 1).tmod 3 = ((i : Int) + 1) % 3 := Int.tmod_eq_emod_of_nonneg (by omega)
        have w1 : IntKind.i64.wrap ((i : Int) + 1) = (i : Int) + 1 := IntWalk.i64_in _ (by omega)
        have f1 : inN 3 ((i : Int) % 3) = true := by simp [inN]; omega
        have f2 : inN 3 (((i : Int) + 1) % 3) = true := by simp [inN]; omega
        obtain ⟨s', sl', H', e3, N3, _, _⟩ := send_ok N (N.went.src Sb) (by omega) f1 f2 (by omega)
        refine ⟨_, H', ?_, m - 1, by omega, i + 1, sl', _, by omega, by omega, by simp [hl], ?_, N3, rfl⟩
        · have c1 : ((i + 1 : Nat) : Int) = (i : Int) + 1 := by omega
          rw [c1]
          simp [L3_0, SG.len, i1, i2, bin_rem, r1, r2, w1, q1, q2', Sb.cell, e3]
        · intro j x hj
          by_cases hji : j < i
          · rw [List.getElem?_append_left (by omega)] at hj
            exact hx j x hj
          · have hjl : j < (l ++ [(⟨(i : Int) % 3, ((i : Int) + 1) % 3, s', B[i]⟩ : Lt)]).length := (List.getElem?_eq_some_iff.1 hj).1
            simp only [List.length_append, List.length_singleton] at hjl
            obtain rfl : j = i := by omega
            rw [List.getElem?_append_right (by omega), hl, Nat.sub_self, List.getElem?_cons_zero, Option.some.injEq] at hj
            subst hj
            exact ⟨rfl, rfl, hb⟩
      · right
        have i2 : ¬ ((i : Int) < 40) := by omega
        exact ⟨0, _, G, by simp [L3_0, (N.went.src S).len, i1, i2], i, G, sl, l, rfl, hi, by omega, hl, hx, N⟩
    · right
      have i1 : ¬ ((i : Int) < (R.length : Int)) := by omega
      exact ⟨0, _, G, by simp [L3_0, (N.went.src S).len, i1], i, G, sl, l, rfl, hi, by omega, hl, hx, N⟩
  obtain ⟨_, e2, n, H2, sl2, l2, rfl, hn, hn40, hl2, hx2, N2⟩ := send
  -- each letter is taken
  have take : ∃ res, loop (L3_1 (E tbl)) [s, .ptr h0.next 0, .int .i64 n, .int .i64 0] H2 = some res ∧ ∃ H sl, res = (1, [.ptr h0.next 0], H) ∧ NetAt h0 h0.next sl H 3 [] (fun _ _ => false) := by
    refine loop_ok (fun m xs G => ∃ (i : Nat) (sl : AVal), m + i = n ∧ NetAt h0 h0.next sl G 3 (l2.drop i) (fun _ _ => false) ∧ xs = [s, .ptr h0.next 0, .int .i64 n, .int .i64 i]) _ ?_ n _ _ ⟨0, sl2, by omega, N2, rfl⟩
    rintro m xs G ⟨i, sl, hm, N, rfl⟩
    by_cases h1 : i < n
    · left
      have i1 : ((i : Int) < (n : Int)) := by omega
      have hil : i < l2.length := by omega
      have hd : l2.drop i = l2[i] :: l2.drop (i + 1) := List.drop_eq_getElem_cons hil
      have hrl : (l2.drop (i + 1)).length ≤ 40 := by rw [List.length_drop]; omega
      rw [hd] at N
      obtain ⟨rest, hrest⟩ : ∃ r, r = l2.drop (i + 1) := ⟨_, rfl⟩
      rw [← hrest] at N hrl
      obtain ⟨hf, ht, hb⟩ := hx2 i l2[i] (List.getElem?_eq_getElem hil)
      obtain ⟨sl', H', e3, N3, F3, _, _⟩ := deliver_ok N (by simp only [List.length_cons]; omega) 0 (by simp) (by simp [isP])
      have N3' : NetAt h0 h0.next sl' H' 3 rest (fun _ _ => false) := N3
      have O := N.own l2[i] (by simp)
      have T1 := (F3.src O.1 O.2).text
      have SG : Src 1 s H' R.length (R.map (·.1)) := N3'.went.src S
      obtain ⟨p, q1, q2⟩ := SG.at i (by omega)
      have q2' : aLoad H' 1 p = some [R[i].1] := by
        rw [q2, Nat.mul_one, List.drop_eq_getElem_cons (by simp; omega)]
        simp
      obtain ⟨Sb, _⟩ := hBy i R[i] l2[i].b (List.getElem?_eq_getElem (by omega)) hb
      have T2 := (N3'.went.src Sb).text
      have r1 : (i : Int).tmod 3 = (i : Int) % 3 := Int.tmod_eq_emod_of_nonneg (by omega)
      have r2 : ((i : Int) + 1).tmod 3 = ((i : Int) + 1) % 3 := Int.tmod_eq_emod_of_nonneg (by omega)
      have w1 : IntKind.i64.wrap ((i : Int) + 1) = (i : Int) + 1 := IntWalk.i64_in _ (by omega)
      simp only [List.getElem_cons_zero, Int.cast_ofNat_Int, hf, ht] at e3
      refine ⟨_, H', ?_, m - 1, by omega, i + 1, sl', by omega, hrest ▸ N3', rfl⟩
      have c1 : ((i + 1 : Nat) : Int) = (i : Int) + 1 := by omega
      rw [c1]
      simp [L3_1, i1, e3, O.1.cell, bin_rem, r1, r2, w1, T1, T2, q1, q2']
    · right
      have i1 : ¬ ((i : Int) < (n : Int)) := by omega
      rw [List.drop_of_length_le (by omega)] at N
      exact ⟨0, _, G, by simp [L3_1, i1], G, sl, rfl, N⟩
  obtain ⟨_, e3, H3, sl3, rfl, N3⟩ := take
  have e4 := deliver_no N3 0 (by rfl)
  have e5 := len_eq N3
  obtain ⟨H4, e6, _⟩ := known_eq H3
  have cn : aCells 1 .nilSlice = some [.nilSlice] := rfl
  simp only [List.length_nil, Int.cast_ofNat_Int] at e5 e3
  refine ⟨H4, ?_⟩
  rw [c3]
  simp [S3, e1, e2, e3, e4, e5, e6, beq_dec, cn]
end Go.Proofs.Ytfdhljghamkgjaa.Code
