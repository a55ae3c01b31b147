/- Chapter 3: rows of frames, known runs. -/
import Derived.Test.YtmmfcgbcocmkgaaPlay
namespace Go.Proofs.Ytmmfcgbcocmkgaa.Code
set_option linter.unusedSimpArgs false
set_option linter.unusedVariables false
open Go.Fw

def rowB (L : List (List UInt8)) : List UInt8 := ((L.take 5).map fun b => frameB (b.take 60)).flatten
theorem rowB_len (L : List (List UInt8)) : (rowB L).length ≤ 340 := by
  unfold rowB
  have : ∀ M : List (List UInt8), ((M.map fun b => frameB (b.take 60)).flatten).length ≤ M.length * 68 := by
    intro M
    induction M with
    | nil => simp
    | cons b r ih =>
      rw [List.map_cons, List.flatten_cons, List.length_append, frameB_len, List.length_take, List.length_cons]
      omega
  have h1 := this (L.take 5)
  have h2 : (L.take 5).length ≤ 5 := by rw [List.length_take]; omega
  omega
theorem rowB_step (L : List (List UInt8)) (i : Nat) (hi : i < L.length) (h5 : i < 5) : rowB (L.take (i + 1)) = rowB (L.take i) ++ frameB (L[i].take 60) := by
  unfold rowB
  rw [List.take_take, List.take_take, Nat.min_eq_right (by omega), Nat.min_eq_right (by omega), List.take_add_one, List.getElem?_eq_getElem hi, List.map_append, List.flatten_append]
  simp only [Option.toList_some, List.map_cons, List.map_nil, List.flatten_cons, List.flatten_nil, List.append_nil]

theorem row_ok {s : AVal} {h : Heap} {L : List (AVal × List UInt8)} (B : BRows s h L) (hl : L.length ≤ 10000000000000) : ∃ o H, E tbl 8 [s] h = some (o, H) ∧ Fresh h o H (rowB (L.map (·.2))) := by
  have hlm : (L.map (·.2)).length = L.length := by simp
  have ln := B.len
  have key := loop_ok (f := L8_0 (E tbl)) (fun m xs G => ∃ (i : Nat) (o : AVal), m + i = 5 ∧ i ≤ L.length ∧ Fresh h o G (rowB ((L.map (·.2)).take i)) ∧ xs = [s, o, .int .i64 i])
    (fun r => ∃ o G, r = (1, [o], G) ∧ Fresh h o G (rowB (L.map (·.2)))) ?_ 5 _ h ⟨0, .nilSlice, rfl, by omega, by simpa [rowB] using Fresh.nil h, rfl⟩
  · obtain ⟨r, e, o, G, rfl, F⟩ := key
    simp only [Int.cast_ofNat_Int] at e
    refine ⟨o, G, ?_, F⟩
    rw [c8]
    simp [S8, e, beq_dec]
  · rintro m xs G ⟨i, o, m1, hi, F, rfl⟩
    have ln' := (B.went F.went).len
    by_cases h1 : i < L.length ∧ i < 5
    · left
      have i1 : (i : Int) < (L.length : Int) := by omega
      have i2 : (i : Int) < 5 := by omega
      have w1 : IntKind.i64.wrap ((i : Int) + 1) = ((i + 1 : Nat) : Int) := wrap_succ _ (by omega)
      obtain ⟨p, e1, e2, S, R⟩ := (B.went F.went).at i h1.1
      have lb := S.len
      have hst : rowB ((L.map (·.2)).take (i + 1)) = rowB ((L.map (·.2)).take i) ++ frameB (L[i].2.take 60) := by rw [rowB_step _ _ (by omega) h1.2]; simp
      have fin : ∀ {s' : AVal} {b : List UInt8}, Bs s' G b → b.length ≤ 60 → ∃ o' G', (((E tbl 11 [s'] G).bind fun r13 => (aAppend 1 1 [.int .u8 0] false o r13.1 r13.2).bind fun r14 => some (r14.1, r14.2)) = some (o', G')) ∧ Fresh h o' G' (rowB ((L.map (·.2)).take i) ++ frameB b) := by
        intro s' b S' hb
        obtain ⟨f, G1, e3, F1⟩ := frame_eq S' (by omega)
        have F0 : Fresh h o G1 (rowB ((L.map (·.2)).take i)) := ⟨F1.went.own F.own, F.went.trans F1.went⟩
        have hr := rowB_len ((L.map (·.2)).take i)
        obtain ⟨o', G', e4, F4⟩ := F0.app F1.bs (by rw [frameB_len]; omega)
        exact ⟨o', G', by simp [e3, e4], F4⟩
      by_cases h60 : 60 < L[i].2.length
      · have i3 : (60 : Int) < (L[i].2.length : Int) := by omega
        obtain ⟨s', e3, S3, _, _⟩ := S.pre R 60 (by omega)
        obtain ⟨o', G', e4, F4⟩ := fin S3 (by rw [List.length_take]; omega)
        simp only [Int.cast_ofNat_Int] at e3
        simp only [Option.bind_eq_some_iff, Option.some.injEq] at e4
        obtain ⟨r13, y1, r14, y2, y3⟩ := e4
        have y4 : r14.1 = o' ∧ r14.2 = G' := by simpa using y3
        refine ⟨_, G', ?_, m - 1, by omega, i + 1, o', by omega, by omega, by rw [hst]; exact F4, rfl⟩
        simp [L8_0, ln', i1, i2, e1, e2, lb, i3, e3, y1, y2, y4, w1, beq_dec]
      · have i3 : ¬ (60 : Int) < (L[i].2.length : Int) := by omega
        obtain ⟨o', G', e4, F4⟩ := fin S (by omega)
        simp only [Option.bind_eq_some_iff, Option.some.injEq] at e4
        obtain ⟨r13, y1, r14, y2, y3⟩ := e4
        have y4 : r14.1 = o' ∧ r14.2 = G' := by simpa using y3
        have h60' : L[i].2.take 60 = L[i].2 := List.take_of_length_le (by omega)
        refine ⟨_, G', ?_, m - 1, by omega, i + 1, o', by omega, by omega, by rw [hst, h60']; exact F4, rfl⟩
        simp [L8_0, ln', i1, i2, e1, e2, lb, i3, y1, y2, y4, w1, beq_dec]
    · right
      have hfin : rowB ((L.map (·.2)).take i) = rowB (L.map (·.2)) := by
        by_cases h5 : i < 5
        · have : i = L.length := by omega
          rw [List.take_of_length_le (by omega)]
        · have : i = 5 := by omega
          subst this
          unfold rowB
          rw [List.take_take]
          rfl
      refine ⟨0, [o], G, ?_, o, G, rfl, by rw [← hfin]; exact F⟩
      by_cases h2 : i < L.length
      · have i1 : (i : Int) < (L.length : Int) := by omega
        have i2 : ¬ (i : Int) < 5 := by omega
        simp [L8_0, ln', i1, i2]
      · have i1 : ¬ (i : Int) < (L.length : Int) := by omega
        simp [L8_0, ln', i1]

theorem ab_one : oneWhy (frameB [97, 98]) = 0 ∧ oneB (frameB [97, 98]) = [97, 98] ∧ oneWhy [] = 12 := by decide +kernel

theorem known_ok (h : Heap) : ∃ H, E tbl 15 [] h = some (.bool true, H) ∧ Went h H := by
  have F0 := Fresh.lit h [97, 98] (n := 2) rfl true
  have hcv : aConv .slBytes (.slice h.next 0 2 2 1 true) (h.alloc (byteCells [97, 98])) = some (.slice h.next 0 2 2 1 true, h.alloc (byteCells [97, 98])) := by
    have hb : (h.alloc (byteCells [97, 98])).blk h.next = some ⟨byteCells [97, 98], true⟩ := alloc_same _ _
    simp only [aConv, hb]
    rfl
  obtain ⟨s1, h1, e1, F1⟩ := bytes_eq F0.bs (by simp)
  obtain ⟨s2, h2, e2, F2⟩ := one_eq F1.bs F1.own.room (by simp)
  obtain ⟨s3, h3, e3, F3⟩ := one_eq (Bs.nil h2) Room.nil (by simp)
  obtain ⟨a1, a2, a3⟩ := ab_one
  rw [a1] at e2
  rw [a2] at F2
  rw [a3] at e3
  have mk : aMkSlice 1 1 [.int .u8 0] (.int .i64 8193) (.int .i64 8193) h3 = some (.slice h3.next 0 8193 8193 1 true, h3.alloc (reps [.int .u8 0] 8193)) := by
    simp only [aMkSlice]
    rw [if_pos (by omega)]
    rfl
  have W4 : Went h3 (h3.alloc (reps [.int .u8 0] 8193)) := Went.alloc _ _
  have e4 := bytes_no (Own.lit 1 h3 (reps [.int .u8 0] 8193) 8193 (by rw [reps_length]; simp) true).src (by omega)
  have l1 := F1.bs.len
  have t2 := Fw.Src.text (W4.src (F3.went.src F2.bs))
  have e5 := sum_eq (Bs.nil (h3.alloc (reps [.int .u8 0] 8193))) (by simp)
  have s17 : (sumB [] : Int) = 17 := rfl
  rw [s17] at e5
  refine ⟨_, ?_, (((F0.went.trans F1.went).trans F2.went).trans F3.went).trans W4⟩
  have bc : byteCells [97, 98] = [.int .u8 97, .int .u8 98] := rfl
  rw [bc] at hcv e1
  have l10 : aLen false s1 = some (.int .i64 10) := l1
  simp only [Int.cast_ofNat_Int] at e2 e3
  rw [c15]
  generalize reps [.int .u8 0] 8193 = z at *
  simp [S15, hcv, e1, e2, e3, mk, e4, l10, t2, e5]
end Go.Proofs.Ytmmfcgbcocmkgaa.Code
