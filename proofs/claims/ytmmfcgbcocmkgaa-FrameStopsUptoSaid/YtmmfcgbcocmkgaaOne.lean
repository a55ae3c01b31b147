/- Chapter 3: one frame; the next one of a stream. -/
import Derived.Test.YtmmfcgbcocmkgaaLaw
namespace Go.Proofs.Ytmmfcgbcocmkgaa.Code
set_option linter.unusedSimpArgs false
set_option linter.unusedVariables false
open Go.Fw

/-- Why bytes are not just one frame; 0: they are. -/
def oneWhy (l : List UInt8) : Nat :=
  if l.length < 4 then 12 else if 8192 < get4 l then 3 else if l.length ≠ get4 l + 8 then 12 else if sumB (l.take (l.length - 4)) ≠ get4 (l.drop (l.length - 4)) then 13 else 0
def oneB (l : List UInt8) : List UInt8 := if oneWhy l = 0 then (l.drop 4).take (l.length - 8) else []

theorem i64N (n : Nat) (h : n < 1000000000000000000) (k : IntKind) (H : Heap) : aConv (.toInt .i64) (.int k (n : Int)) H = some (.int .i64 (n : Int), H) := by
  simp only [aConv, IntWalk.i64_in _ (show -9223372036854775808 ≤ (n : Int) ∧ (n : Int) ≤ 9223372036854775807 by omega)]

theorem one_eq {s : AVal} {h : Heap} {l : List UInt8} (S : Bs s h l) (R : El.Room s) (hl : l.length ≤ 140737488355328) :
    ∃ s' h', E tbl 19 [s] h = some (.tuple [s', .int .i64 (oneWhy l)], h') ∧ Fresh h s' h' (oneB l) := by
  have hln := S.len
  unfold oneB oneWhy
  by_cases h1 : l.length < 4
  · have i1 : (l.length : Int) < 4 := by omega
    refine ⟨.nilSlice, h, ?_, ?_⟩
    · rw [c19]; simp [S19, hln, i1, h1]
    · simp only [h1, if_true, show ¬ (12 : Nat) = 0 by omega, if_false]; exact Fresh.nil h
  · have i1 : ¬ (l.length : Int) < 4 := by omega
    have eg := get_eq S R (by omega)
    have hg := get4_lt l
    by_cases h2 : 8192 < get4 l
    · have i2 : (8192 : Int) < (get4 l : Int) := by omega
      refine ⟨.nilSlice, h, ?_, ?_⟩
      · rw [c19]; simp [S19, hln, i1, h1, eg, i2, h2]
      · simp only [h1, h2, if_true, show ¬ (3 : Nat) = 0 by omega, if_false]; exact Fresh.nil h
    · have i2 : ¬ (8192 : Int) < (get4 l : Int) := by omega
      have w8 : IntKind.i64.wrap ((get4 l : Int) + 8) = (get4 l : Int) + 8 := IntWalk.i64_in _ (by omega)
      have cv := i64N (get4 l) (by omega) .u32 h
      by_cases h3 : l.length ≠ get4 l + 8
      · have i3 : ((l.length : Int) == (get4 l : Int) + 8) = false := by simp only [beq_eq_false_iff_ne, ne_eq]; omega
        refine ⟨.nilSlice, h, ?_, ?_⟩
        · rw [c19]
          simp only [h1, h2, h3, if_true, if_false, ne_eq, not_false_eq_true]
          simp only [S19, hln, Option.bind_some, bin_lss, i1, decide_false, cond_bool, cond_false, eg, bin_gtr, gt_iff_lt, i2, cv, bin_add, w8, bin_neq, bne, i3, Bool.not_false, cond_true, ans_one, Int.cast_ofNat_Int]
        · simp only [h1, h2, h3, ne_eq, not_false_eq_true, if_true, show ¬ (12 : Nat) = 0 by omega, if_false]; exact Fresh.nil h
      · have h3' : l.length = get4 l + 8 := by omega
        have i3 : ((l.length : Int) == (get4 l : Int) + 8) = true := by simp only [beq_iff_eq]; omega
        have w4 : IntKind.i64.wrap ((l.length : Int) - 4) = ((l.length - 4 : Nat) : Int) := by rw [IntWalk.i64_in _ (by omega)]; omega
        obtain ⟨s1, e1, S1, _, _⟩ := S.pre R (l.length - 4) (by omega)
        obtain ⟨s2, e2, S2, R2, _⟩ := S.post R (l.length - 4) (by omega)
        obtain ⟨s3, e3, S3, _, _⟩ := S.mid R 4 (l.length - 4) (by omega) (by omega)
        have t1 := sum_eq S1 (by rw [List.length_take]; omega)
        have t2 := get_eq S2 R2 (by rw [List.length_drop]; omega)
        simp only [Int.cast_ofNat_Int] at e3
        by_cases h4 : sumB (l.take (l.length - 4)) ≠ get4 (l.drop (l.length - 4))
        · have i4 : ((sumB (l.take (l.length - 4)) : Int) == (get4 (l.drop (l.length - 4)) : Int)) = false := by
            simp only [beq_eq_false_iff_ne, ne_eq]; omega
          refine ⟨.nilSlice, h, ?_, ?_⟩
          · rw [c19]
            simp only [h1, h2, h3, h4, ne_eq, not_false_eq_true, if_true, if_false]
            generalize sumB (l.take (l.length - 4)) = u at *
            generalize get4 (l.drop (l.length - 4)) = v at *
            simp only [S19, hln, Option.bind_some, bin_lss, i1, decide_false, cond_bool, cond_false, eg, bin_gtr, gt_iff_lt, i2, cv, bin_add, w8, bin_neq, bne, i3, Bool.not_true, bin_sub, w4]
            simp only [ e1, e2, t1, t2, Option.bind_some, bin_neq, bne, i4, Bool.not_false, cond_bool, cond_true, ans_one, Int.cast_ofNat_Int]
          · simp only [h1, h2, h3, h4, ne_eq, not_false_eq_true, if_true, show ¬ (13 : Nat) = 0 by omega, if_false]; exact Fresh.nil h
        · have i4 : (sumB (l.take (l.length - 4)) : Int) = (get4 (l.drop (l.length - 4)) : Int) := by omega
          obtain ⟨s4, h4', e4, F4⟩ := bclone_eq S3 (by rw [List.length_take, List.length_drop]; omega)
          refine ⟨s4, h4', ?_, ?_⟩
          · rw [c19]
            simp only [h1, h2, h3, h4, if_false]
            generalize sumB (l.take (l.length - 4)) = u at *
            generalize get4 (l.drop (l.length - 4)) = v at *
            simp only [S19, hln, Option.bind_some, bin_lss, i1, decide_false, cond_bool, cond_false, eg, bin_gtr, gt_iff_lt, i2, cv, bin_add, w8, bin_neq, bne, i3, Bool.not_true, bin_sub, w4]
            simp only [ e1, e2, e3, t1, t2, e4, Option.bind_some, bin_neq, bne, i4, beq_self_eq_true, Bool.not_true, cond_bool, cond_false, ans_one, Int.cast_ofNat_Int]
          · simp only [h1, h2, h3, h4, if_false, if_true]
            have : l.length - 4 - 4 = l.length - 8 := by omega
            rw [this] at F4
            exact F4

/-- Bytes of the right length are a frame of what is within, where its sum is right. -/
theorem frame_iff (l : List UInt8) (h1 : l.length = get4 l + 8) (h2 : get4 l < 4294967296) : (frameB ((l.drop 4).take (get4 l)) = l) ↔ sumB (l.take (l.length - 4)) = get4 (l.drop (l.length - 4)) := by
  have hl : ((l.drop 4).take (get4 l)).length = get4 l := by rw [List.length_take, List.length_drop]; omega
  have hh : be4 (get4 l) ++ (l.drop 4).take (get4 l) = l.take (l.length - 4) := by
    rw [be4_get4 l (by omega)]
    have e4 : l.length - 4 = 4 + get4 l := by omega
    rw [e4, List.take_add]
  have hf : frameB ((l.drop 4).take (get4 l)) = l.take (l.length - 4) ++ be4 (sumB (l.take (l.length - 4))) := by
    unfold frameB
    rw [hl, hh]
  rw [hf]
  have hsplit : l = l.take (l.length - 4) ++ l.drop (l.length - 4) := (List.take_append_drop _ _).symm
  constructor
  · intro e
    have e' : be4 (sumB (l.take (l.length - 4))) = l.drop (l.length - 4) := by
      have := e.trans hsplit
      exact List.append_cancel_left this
    have := get4_be4 (sumB (l.take (l.length - 4))) (sumB_lt _) []
    rw [List.append_nil, e'] at this
    exact this.symm
  · intro e
    rw [e]
    have := be4_get4 (l.drop (l.length - 4)) (by rw [List.length_drop]; omega)
    have t4 : (l.drop (l.length - 4)).take 4 = l.drop (l.length - 4) := List.take_of_length_le (by rw [List.length_drop]; omega)
    rw [this, t4, List.take_append_drop]

theorem rone_eq {s : AVal} {h : Heap} {l : List UInt8} (S : Bs s h l) (R : El.Room s) (hl : l.length ≤ 140737488355328) :
    ∃ h', E tbl 22 [s] h = some (.tuple [.str (oneB l), .int .i64 (oneWhy l)], h') ∧ Went h h' := by
  have hln := S.len
  unfold oneB oneWhy
  by_cases h1 : l.length < 4
  · have i1 : (l.length : Int) < 4 := by omega
    refine ⟨h, ?_, Went.refl _⟩
    rw [c22]; simp [S22, hln, i1, h1]
  · have i1 : ¬ (l.length : Int) < 4 := by omega
    have hg := get4_lt l
    obtain ⟨a, b, c, d, r, hr⟩ := four_of l (by omega)
    have ha := a.toNat_lt; have hb := b.toNat_lt; have hc := c.toNat_lt; have hd := d.toNat_lt
    have by4 : ∃ p0 p1 p2 p3, aIaddr 1 s (.int .i64 0) = some p0 ∧ aIaddr 1 s (.int .i64 1) = some p1 ∧ aIaddr 1 s (.int .i64 2) = some p2 ∧ aIaddr 1 s (.int .i64 3) = some p3 ∧ aLoad h 1 p0 = some [.int .u8 (a.toNat : Int)] ∧ aLoad h 1 p1 = some [.int .u8 (b.toNat : Int)] ∧ aLoad h 1 p2 = some [.int .u8 (c.toNat : Int)] ∧ aLoad h 1 p3 = some [.int .u8 (d.toNat : Int)] := by
      obtain ⟨p0, q0, r0⟩ := Src.byte S 0 (by omega)
      obtain ⟨p1, q1, r1⟩ := Src.byte S 1 (by omega)
      obtain ⟨p2, q2, r2⟩ := Src.byte S 2 (by omega)
      obtain ⟨p3, q3, r3⟩ := Src.byte S 3 (by omega)
      subst hr
      simp only [List.getD_cons_zero, List.getD_cons_succ, Int.cast_ofNat_Int] at q0 r0 q1 r1 q2 r2 q3 r3
      exact ⟨p0, p1, p2, p3, q0, q1, q2, q3, r0, r1, r2, r3⟩
    obtain ⟨p0, p1, p2, p3, q0, q1, q2, q3, r0, r1, r2, r3⟩ := by4
    have t0 := shl64 a.toNat 16777216 24 (by omega) rfl (by omega)
    have t1 := shl64 b.toNat 65536 16 (by omega) rfl (by omega)
    have t2 := shl64 c.toNat 256 8 (by omega) rfl (by omega)
    have o1 := or64 16777216 a.toNat (65536 * b.toNat) ⟨24, rfl⟩ (by omega) (by omega)
    have o2 := or64 65536 (256 * a.toNat + b.toNat) (256 * c.toNat) ⟨16, rfl⟩ (by omega) (by omega)
    have o3 := or64 256 (65536 * a.toNat + 256 * b.toNat + c.toNat) d.toNat ⟨8, rfl⟩ (by omega) (by omega)
    have k1 : 16777216 * a.toNat + 65536 * b.toNat = 65536 * (256 * a.toNat + b.toNat) := by omega
    have k2 : 65536 * (256 * a.toNat + b.toNat) + 256 * c.toNat = 256 * (65536 * a.toNat + 256 * b.toNat + c.toNat) := by omega
    have k3 : 256 * (65536 * a.toNat + 256 * b.toNat + c.toNat) + d.toNat = get4 l := by
      rw [hr]
      show _ = ((a.toNat * 256 + b.toNat) * 256 + c.toNat) * 256 + d.toNat
      omega
    rw [k1] at o1
    rw [k2] at o2
    rw [k3] at o3
    simp only [Int.cast_ofNat_Int] at t0 t1 t2
    have head : ∀ K : Option J, S22 (E tbl) s h = K → True := fun _ _ => trivial
    by_cases h2 : 8192 < get4 l
    · have i2 : (8192 : Int) < (get4 l : Int) := by omega
      refine ⟨h, ?_, Went.refl _⟩
      rw [c22]
      simp only [h1, h2, if_true, if_false, show ¬ (3 : Nat) = 0 by omega]
      simp only [S22, hln, Option.bind_some, bin_lss, i1, decide_false, cond_bool, cond_false, q0, q1, q2, q3, r0, r1, r2, r3, from_one, toI64, t0, t1, t2, o1, o2, o3, bin_gtr, gt_iff_lt, i2, decide_true, cond_true, ans_one, Int.cast_ofNat_Int]
    · have i2 : ¬ (8192 : Int) < (get4 l : Int) := by omega
      have w8 : IntKind.i64.wrap ((get4 l : Int) + 8) = (get4 l : Int) + 8 := IntWalk.i64_in _ (by omega)
      have w4 : IntKind.i64.wrap (4 + (get4 l : Int)) = ((4 + get4 l : Nat) : Int) := by rw [IntWalk.i64_in _ (by omega)]; omega
      by_cases h3 : l.length ≠ get4 l + 8
      · have i3 : ((l.length : Int) == (get4 l : Int) + 8) = false := by simp only [beq_eq_false_iff_ne, ne_eq]; omega
        refine ⟨h, ?_, Went.refl _⟩
        rw [c22]
        simp only [h1, h2, h3, if_true, if_false, ne_eq, not_false_eq_true, show ¬ (12 : Nat) = 0 by omega]
        simp only [S22, hln, Option.bind_some, bin_lss, i1, decide_false, cond_bool, cond_false, q0, q1, q2, q3, r0, r1, r2, r3, from_one, toI64, t0, t1, t2, o1, o2, o3, bin_gtr, gt_iff_lt, i2, bin_add, w8, bin_neq, bne, i3, Bool.not_false, cond_true, ans_one, Int.cast_ofNat_Int]
      · have h3' : l.length = get4 l + 8 := by omega
        have i3 : ((l.length : Int) == (get4 l : Int) + 8) = true := by simp only [beq_iff_eq]; omega
        have fi := frame_iff l h3' hg
        obtain ⟨s3, e3, S3, R3, _⟩ := S.mid R 4 (4 + get4 l) (by omega) (by omega)
        have eq4 : 4 + get4 l - 4 = get4 l := by omega
        rw [eq4] at S3
        obtain ⟨s4, h4, e4, F4⟩ := frame_eq S3 (by rw [List.length_take]; omega)
        have S' := F4.went.src S
        have x1 := F4.bs.text
        have x2 : aConv .bytesStr s h4 = some (.str l, h4) := Fw.Src.text S'
        have x3 : aConv .bytesStr s3 h4 = some (.str ((l.drop 4).take (get4 l)), h4) := Fw.Src.text (F4.went.src S3)
        simp only [Int.cast_ofNat_Int] at e3
        have lb : ∃ b off n cap es ex, s = .slice b off n cap es ex ∧ (∀ k, h4.rd b off k = h.rd b off k) ∧ ∃ cs, h.rd b off n = some cs := by
          obtain ⟨hcl, ⟨_, hz⟩ | ⟨b, off, cap, ex, rfl, hb, hrd⟩⟩ := S
          · omega
          · exact ⟨b, off, l.length, cap, 1, ex, rfl, fun k => rd_blk (F4.went.old b hb) off k, _, by rw [Nat.mul_one] at hrd; exact hrd⟩
        obtain ⟨bb, off, nn, cap, es, ex, hs, hsame, cs, hcs⟩ := lb
        have cp : checkPairs [(7, logBs s), (4, some (.ef [] h [] h4))] [(7, 4)] = true := by
          subst hs
          simp [checkPairs_cons, logBs, hsame, hcs]
        have eq8 : l.length - 8 = get4 l := by omega
        by_cases h5 : sumB (l.take (l.length - 4)) ≠ get4 (l.drop (l.length - 4))
        · have x4 : aBin .neq .plain (.str (frameB ((l.drop 4).take (get4 l)))) (.str l) = some (.bool true) := by
            have hne : ¬ frameB ((l.drop 4).take (get4 l)) = l := fun e => h5 (fi.1 e)
            rw [bin_str_neq]
            simp [hne]
          refine ⟨h4, ?_, F4.went⟩
          rw [c22]
          simp only [h1, h2, h3, h5, if_true, if_false, ne_eq, not_false_eq_true, show ¬ (13 : Nat) = 0 by omega]
          simp only [S22, hln, Option.bind_some, bin_lss, i1, decide_false, cond_bool, cond_false, q0, q1, q2, q3, r0, r1, r2, r3, from_one, toI64, t0, t1, t2, o1, o2, o3, bin_gtr, gt_iff_lt, i2, bin_add, w8, bin_neq, bne, i3, Bool.not_true, w4, e3, e4, x1, x2, cp, cond_true]
          rw [x4]
          simp only [Option.bind_some, cond_bool, cond_true, ans_one, Int.cast_ofNat_Int]
        · have x4 : aBin .neq .plain (.str (frameB ((l.drop 4).take (get4 l)))) (.str l) = some (.bool false) := by
            have he : frameB ((l.drop 4).take (get4 l)) = l := fi.2 (by omega)
            rw [bin_str_neq, he]
            simp
          refine ⟨h4, ?_, F4.went⟩
          rw [c22]
          simp only [h1, h2, h3, h5, if_true, if_false, eq8]
          simp only [S22, hln, Option.bind_some, bin_lss, i1, decide_false, cond_bool, cond_false, q0, q1, q2, q3, r0, r1, r2, r3, from_one, toI64, t0, t1, t2, o1, o2, o3, bin_gtr, gt_iff_lt, i2, bin_add, w8, bin_neq, bne, i3, Bool.not_true, w4, e3, e4, x1, x2, cp, cond_true]
          rw [x4]
          simp only [Option.bind_some, cond_bool, cond_false, x3, ans_one, Int.cast_ofNat_Int]

theorem ones_ok {s : AVal} {h : Heap} {l : List UInt8} (S : Bs s h l) (R : El.Room s) (hl : l.length ≤ 140737488355328) : ∃ h', E tbl 10 [s] h = some (.bool true, h') ∧ Went h h' := by
  obtain ⟨s1, h1, e1, F1⟩ := one_eq S R hl
  obtain ⟨h2, e2, W2⟩ := rone_eq (F1.went.src S) R hl
  have x1 : aConv .bytesStr s1 h2 = some (.str (oneB l), h2) := Fw.Src.text (W2.src F1.bs)
  refine ⟨h2, ?_, F1.went.trans W2⟩
  rw [c10]
  simp [S10, e1, e2, x1]

/-- How long the frame at the beginning is, and why there is none. -/
def nextN (l : List UInt8) : Nat :=
  if l.length < 4 then 0 else if 8192 < get4 l then 0 else if l.length < get4 l + 8 then 0 else if sumB (l.take (get4 l + 4)) ≠ get4 (l.drop (get4 l + 4)) then 0 else get4 l + 8
def nextW (l : List UInt8) : Nat :=
  if l.length < 4 then 0 else if 8192 < get4 l then 3 else if l.length < get4 l + 8 then 0 else if sumB (l.take (get4 l + 4)) ≠ get4 (l.drop (get4 l + 4)) then 13 else 0

theorem next_eq {s : AVal} {h : Heap} {l : List UInt8} (S : Bs s h l) (R : El.Room s) (hl : l.length ≤ 140737488355328) : E tbl 27 [s] h = some (.tuple [.int .i64 (nextN l), .int .i64 (nextW l)], h) := by
  have hln := S.len
  unfold nextN nextW
  by_cases h1 : l.length < 4
  · have i1 : (l.length : Int) < 4 := by omega
    rw [c27]; simp [S27, hln, i1, h1]
  · have i1 : ¬ (l.length : Int) < 4 := by omega
    have eg := get_eq S R (by omega)
    have hg := get4_lt l
    by_cases h2 : 8192 < get4 l
    · have i2 : (8192 : Int) < (get4 l : Int) := by omega
      rw [c27]; simp [S27, hln, i1, h1, eg, i2, h2]
    · have i2 : ¬ (8192 : Int) < (get4 l : Int) := by omega
      have w4 : IntKind.i64.wrap (4 + (get4 l : Int)) = ((get4 l + 4 : Nat) : Int) := by rw [IntWalk.i64_in _ (by omega)]; omega
      have w8 : IntKind.i64.wrap (((get4 l + 4 : Nat) : Int) + 4) = ((get4 l + 8 : Nat) : Int) := by rw [IntWalk.i64_in _ (by omega)]; omega
      have cv := i64N (get4 l) (by omega) .u32 h
      by_cases h3 : l.length < get4 l + 8
      · have i3 : (l.length : Int) < ((get4 l + 8 : Nat) : Int) := by omega
        rw [c27]
        simp only [h1, h2, h3, if_true, if_false]
        simp only [S27, hln, Option.bind_some, bin_lss, i1, decide_false, cond_bool, cond_false, eg, bin_gtr, gt_iff_lt, i2, cv, bin_add, w4, w8, i3, decide_true, cond_true, ans_one, Int.cast_ofNat_Int]
      · have i3 : ¬ (l.length : Int) < ((get4 l + 8 : Nat) : Int) := by omega
        obtain ⟨s1, e1, S1, _, _⟩ := S.pre R (get4 l + 4) (by omega)
        obtain ⟨s2, e2, S2, R2, _⟩ := S.post R (get4 l + 4) (by omega)
        have t1 := sum_eq S1 (by rw [List.length_take]; omega)
        have t2 := get_eq S2 R2 (by rw [List.length_drop]; omega)
        by_cases h4 : sumB (l.take (get4 l + 4)) ≠ get4 (l.drop (get4 l + 4))
        · have i4 : ((sumB (l.take (get4 l + 4)) : Int) == (get4 (l.drop (get4 l + 4)) : Int)) = false := by
            simp only [beq_eq_false_iff_ne, ne_eq]; omega
          rw [c27]
          simp only [h1, h2, h3, h4, if_true, if_false, ne_eq, not_false_eq_true]
          simp only [S27, hln, Option.bind_some, bin_lss, i1, decide_false, cond_bool, cond_false, eg, bin_gtr, gt_iff_lt, i2, cv, bin_add, w4, w8, i3, e1, e2, t1, t2, bin_neq, bne, i4, Bool.not_false, cond_true, ans_one, Int.cast_ofNat_Int]
        · have i4 : ((sumB (l.take (get4 l + 4)) : Int) == (get4 (l.drop (get4 l + 4)) : Int)) = true := by
            simp only [beq_iff_eq]; omega
          rw [c27]
          simp only [h1, h2, h3, h4, if_false]
          simp only [S27, hln, Option.bind_some, bin_lss, i1, decide_false, cond_bool, cond_false, eg, bin_gtr, gt_iff_lt, i2, cv, bin_add, w4, w8, i3, e1, e2, t1, t2, bin_neq, bne, i4, Bool.not_true, ans_one, Int.cast_ofNat_Int]
end Go.Proofs.Ytmmfcgbcocmkgaa.Code
