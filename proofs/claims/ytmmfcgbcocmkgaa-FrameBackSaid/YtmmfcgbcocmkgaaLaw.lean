/- Chapter 3: frames: what the functions answer. -/
import Derived.Test.YtmmfcgbcocmkgaaCode
import Derived.Test.YtmmfcgbcocmkgaaFwZm
namespace Go.Proofs.Ytmmfcgbcocmkgaa.Code
set_option linter.unusedSimpArgs false
set_option linter.unusedVariables false
open Go.Fw

theorem within_ok : WithinOk (E tbl) 16 := by
  intro a lo hi h h0 h1 h2
  rw [c16]
  rw [show S16 = withinS from rfl, withinS_eq _ a lo hi (by omega) h1 (by omega)]
  rfl

theorem sum_step (x : Nat) (c : UInt8) (h : Heap) (hx : x < 4294967296) :
    ((aBin .mul .plain (.int .u32 (x : Int)) (.int .u32 31)).bind fun v6 => (aConv (.toInt .u32) (.int .u8 (c.toNat : Int)) h).bind fun r7 => (aBin .add .plain v6 r7.1).bind fun v8 => (aBin .add .plain v8 (.int .u32 7)).bind fun v9 => some (v9, r7.2)) = some (.int .u32 (sumStep x c : Int), h) := by
  have hc := c.toNat_lt
  have e : IntKind.u32.wrap (IntKind.u32.wrap (IntKind.u32.wrap ((x : Int) * 31) + IntKind.u32.wrap (c.toNat : Int)) + 7) = (sumStep x c : Int) := by
    unfold sumStep
    rw [IntKind.wrap_u32, IntKind.wrap_u32, IntKind.wrap_u32, IntKind.wrap_u32]
    omega
  simp [aConv, e]

theorem sum_eq {s : AVal} {h : Heap} {l : List UInt8} (S : Bs s h l) (hl : l.length ≤ 1000000000000000) : E tbl 13 [s] h = some (.int .u32 (sumB l : Int), h) := by
  have key := loop_ok (f := L13_0 (E tbl)) (fun m xs G => ∃ i : Nat, G = h ∧ m + i = l.length ∧ xs = [.int .u32 (sumB (l.take i) : Int), s, .int .i64 l.length, .int .i64 i]) (fun r => r = (1, [.int .u32 (sumB l : Int)], h)) ?_ l.length _ h ⟨0, rfl, rfl, rfl⟩
  · obtain ⟨r, e, rfl⟩ := key
    have e17 : (sumB (l.take 0) : Int) = 17 := by simp [sumB]
    rw [e17] at e
    simp only [Int.cast_ofNat_Int] at e
    rw [c13]
    simp [S13, S.len, e, beq_dec]
  · rintro m xs G ⟨i, rfl, m1, rfl⟩
    by_cases h1 : i < l.length
    · left
      have i1 : (i : Int) < (l.length : Int) := by omega
      have w1 : IntKind.i64.wrap ((i : Int) + 1) = ((i + 1 : Nat) : Int) := wrap_succ _ (by omega)
      obtain ⟨a, e1, e2⟩ := Src.byte S i h1
      rw [List.getD_eq_getElem?_getD, List.getElem?_eq_getElem h1, Option.getD_some] at e2
      have e3 := sum_step (sumB (l.take i)) l[i] G (sumB_lt _)
      rw [← sumB_take l i h1] at e3
      refine ⟨_, G, ?_, m - 1, by omega, i + 1, rfl, by omega, rfl⟩
      simp only [Option.bind_eq_some_iff, Option.some.injEq, Prod.mk.injEq] at e3
      obtain ⟨v6, x6, r7, x7, v8, x8, v9, x9, x10, x11⟩ := e3
      subst x10 x11
      simp only [L13_0, List.getD_cons_zero, List.getD_cons_succ, bin_lss, i1, decide_true, Option.bind_some, cond_bool, cond_true, e1, e2, from_one, x6, x7, x8, x9, bin_add, w1]
    · right
      obtain rfl : i = l.length := by omega
      refine ⟨0, [.int .u32 (sumB (l.take l.length) : Int)], G, by simp [L13_0], ?_⟩
      rw [List.take_length]

theorem rsum_eq {s : AVal} {h : Heap} {l : List UInt8} (S : Bs s h l) (hl : l.length ≤ 1000000000000000) : E tbl 14 [s] h = some (.int .u32 (sumB l : Int), h) := by
  have key := loop_ok (f := L14_0 (E tbl)) (fun m xs G => ∃ i : Nat, G = h ∧ m + i = l.length ∧ xs = [s, .int .u32 (sumB (l.take i) : Int), .int .i64 i]) (fun r => r = (1, [.int .u32 (sumB l : Int)], h)) ?_ l.length _ h ⟨0, rfl, rfl, rfl⟩
  · obtain ⟨r, e, rfl⟩ := key
    have e17 : (sumB (l.take 0) : Int) = 17 := by simp [sumB]
    rw [e17] at e
    simp only [Int.cast_ofNat_Int] at e
    rw [c14]
    simp [S14, e, beq_dec]
  · have hln := S.len
    rintro m xs G ⟨i, rfl, m1, rfl⟩
    by_cases h1 : i < l.length
    · left
      have i1 : (i : Int) < (l.length : Int) := by omega
      have w1 : IntKind.i64.wrap ((i : Int) + 1) = ((i + 1 : Nat) : Int) := wrap_succ _ (by omega)
      obtain ⟨a, e1, e2⟩ := Src.byte S i h1
      rw [List.getD_eq_getElem?_getD, List.getElem?_eq_getElem h1, Option.getD_some] at e2
      have e3 := sum_step (sumB (l.take i)) l[i] G (sumB_lt _)
      rw [← sumB_take l i h1] at e3
      refine ⟨_, G, ?_, m - 1, by omega, i + 1, rfl, by omega, rfl⟩
      simp only [Option.bind_eq_some_iff, Option.some.injEq, Prod.mk.injEq] at e3
      obtain ⟨v6, x6, r7, x7, v8, x8, v9, x9, x10, x11⟩ := e3
      subst x10 x11
      simp only [L14_0, List.getD_cons_zero, List.getD_cons_succ, hln, bin_lss, i1, decide_true, Option.bind_some, cond_bool, cond_true, e1, e2, from_one, x6, x7, x8, x9, bin_add, w1]
    · right
      obtain rfl : i = l.length := by omega
      refine ⟨0, [.int .u32 (sumB (l.take l.length) : Int)], G, by simp [L14_0, hln], ?_⟩
      rw [List.take_length]

theorem toU32 (c : UInt8) (h : Heap) : aConv (.toInt .u32) (.int .u8 (c.toNat : Int)) h = some (.int .u32 (c.toNat : Int), h) := by
  have hc := c.toNat_lt
  simp only [aConv, IntWalk.u32_in _ (show 0 ≤ (c.toNat : Int) ∧ (c.toNat : Int) ≤ 4294967295 by omega)]
theorem toI64 (c : UInt8) (h : Heap) : aConv (.toInt .i64) (.int .u8 (c.toNat : Int)) h = some (.int .i64 (c.toNat : Int), h) := by
  have hc := c.toNat_lt
  simp only [aConv, IntWalk.i64_in _ (show -9223372036854775808 ≤ (c.toNat : Int) ∧ (c.toNat : Int) ≤ 9223372036854775807 by omega)]

theorem four_of (l : List UInt8) (h : 4 ≤ l.length) : ∃ a b c d r, l = a :: b :: c :: d :: r := by
  match l, h with
  | a :: b :: c :: d :: r, _ => exact ⟨a, b, c, d, r, rfl⟩
  | [], h | [_], h | [_, _], h | [_, _, _], h => simp at h

/-- One byte more of a number. -/
theorem get_step (x : Nat) (c : UInt8) (h : Heap) (hx : x < 16777216) :
    ((aBin .shl .plain (.int .u32 (x : Int)) (.int .u64 8)).bind fun v7 => (aConv (.toInt .u32) (.int .u8 (c.toNat : Int)) h).bind fun r8 => (aBin .or .plain v7 r8.1).bind fun v9 => some (v9, r8.2)) = some (.int .u32 ((256 * x + c.toNat : Nat) : Int), h) := by
  have hc := c.toNat_lt
  have e1 := shl32 x 256 8 (by omega) rfl (by omega)
  have e2 := or32 256 x c.toNat ⟨8, rfl⟩ hc (by omega)
  simp only [Int.cast_ofNat_Int] at e1
  simp only [e1, toU32, Option.bind_some, e2]

theorem get_eq {s : AVal} {h : Heap} {l : List UInt8} (S : Bs s h l) (R : El.Room s) (hl : 4 ≤ l.length) : E tbl 29 [s] h = some (.int .u32 (get4 l : Int), h) := by
  obtain ⟨s1, e1, S1, _, _⟩ := S.pre R 4 hl
  obtain ⟨a, b, c, d, r, rfl⟩ := four_of l hl
  simp only [List.take_succ_cons, List.take_zero] at S1
  simp only [Int.cast_ofNat_Int] at e1
  have hln := S1.len
  have ha := a.toNat_lt; have hb := b.toNat_lt; have hc := c.toNat_lt; have hd := d.toNat_lt
  have st : ∀ (i : Nat) (x : Nat) (y : UInt8), i < 4 → ([a, b, c, d])[i]? = some y → x < 16777216 → loop (L29_0 (E tbl)) [.int .u32 (x : Int), s1, .int .i64 4, .int .i64 i] h = loop (L29_0 (E tbl)) [.int .u32 ((256 * x + y.toNat : Nat) : Int), s1, .int .i64 4, .int .i64 ((i + 1 : Nat) : Int)] h := by
    intro i x y hi hy hx
    have i1 : (i : Int) < 4 := by omega
    have w1 : IntKind.i64.wrap ((i : Int) + 1) = ((i + 1 : Nat) : Int) := wrap_succ _ (by omega)
    obtain ⟨p, p1, p2⟩ := Src.byte S1 i hi
    rw [List.getD_eq_getElem?_getD, hy, Option.getD_some] at p2
    have e3 := get_step x y h hx
    simp only [Option.bind_eq_some_iff, Option.some.injEq, Prod.mk.injEq] at e3
    obtain ⟨v7, x7, r8, x8, v9, x9, x10, x11⟩ := e3
    refine loop_more ?_
    subst x10
    simp only [L29_0, List.getD_cons_zero, List.getD_cons_succ, bin_lss, i1, decide_true, Option.bind_some, cond_bool, cond_true, p1, p2, from_one, x7, x8, x9, x11, bin_add, w1]
  have s0 := st 0 0 a (by omega) rfl (by omega)
  have s1' := st 1 _ b (by omega) rfl (show 256 * 0 + a.toNat < 16777216 by omega)
  have s2 := st 2 _ c (by omega) rfl (show 256 * (256 * 0 + a.toNat) + b.toNat < 16777216 by omega)
  have s3 := st 3 _ d (by omega) rfl (show 256 * (256 * (256 * 0 + a.toNat) + b.toNat) + c.toNat < 16777216 by omega)
  have dn : loop (L29_0 (E tbl)) [.int .u32 ((256 * (256 * (256 * (256 * 0 + a.toNat) + b.toNat) + c.toNat) + d.toNat : Nat) : Int), s1, .int .i64 4, .int .i64 ((3 + 1 : Nat) : Int)] h = some (1, [.int .u32 ((256 * (256 * (256 * (256 * 0 + a.toNat) + b.toNat) + c.toNat) + d.toNat : Nat) : Int)], h) := loop_done (by simp [L29_0])
  have all := s0.trans (s1'.trans (s2.trans (s3.trans dn)))
  have eg : 256 * (256 * (256 * (256 * 0 + a.toNat) + b.toNat) + c.toNat) + d.toNat = get4 (a :: b :: c :: d :: r) := by
    show _ = ((a.toNat * 256 + b.toNat) * 256 + c.toNat) * 256 + d.toNat
    omega
  rw [eg] at all
  simp only [Int.cast_ofNat_Int] at all
  have hln4 : aLen false s1 = some (.int .i64 4) := hln
  rw [c29]
  simp [S29, e1, hln4, all, beq_dec]

theorem rget_eq {s : AVal} {h : Heap} {l : List UInt8} (S : Bs s h l) (hl : 4 ≤ l.length) : E tbl 30 [s] h = some (.int .u32 (get4 l : Int), h) := by
  obtain ⟨a, b, c, d, r, rfl⟩ := four_of l hl
  have ha := a.toNat_lt; have hb := b.toNat_lt; have hc := c.toNat_lt; have hd := d.toNat_lt
  obtain ⟨p0, q0, r0⟩ := Src.byte S 0 (by simp)
  obtain ⟨p1, q1, r1⟩ := Src.byte S 1 (by simp)
  obtain ⟨p2, q2, r2⟩ := Src.byte S 2 (by simp)
  obtain ⟨p3, q3, r3⟩ := Src.byte S 3 (by simp)
  simp only [List.getD_cons_zero, List.getD_cons_succ, Int.cast_ofNat_Int] at q0 r0 q1 r1 q2 r2 q3 r3
  have t0 := shl32 a.toNat 16777216 24 (by omega) rfl (by omega)
  have t1 := shl32 b.toNat 65536 16 (by omega) rfl (by omega)
  have t2 := shl32 c.toNat 256 8 (by omega) rfl (by omega)
  have o1 := or32 16777216 a.toNat (65536 * b.toNat) ⟨24, rfl⟩ (by omega) (by omega)
  have o2 := or32 65536 (256 * a.toNat + b.toNat) (256 * c.toNat) ⟨16, rfl⟩ (by omega) (by omega)
  have o3 := or32 256 (65536 * a.toNat + 256 * b.toNat + c.toNat) d.toNat ⟨8, rfl⟩ (by omega) (by omega)
  have k1 : 16777216 * a.toNat + 65536 * b.toNat = 65536 * (256 * a.toNat + b.toNat) := by omega
  have k2 : 65536 * (256 * a.toNat + b.toNat) + 256 * c.toNat = 256 * (65536 * a.toNat + 256 * b.toNat + c.toNat) := by omega
  have k3 : 256 * (65536 * a.toNat + 256 * b.toNat + c.toNat) + d.toNat = get4 (a :: b :: c :: d :: r) := by
    show _ = ((a.toNat * 256 + b.toNat) * 256 + c.toNat) * 256 + d.toNat
    omega
  rw [k1] at o1
  rw [k2] at o2
  rw [k3] at o3
  simp only [Int.cast_ofNat_Int] at t0 t1 t2
  rw [c30]
  simp only [S30, q0, q1, q2, q3, r0, r1, r2, r3, Option.bind_some, from_one, toU32, t0, t1, t2, o1, o2, o3, ans_one]

theorem fill4 (a b c d : Int) : aFill (reps [.int .u8 0] 4) [(0, 1, .int .u8 a), (1, 1, .int .u8 b), (2, 1, .int .u8 c), (3, 1, .int .u8 d)] = some [.int .u8 a, .int .u8 b, .int .u8 c, .int .u8 d] := by simp

theorem four_eq {s : AVal} {h : Heap} {l : List UInt8} (S : Bs s h l) (n : Nat) (hn : n < 4294967296) (hl : l.length + 4 ≤ 140737488355328) : ∃ s' h', E tbl 23 [s, .int .u32 (n : Int)] h = some (s', h') ∧ Fresh h s' h' (l ++ be4 n) := by
  obtain ⟨s1, h1, e1, F1⟩ := S.again (by omega)
  have t0 := shr32 n .u64 24 (by omega)
  have t1 := shr32 n .u64 16 (by omega)
  have t2 := shr32 n .u64 8 (by omega)
  simp only [Int.cast_ofNat_Int] at t0 t1 t2
  have u0 := toU8 (n / 2 ^ 24) .u32 h1
  have u1 := toU8 (n / 2 ^ 16) .u32 h1
  have u2 := toU8 (n / 2 ^ 8) .u32 h1
  have u3 := toU8 n .u32 h1
  have L := Fresh.lit h1 (be4 n) (n := 4) rfl true
  obtain ⟨s2, h2, e2, F2⟩ := (show Fresh h s1 (h1.alloc (byteCells (be4 n))) l from ⟨(Went.alloc h1 _).own F1.own, F1.went.trans (Went.alloc h1 _)⟩).app L.bs (by simpa using hl)
  refine ⟨s2, h2, ?_, F2⟩
  rw [c23]
  have f0 : aFill (reps [AVal.int .u8 0] 0) [] = some [] := rfl
  simp only [S23, f0, Option.bind_some, e1, t0, t1, t2, u0, u1, u2, u3, fill4]
  have eb : byteCells (be4 n) = [.int .u8 ((UInt8.ofNat (n / 2 ^ 24)).toNat : Int), .int .u8 ((UInt8.ofNat (n / 2 ^ 16)).toNat : Int), .int .u8 ((UInt8.ofNat (n / 2 ^ 8)).toNat : Int), .int .u8 ((UInt8.ofNat n).toNat : Int)] := rfl
  rw [← eb, e2]
  rfl

theorem toU32N (n : Nat) (hn : n < 4294967296) (h : Heap) : aConv (.toInt .u32) (.int .i64 (n : Int)) h = some (.int .u32 (n : Int), h) := by
  simp only [aConv, IntWalk.u32_in _ (show 0 ≤ (n : Int) ∧ (n : Int) ≤ 4294967295 by omega)]
/-- The length as it is written: of its last four bytes. -/
theorem toU32M (n : Nat) (h : Heap) : aConv (.toInt .u32) (.int .i64 (n : Int)) h = some (.int .u32 ((n % 4294967296 : Nat) : Int), h) := by
  have : IntKind.u32.wrap (n : Int) = ((n % 4294967296 : Nat) : Int) := by rw [IntKind.wrap_u32]; omega
  simp only [aConv, this]

theorem frame_eq {s : AVal} {h : Heap} {l : List UInt8} (S : Bs s h l) (hl : l.length < 4294967296) : ∃ s' h', E tbl 11 [s] h = some (s', h') ∧ Fresh h s' h' (frameB l) := by
  obtain ⟨s1, h1, e1, F1⟩ := four_eq (Bs.nil h) l.length hl (by simp)
  obtain ⟨s2, h2, e2, F2⟩ := F1.app (F1.went.src S) (by simp; omega)
  rw [List.nil_append] at F2
  have e3 := rsum_eq F2.bs (by simp; omega)
  obtain ⟨s4, h4, e4, F4⟩ := four_eq F2.bs (sumB (be4 l.length ++ l)) (sumB_lt _) (by simp; omega)
  refine ⟨s4, h4, ?_, ⟨F4.own.base F2.went.next, F2.went.trans F4.went⟩⟩
  rw [c11]
  simp only [S11, S.len, Option.bind_some, toU32N _ hl, e1, e2, e3, e4, ans_one]

theorem put_eq {h0 h : Heap} {s : AVal} {l : List UInt8} (F : Fresh h0 s h l) (n : Nat) (hl : l.length + 4 ≤ 140737488355328) : ∃ s' h', E tbl 24 [s, .int .u32 (n : Int)] h = some (s', h') ∧ Fresh h0 s' h' (l ++ be4 n) := by
  have st : ∀ (i : Nat) (x : AVal) (G : Heap) (m : List UInt8), Fresh h0 x G m → m.length + 1 ≤ 140737488355328 → i < 4 → ∃ x' G', loop (L24_0 (E tbl)) [x, .int .u32 (n : Int), .int .i64 ((i : Nat) : Int)] G = loop (L24_0 (E tbl)) [x', .int .u32 (n : Int), .int .i64 ((i : Int) - 1)] G' ∧ Fresh h0 x' G' (m ++ [UInt8.ofNat (n / 2 ^ (8 * i))]) := by
    intro i x G m Fm hm hi
    obtain ⟨x', G', e1, F1⟩ := Fm.byte (UInt8.ofNat (n / 2 ^ (8 * i))) hm
    refine ⟨x', G', loop_more ?_, F1⟩
    have i1 : (0 : Int) ≤ (i : Int) := by omega
    have w1 : IntKind.i64.wrap (8 * (i : Int)) = ((8 * i : Nat) : Int) := by rw [IntWalk.i64_in _ (by omega)]; omega
    have w2 : IntKind.i64.wrap ((i : Int) - 1) = (i : Int) - 1 := IntWalk.i64_in _ (by omega)
    have t := shr32 n .i64 (8 * i) (by omega)
    have u := toU8 (n / 2 ^ (8 * i)) .u32 G
    have f1 : aFill (reps [.int .u8 0] 1) [(0, 1, .int .u8 ((UInt8.ofNat (n / 2 ^ (8 * i))).toNat : Int))] = some [.int .u8 ((UInt8.ofNat (n / 2 ^ (8 * i))).toNat : Int)] := rfl
    simp only [L24_0, List.getD_cons_zero, List.getD_cons_succ, bin_geq, ge_iff_le, i1, decide_true, Option.bind_some, cond_bool, cond_true, bin_mul, w1, t, u, f1, e1, bin_sub, w2]
  obtain ⟨x3, G3, e3, F3⟩ := st 3 s h l F (by omega) (by omega)
  obtain ⟨x2, G2, e2, F2⟩ := st 2 x3 G3 _ F3 (by simp; omega) (by omega)
  obtain ⟨x1, G1, e1, F1⟩ := st 1 x2 G2 _ F2 (by simp; omega) (by omega)
  obtain ⟨x0, G0, e0, F0⟩ := st 0 x1 G1 _ F1 (by simp; omega) (by omega)
  have dn : loop (L24_0 (E tbl)) [x0, .int .u32 (n : Int), .int .i64 (((0 : Nat) : Int) - 1)] G0 = some (1, [x0], G0) := loop_done (by simp [L24_0])
  have c1 : ((3 : Nat) : Int) - 1 = ((2 : Nat) : Int) := rfl
  have c2 : ((2 : Nat) : Int) - 1 = ((1 : Nat) : Int) := rfl
  have c3' : ((1 : Nat) : Int) - 1 = ((0 : Nat) : Int) := rfl
  rw [c1] at e3
  rw [c2] at e2
  rw [c3'] at e1
  have all := e3.trans (e2.trans (e1.trans (e0.trans dn)))
  simp only [Int.cast_ofNat_Int] at all
  refine ⟨x0, G0, ?_, ?_⟩
  · rw [c24]
    simp [S24, all, beq_dec]
  · have eb : l ++ [UInt8.ofNat (n / 2 ^ (8 * 3))] ++ [UInt8.ofNat (n / 2 ^ (8 * 2))] ++ [UInt8.ofNat (n / 2 ^ (8 * 1))] ++ [UInt8.ofNat (n / 2 ^ (8 * 0))] = l ++ be4 n := by
      simp [be4]
    rw [← eb]
    exact F0

theorem clip_eq {h0 h : Heap} {s : AVal} {l : List UInt8} (F : Fresh h0 s h l) : ∃ s', E tbl 25 [s] h = some (s', h) ∧ Fresh h0 s' h l := by
  obtain ⟨⟨hl, ⟨rfl, h1⟩ | ⟨b, ex, rfl, h1, h2, h3⟩⟩, W⟩ := F
  · refine ⟨.nilSlice, ?_, ⟨hl, .inl ⟨rfl, h1⟩⟩, W⟩
    rw [c25]
    rfl
  · refine ⟨.slice b 0 l.length l.length 1 true, ?_, ⟨hl, .inr ⟨b, true, rfl, h1, h2, h3⟩⟩, W⟩
    rw [c25]
    simp [S25, aLen, aSliceSl, aBound]

theorem bytes_eq {s : AVal} {h : Heap} {l : List UInt8} (S : Bs s h l) (hl : l.length ≤ 8192) : ∃ s' h', E tbl 12 [s] h = some (.tuple [s', .int .i64 0], h') ∧ Fresh h s' h' (frameB l) := by
  have i1 : ¬ ((8192 : Int) < (l.length : Int)) := by omega
  obtain ⟨s1, h1, e1, F1⟩ := put_eq (Fresh.nil h) l.length (by simp)
  obtain ⟨s2, h2, e2, F2⟩ := F1.app (F1.went.src S) (by simp; omega)
  rw [List.nil_append] at F2
  have e3 := sum_eq F2.bs (by simp; omega)
  obtain ⟨s4, h4, e4, F4⟩ := put_eq F2 (sumB (be4 l.length ++ l)) (by simp; omega)
  obtain ⟨s5, e5, F5⟩ := clip_eq F4
  refine ⟨s5, h4, ?_, F5⟩
  rw [c12]
  simp only [S12, S.len, Option.bind_some, bin_gtr, gt_iff_lt, i1, decide_false, cond_bool, cond_false, toU32N l.length (by omega), e1, e2, e3, e4, e5, ans_one]
theorem bytes_no {s : AVal} {h : Heap} {m : Nat} {cs : List AVal} (S : Src 1 s h m cs) (hl : 8192 < m) : E tbl 12 [s] h = some (.tuple [.nilSlice, .int .i64 3], h) := by
  have i1 : ((8192 : Int) < (m : Int)) := by omega
  rw [c12]
  simp only [S12, S.len, Option.bind_some, bin_gtr, gt_iff_lt, i1, decide_true, cond_bool, cond_true, ans_one]

theorem bclone_eq {s : AVal} {h : Heap} {l : List UInt8} (S : Bs s h l) (hl : l.length ≤ 140737488355328) : ∃ s' h', E tbl 28 [s] h = some (s', h') ∧ Fresh h s' h' l := by
  obtain ⟨o, h', e, O, W⟩ := clone_of (bytes := 1) (zero := [.int .u8 0]) S (by omega) (by omega) (by omega)
  refine ⟨o, h', ?_, O, W⟩
  have e2 : S28 (E tbl) s h = cloneS 1 1 [.int .u8 0] s h := rfl
  rw [c28, e2, e]
  rfl
end Go.Proofs.Ytmmfcgbcocmkgaa.Code
