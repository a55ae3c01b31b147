/- YtjibfbphiemljaaGreatDoorMail -/
import Derived.Test.YtjibfbphiemljaaGreatDoorPure
set_option linter.unusedSimpArgs false
set_option linter.unusedVariables false
namespace Go.Proofs.YtjibfbphiemljaaGreatDoor.Code
open Go.Fw
def cdE : El Cd 9 := ⟨Cd.cells, fun _ => rfl, by omega⟩
def kyE : El Ky 2 := ⟨fun k => [.str k.1, .str k.2], fun _ => rfl, by omega⟩
@[simp] theorem cdE_f (c : Cd) : cdE.f c = c.cells := rfl
@[simp] theorem kyE_f (k : Ky) : kyE.f k = [.str k.1, .str k.2] := rfl
abbrev SrcC (s : AVal) (h : Heap) (l : List Cd) : Prop := cdE.Src s h l
abbrev SrcK (s : AVal) (h : Heap) (l : List Ky) : Prop := kyE.Src s h l
abbrev OwnC (s : AVal) (h : Heap) (n0 : Nat) (l : List Cd) : Prop := cdE.Own s h n0 l
abbrev OwnK (s : AVal) (h : Heap) (n0 : Nat) (l : List Ky) : Prop := kyE.Own s h n0 l
theorem srcC_nil (h : Heap) : SrcC .nilSlice h [] := ⟨rfl, .inl ⟨rfl, rfl⟩⟩
theorem srcK_nil (h : Heap) : SrcK .nilSlice h [] := ⟨rfl, .inl ⟨rfl, rfl⟩⟩
theorem g_and (b c : Bool) (h : Heap) : guardV (.bool b) true (some (0, [.bool c], h)) (some (0, [skipV], h)) = some (0, [bif b then .bool c else skipV], h) := by cases b <;> rfl
theorem g_or (b c : Bool) (h : Heap) : guardV (.bool b) false (some (0, [.bool c], h)) (some (0, [skipV], h)) = some (0, [bif b then skipV else .bool c], h) := by cases b <;> rfl
theorem p_and (b c : Bool) : aPick (.bool b) (bif b then .bool c else skipV) (.bool false) = some (.bool (b && c)) := by cases b <;> rfl
theorem p_or (b c : Bool) : aPick (.bool b) (.bool true) (bif b then skipV else .bool c) = some (.bool (b || c)) := by cases b <;> rfl
noncomputable def equalL (es : Nat) (ks : List Nat) (_ : Go.Fw.Call) (xs : List AVal) (h : Heap) : Option J :=
 (aBin .lss .plain (xs.getD 3 .undef) (xs.getD 2 .undef)).bind fun v5 =>
 condV v5
 ((aIaddr es (xs.getD 0 .undef) (xs.getD 3 .undef)).bind fun v6 =>
 (aLoad h es v6).bind fun c20 =>
 (fromCells true c20).bind fun v8 =>
 (aIaddr es (xs.getD 1 .undef) (xs.getD 3 .undef)).bind fun v9 =>
 (aLoad h es v9).bind fun c13 =>
 (fromCells true c13).bind fun v11 =>
 (aBin .neq (.cells ks) v8 v11).bind fun v12 =>
 condV v12
 (some (2, [(.bool false)], h))
 ((aBin .add .plain (xs.getD 3 .undef) (.int .i64 1)).bind fun v13 =>
 some (0, [(xs.getD 0 .undef), (xs.getD 1 .undef), (xs.getD 2 .undef), v13], h)))
 (some (1, [], h))
noncomputable def equalS (es : Nat) (ks : List Nat) (call : Go.Fw.Call) (a0 a1 : AVal) (h : Heap) : Option J :=
 (aLen false a0).bind fun v1 =>
 (aLen false a1).bind fun v2 =>
 (aBin .neq .plain v1 v2).bind fun v3 =>
 condV v3
 (some (0, [(.bool false)], h))
 ((aLen false a0).bind fun v4 =>
 (loop (equalL es ks call) [a0, a1, v4, (.int .i64 0)] h).bind fun x14 =>
 bif Nat.beq x14.1 1 then some (0, [(.bool true)], x14.2.2) else
 bif Nat.beq x14.1 2 then some (0, [(x14.2.1.getD 0 .undef)], x14.2.2) else
 none)
theorem equal_of {α : Type} [DecidableEq α] {es : Nat} {E : El α es} {ks : List Nat} {call : Go.Fw.Call} (hE : ∀ x y, cellsEq ks (E.f x) (E.f y) = some (decide (x = y))) {a b : AVal} {h : Heap} {l m : List α} (A : E.Src a h l) (B : E.Src b h m) (hm : m.length ≤ 4611686018427387904) :
    equalS es ks call a b h = some (0, [.bool (decide (l = m))], h) := by
  have ea := Fw.Src.len A
  have eb := Fw.Src.len B
  by_cases hn : l.length = m.length
  · have hb : ((l.length : Int) != (m.length : Int)) = false := by simp [hn]
    have key : ∃ res, loop (equalL es ks call) [a, b, .int .i64 l.length, .int .i64 0] h = some res ∧ (res = (1, [], h) ∧ l = m ∨ res = (2, [.bool false], h) ∧ l ≠ m) := by
      refine loop_ok (fun k xs G => ∃ i, k + i = l.length ∧ G = h ∧ l.take i = m.take i ∧ xs = [a, b, .int .i64 l.length, .int .i64 (i : Int)]) _ ?_ l.length _ _ ⟨0, rfl, rfl, by simp, rfl⟩
      rintro k xs G ⟨i, hk, rfl, ht, rfl⟩
      by_cases hi : i < l.length
      · obtain ⟨p, a1, a2⟩ := El.Src.el A i hi
        obtain ⟨q, b1, b2⟩ := El.Src.el B i (by omega)
        have i1 : (i : Int) < (l.length : Int) := by omega
        have w1 : IntKind.i64.wrap ((i : Int) + 1) = ((i + 1 : Nat) : Int) := by rw [IntWalk.i64_in _ (by omega)]; omega
        have ce := hE l[i] (m[i]'(by omega))
        by_cases he : l[i] = m[i]'(by omega)
        · left
          rw [decide_eq_true he] at ce
          refine ⟨[a, b, .int .i64 l.length, .int .i64 ((i + 1 : Nat) : Int)], G, ?_, k - 1, by omega, i + 1, by omega, rfl, ?_, rfl⟩
          · simp [equalL, i1, a1, a2, b1, b2, w1, ce]
          · rw [List.take_add_one, List.take_add_one, ht, List.getElem?_eq_getElem hi, List.getElem?_eq_getElem (show i < m.length by omega), he]
        · right
          rw [decide_eq_false he] at ce
          refine ⟨1, [.bool false], G, ?_, .inr ⟨rfl, fun hh => he (by subst hh; rfl)⟩⟩
          simp [equalL, i1, a1, a2, b1, b2, ce]
      · right
        have i1 : ¬ (i : Int) < (l.length : Int) := by omega
        refine ⟨0, [], G, by simp [equalL, i1], .inl ⟨rfl, ?_⟩⟩
        rw [List.take_of_length_le (by omega), List.take_of_length_le (by omega)] at ht
        exact ht
    obtain ⟨res, e1, ⟨rfl, he⟩ | ⟨rfl, he⟩⟩ := key
    · rw [decide_eq_true he]; simp [equalS, ea, eb, hb, e1]
    · rw [decide_eq_false he]; simp [equalS, ea, eb, hb, e1, beq_dec]
  · have hb : ((l.length : Int) != (m.length : Int)) = true := by simp only [bne_iff_ne, ne_eq]; omega
    have he : l ≠ m := fun hh => hn (by rw [hh])
    simp [equalS, ea, eb, hb, he]
theorem cdE_eq (x y : Cd) : cellsEq [2, 2, 1, 1, 1, 1, 1, 1, 0] (cdE.f x) (cdE.f y) = some (decide (x = y)) := by
  obtain ⟨a, i, s, o, l, t, k, n, g⟩ := x
  obtain ⟨a', i', s', o', l', t', k', n', g'⟩ := y
  simp only [cdE_f, Cd.cells, cellsEq_str, cellsEq_int, cellsEq_bool, cellsEq_nil, Option.bind_some, Option.some.injEq]
  rw [Bool.eq_iff_iff]
  simp [Cd.mk.injEq]
theorem kyE_eq (x y : Ky) : cellsEq [2, 2] (kyE.f x) (kyE.f y) = some (decide (x = y)) := by
  obtain ⟨a, i⟩ := x
  obtain ⟨a', i'⟩ := y
  simp only [kyE_f, cellsEq_str, cellsEq_nil, Option.bind_some, Option.some.injEq]
  rw [Bool.eq_iff_iff]
  simp
theorem ceq_ok {a b : AVal} {h : Heap} {l m : List Cd} (A : SrcC a h l) (B : SrcC b h m) (hm : m.length ≤ 4611686018427387904) : E tbl 29 [a, b] h = some (.bool (decide (l = m)), h) := by
  rw [c29, show S29 = equalS 9 [2, 2, 1, 1, 1, 1, 1, 1, 0] from rfl, equal_of cdE_eq A B hm]
  rfl
theorem keq_ok {a b : AVal} {h : Heap} {l m : List Ky} (A : SrcK a h l) (B : SrcK b h m) (hm : m.length ≤ 4611686018427387904) : E tbl 30 [a, b] h = some (.bool (decide (l = m)), h) := by
  rw [c30, show S30 = equalS 2 [2, 2] from rfl, equal_of kyE_eq A B hm]
  rfl
theorem ceq5_ok {a b : AVal} {h : Heap} {l m : List Cd} (A : SrcC a h l) (B : SrcC b h m) (hm : m.length ≤ 4611686018427387904) : E tbl 31 [a, b] h = some (.bool (decide (l = m)), h) := by
  rw [c31, show S31 = equalS 9 [2, 2, 1, 1, 1, 1, 1, 1, 0] from rfl, equal_of cdE_eq A B hm]
  rfl
theorem keq5_ok {a b : AVal} {h : Heap} {l m : List Ky} (A : SrcK a h l) (B : SrcK b h m) (hm : m.length ≤ 4611686018427387904) : E tbl 32 [a, b] h = some (.bool (decide (l = m)), h) := by
  rw [c32, show S32 = equalS 2 [2, 2] from rfl, equal_of kyE_eq A B hm]
  rfl
abbrev Ms.cells (m : Ms) (sc sk : AVal) : List AVal := [.int .i64 m.kind, .int .i64 m.op, .int .i64 m.st, .int .i64 m.code, .int .i64 m.tag, .int .i64 m.n, .int .i64 m.seq, .str m.ka, .str m.ki, .bool m.full, .int .u32 m.sum, sc, sk]
structure MsAt (h : Heap) (m : Ms) (sc sk : AVal) : Prop where
  cards : SrcC sc h m.cards
  keys : SrcK sk h m.keys
theorem MsAt.went {h H : Heap} {m : Ms} {sc sk : AVal} (A : MsAt h m sc sk) (W : Went h H) : MsAt H m sc sk := ⟨W.src A.cards, W.src A.keys⟩
theorem msAt_no (k : Int) (h : Heap) : MsAt h (noM k) .nilSlice .nilSlice := ⟨srcC_nil h, srcK_nil h⟩
theorem ms_eq (m m' : Ms) : decide (m = m') = (decide (m.cards = m'.cards) && decide (m.keys = m'.keys) && (m.kind == m'.kind) && (m.op == m'.op) && (m.st == m'.st) && (m.code == m'.code) && (m.tag == m'.tag) && (m.n == m'.n) && (m.seq == m'.seq) && ((m.ka == m'.ka) && (m.ki == m'.ki)) && (m.full == m'.full) && (m.sum == m'.sum)) := by
  cases m; cases m'
  rw [Bool.eq_iff_iff]
  simp only [decide_eq_true_eq, Ms.mk.injEq, Bool.and_eq_true, beq_iff_eq]
  constructor
  · rintro ⟨a1, a2, a3, a4, a5, a6, a7, a8, a9, a10, a11, a12, a13⟩
    exact ⟨⟨⟨⟨⟨⟨⟨⟨⟨⟨⟨a12, a13⟩, a1⟩, a2⟩, a3⟩, a4⟩, a5⟩, a6⟩, a7⟩, a8, a9⟩, a10⟩, a11⟩
  · rintro ⟨⟨⟨⟨⟨⟨⟨⟨⟨⟨⟨a12, a13⟩, a1⟩, a2⟩, a3⟩, a4⟩, a5⟩, a6⟩, a7⟩, a8, a9⟩, a10⟩, a11⟩
    exact ⟨a1, a2, a3, a4, a5, a6, a7, a8, a9, a10, a11, a12, a13⟩
theorem pff : aPick (.bool false) (.bool true) (.bool false) = some (.bool false) := rfl
theorem same_ok {h : Heap} {m m' : Ms} {sc sk sc' sk' : AVal} (A : MsAt h m sc sk) (B : MsAt h m' sc' sk') (h1 : m'.cards.length ≤ 4611686018427387904) (h2 : m'.keys.length ≤ 4611686018427387904) :
    E tbl 14 [.agg (m.cells sc sk), .agg (m'.cells sc' sk')] h = some (.bool (decide (m = m')), h) := by
  have e1 := ceq_ok A.cards B.cards h1
  have e2 := keq_ok A.keys B.keys h2
  rw [ms_eq, c14]
  by_cases hc : m.cards = m'.cards
  · by_cases hk : m.keys = m'.keys
    · rw [decide_eq_true hc] at e1 ⊢
      rw [decide_eq_true hk] at e2 ⊢
      simp only [S14, Ms.cells, cellsQ_agg, Option.bind_some, rdL_z, rdL_t, rdL_s, Option.map_some, from_one, from_agg, e1, e2, un_not, Bool.not_true, g_or, p_or, pff, Bool.or_self, List.getD_cons_zero, cond_bool, cond_false, bin_eql, g_and, p_and, bin_cells_eq, cellsEq_str, cellsEq_nil, bin_bool_eql, ans_one, Bool.and_true, Bool.true_and]
    · rw [decide_eq_true hc] at e1 ⊢
      rw [decide_eq_false hk] at e2 ⊢
      simp [S14, rdL_z, rdL_t, rdL_s, e1, e2]
  · rw [decide_eq_false hc] at e1 ⊢
    simp [S14, rdL_z, rdL_t, rdL_s, e1]
theorem same6_ok {h : Heap} {m m' : Ms} {sc sk sc' sk' : AVal} (A : MsAt h m sc sk) (B : MsAt h m' sc' sk') (h1 : m'.cards.length ≤ 4611686018427387904) (h2 : m'.keys.length ≤ 4611686018427387904) :
    E tbl 15 [.agg (m.cells sc sk), .agg (m'.cells sc' sk')] h = some (.bool (decide (m = m')), h) := by
  have e1 := ceq5_ok A.cards B.cards h1
  have e2 := keq5_ok A.keys B.keys h2
  rw [ms_eq, c15]
  simp only [S15, Ms.cells, cellsQ_agg, Option.bind_some, rdL_z, rdL_t, rdL_s, Option.map_some, from_one, from_agg, e1, e2, List.getD_cons_zero, bin_eql, g_and, p_and, bin_cells_eq, cellsEq_str, cellsEq_nil, bin_bool_eql, ans_one, Bool.and_true]
  congr 3
  generalize decide (m.cards = m'.cards) = b1
  generalize decide (m.keys = m'.keys) = b2
  cases b1 <;> cases b2 <;> simp
def clr (m : Ms) : Ms :=
  if m.kind = 1 then { m with kind := 0, op := 0, st := 0, tag := 0, n := 0, seq := 0, ka := [], ki := [] }
  else if m.kind = 2 then { m with kind := 0, op := 0, code := 0, tag := 0, seq := 0, ka := [], ki := [], full := false, sum := 0, cards := [] }
  else if m.kind = 5 then { m with kind := 0, keys := [] }
  else { m with kind := 0, cards := [] }
theorem clr_zero (m : Ms) (hk : 1 ≤ m.kind ∧ m.kind ≤ 5) : decide (clr m = noM 0) = zeroB m := by
  obtain ⟨kind, op, st, code, tag, n, seq, ka, ki, full, sum, cards, keys⟩ := m
  have ek : kind = 1 ∨ kind = 2 ∨ kind = 3 ∨ kind = 4 ∨ kind = 5 := by simp only at hk; omega
  rw [Bool.eq_iff_iff]
  rcases ek with rfl | rfl | rfl | rfl | rfl <;> simp [clr, noM, zeroB, and_assoc, and_comm, and_left_comm]
abbrev zcells : List AVal := [.int .i64 0, .int .i64 0, .int .i64 0, .int .i64 0, .int .i64 0, .int .i64 0, .int .i64 0, .str [], .str [], .bool false, .int .u32 0, .nilSlice, .nilSlice]
theorem zero1 (call : Go.Fw.Call) (op st code tag n seq : Int) (ka ki : List UInt8) (full : Bool) (sum : Int) (sc sk : AVal) (h : Heap) : S49 call (.agg [.int .i64 1, .int .i64 op, .int .i64 st, .int .i64 code, .int .i64 tag, .int .i64 n, .int .i64 seq, .str ka, .str ki, .bool full, .int .u32 sum, sc, sk]) h = (call 14 [.agg [.int .i64 0, .int .i64 0, .int .i64 0, .int .i64 code, .int .i64 0, .int .i64 0, .int .i64 0, .str [], .str [], .bool full, .int .u32 sum, sc, sk], .agg zcells] h).bind fun r => some (0, [r.1], r.2) := by kernel_rfl
theorem zero2 (call : Go.Fw.Call) (op st code tag n seq : Int) (ka ki : List UInt8) (full : Bool) (sum : Int) (sc sk : AVal) (h : Heap) : S49 call (.agg [.int .i64 2, .int .i64 op, .int .i64 st, .int .i64 code, .int .i64 tag, .int .i64 n, .int .i64 seq, .str ka, .str ki, .bool full, .int .u32 sum, sc, sk]) h = (call 14 [.agg [.int .i64 0, .int .i64 0, .int .i64 st, .int .i64 0, .int .i64 0, .int .i64 n, .int .i64 0, .str [], .str [], .bool false, .int .u32 0, .nilSlice, sk], .agg zcells] h).bind fun r => some (0, [r.1], r.2) := by kernel_rfl
theorem zero3 (call : Go.Fw.Call) (op st code tag n seq : Int) (ka ki : List UInt8) (full : Bool) (sum : Int) (sc sk : AVal) (h : Heap) : S49 call (.agg [.int .i64 3, .int .i64 op, .int .i64 st, .int .i64 code, .int .i64 tag, .int .i64 n, .int .i64 seq, .str ka, .str ki, .bool full, .int .u32 sum, sc, sk]) h = (call 14 [.agg [.int .i64 0, .int .i64 op, .int .i64 st, .int .i64 code, .int .i64 tag, .int .i64 n, .int .i64 seq, .str ka, .str ki, .bool full, .int .u32 sum, .nilSlice, sk], .agg zcells] h).bind fun r => some (0, [r.1], r.2) := by kernel_rfl
theorem zero4 (call : Go.Fw.Call) (op st code tag n seq : Int) (ka ki : List UInt8) (full : Bool) (sum : Int) (sc sk : AVal) (h : Heap) : S49 call (.agg [.int .i64 4, .int .i64 op, .int .i64 st, .int .i64 code, .int .i64 tag, .int .i64 n, .int .i64 seq, .str ka, .str ki, .bool full, .int .u32 sum, sc, sk]) h = (call 14 [.agg [.int .i64 0, .int .i64 op, .int .i64 st, .int .i64 code, .int .i64 tag, .int .i64 n, .int .i64 seq, .str ka, .str ki, .bool full, .int .u32 sum, .nilSlice, sk], .agg zcells] h).bind fun r => some (0, [r.1], r.2) := by kernel_rfl
theorem zero5 (call : Go.Fw.Call) (op st code tag n seq : Int) (ka ki : List UInt8) (full : Bool) (sum : Int) (sc sk : AVal) (h : Heap) : S49 call (.agg [.int .i64 5, .int .i64 op, .int .i64 st, .int .i64 code, .int .i64 tag, .int .i64 n, .int .i64 seq, .str ka, .str ki, .bool full, .int .u32 sum, sc, sk]) h = (call 14 [.agg [.int .i64 0, .int .i64 op, .int .i64 st, .int .i64 code, .int .i64 tag, .int .i64 n, .int .i64 seq, .str ka, .str ki, .bool full, .int .u32 sum, sc, .nilSlice], .agg zcells] h).bind fun r => some (0, [r.1], r.2) := by kernel_rfl
theorem zero_ok {h : Heap} {m : Ms} {sc sk : AVal} (A : MsAt h m sc sk) (hk : 1 ≤ m.kind ∧ m.kind ≤ 5) : E tbl 49 [.agg (m.cells sc sk)] h = some (.bool (zeroB m), h) := by
  rw [← clr_zero m hk, c49]
  obtain ⟨kind, op, st, code, tag, n, seq, ka, ki, full, sum, cards, keys⟩ := m
  have ek : kind = 1 ∨ kind = 2 ∨ kind = 3 ∨ kind = 4 ∨ kind = 5 := by simp only at hk; omega
  have fin : ∀ (m' : Ms) (sc' sk' : AVal), MsAt h m' sc' sk' → ((E tbl 14 [.agg (m'.cells sc' sk'), .agg ((noM 0).cells .nilSlice .nilSlice)] h).bind fun r => some (0, [r.1], r.2)).bind ansOf = some (.bool (decide (m' = noM 0)), h) := by
    intro m' sc' sk' A'
    rw [same_ok A' (msAt_no 0 h) (by simp [noM]) (by simp [noM])]
    rfl
  rcases ek with rfl | rfl | rfl | rfl | rfl
  · rw [zero1 (E tbl)]; exact fin (clr ⟨1, op, st, code, tag, n, seq, ka, ki, full, sum, cards, keys⟩) sc sk ⟨A.cards, A.keys⟩
  · rw [zero2 (E tbl)]; exact fin (clr ⟨2, op, st, code, tag, n, seq, ka, ki, full, sum, cards, keys⟩) .nilSlice sk ⟨srcC_nil h, A.keys⟩
  · rw [zero3 (E tbl)]; exact fin (clr ⟨3, op, st, code, tag, n, seq, ka, ki, full, sum, cards, keys⟩) .nilSlice sk ⟨srcC_nil h, A.keys⟩
  · rw [zero4 (E tbl)]; exact fin (clr ⟨4, op, st, code, tag, n, seq, ka, ki, full, sum, cards, keys⟩) .nilSlice sk ⟨srcC_nil h, A.keys⟩
  · rw [zero5 (E tbl)]; exact fin (clr ⟨5, op, st, code, tag, n, seq, ka, ki, full, sum, cards, keys⟩) sc .nilSlice ⟨A.cards, srcK_nil h⟩
theorem asked_ok (m : Ms) (sc sk : AVal) (h : Heap) : E tbl 69 [.agg (m.cells sc sk)] h = some (.bool ((m.kind == 1) || (m.kind == 2)), h) := by
  rw [c69]
  simp only [S69, cellsQ_agg, Ms.cells, Option.bind_some, rdL_z, rdL_t, Option.map_some, from_one, bin_eql, g_or, p_or, List.getD_cons_zero, ans_one]
theorem within_ok (n : Int) (h : Heap) : E tbl 51 [.int .i64 n] h = some (.bool (decide (Byt n)), h) := by
  have : decide (Byt n) = (decide (n ≥ 0) && decide (n ≤ 255)) := by rw [Bool.eq_iff_iff, decide_eq_true_eq]; simp [Byt]
  rw [c51, this]
  simp only [S51, Option.bind_some, bin_geq, bin_leq, g_and, p_and, List.getD_cons_zero, ans_one]
theorem op_ok (m : Ms) (sc sk : AVal) (h : Heap) : E tbl 50 [.agg (m.cells sc sk)] h = some (.bool (opB m), h) := by
  have e1 := asked_ok m sc sk h
  have e2 := names_ok m.ka m.ki h
  have hb : opB m = (!((m.kind == 1) || (m.kind == 2)) || (bif m.op == 5 then ((m.ka == []) && (m.ki == [])) else (decide (m.op ≥ 1) && decide (m.op < 5) && (nameB m.ka && nameB m.ki)))) := by
    rw [Bool.eq_iff_iff]
    unfold opB keyB
    by_cases h1 : m.kind = 1 ∨ m.kind = 2
    · have : ((m.kind == 1) || (m.kind == 2)) = true := by simpa using h1
      rw [if_pos h1, this]
      by_cases h5 : m.op = 5
      · simp [h5]
      · have : (m.op == 5) = false := by simpa using h5
        simp [h5, and_assoc]
    · have : ((m.kind == 1) || (m.kind == 2)) = false := by simpa using h1
      rw [if_neg h1, this]
      simp
  rw [hb, c50]
  generalize ((m.kind == 1) || (m.kind == 2)) = b1 at *
  generalize (nameB m.ka && nameB m.ki) = b2 at *
  generalize q5 : (m.op == 5) = b5
  generalize q6 : decide (m.op ≥ 1) = b6
  generalize q7 : decide (m.op < 5) = b7
  cases b1 <;> cases b5 <;> cases b6 <;> cases b7 <;> simp [S50, rdL_z, rdL_t, rdL_s, e1, e2, q5, q6, q7, aFill]
theorem tells_card (h : Heap) : Tells (E tbl) cdE (.func 53 []) (fun c => !cardB c) h := by
  refine ⟨(53, []), rfl, fun c => ?_⟩
  show E tbl 53 [.agg c.cells] h = _
  have e := card_ok c h
  rw [c53]
  simp only [S53, cellsQ_agg, Cd.cells, Option.bind_some, rdL_z, rdL_t, Option.map_some, from_agg, e, un_not, ans_one]
theorem tells_key (h : Heap) : Tells (E tbl) kyE (.func 56 []) (fun k => !keyB k) h := by
  refine ⟨(56, []), rfl, fun k => ?_⟩
  show E tbl 56 [.agg [.str k.1, .str k.2]] h = _
  have e := names_ok k.1 k.2 h
  rw [c56]
  simp only [S56, cellsQ_agg, Option.bind_some, rdL_z, rdL_t, Option.map_some, from_agg, e, un_not, ans_one, keyB]
theorem first_ge {α : Type} (p : α → Bool) (l : List α) : decide (firstI p l ≥ 0) = l.any p := by
  rw [Bool.eq_iff_iff, decide_eq_true_eq, List.any_eq_true]
  rcases firstI_cases p l with ⟨h1, h2⟩ | ⟨i, hi, h1, h2, _⟩
  · rw [h1]
    exact ⟨fun h => by omega, fun ⟨x, hx, hp⟩ => by rw [h2 x hx] at hp; cases hp⟩
  · rw [h1]
    exact ⟨fun _ => ⟨_, List.getElem_mem hi, h2⟩, fun _ => by omega⟩
theorem any_not {α : Type} (p : α → Bool) (l : List α) : l.any (fun x => !p x) = !l.all p := by
  rw [List.not_all_eq_any_not]
theorem ccont_ok {s : AVal} {h : Heap} {l : List Cd} (S : SrcC s h l) (hl : l.length ≤ 1000000) : E tbl 52 [s, .func 53 []] h = some (.bool (!l.all cardB), h) := by
  have e : E tbl 70 [s, .func 53 []] h = some (.int .i64 (firstI (fun c => !cardB c) l), h) := by
    rw [c70, show S70 = indexFuncS 9 from rfl, indexFunc_of S hl (tells_card h)]
    rfl
  rw [c52]
  simp only [S52, e, Option.bind_some, bin_geq, first_ge, any_not, ans_one]
theorem kcont_ok {s : AVal} {h : Heap} {l : List Ky} (S : SrcK s h l) (hl : l.length ≤ 1000000) : E tbl 55 [s, .func 56 []] h = some (.bool (!l.all keyB), h) := by
  have e : E tbl 73 [s, .func 56 []] h = some (.int .i64 (firstI (fun c => !keyB c) l), h) := by
    rw [c73, show S73 = indexFuncS 2 from rfl, indexFunc_of S hl (tells_key h)]
    rfl
  rw [c55]
  simp only [S55, e, Option.bind_some, bin_geq, first_ge, any_not, ans_one]
def erW (p : List UInt8 × Int) : Er := if p.2 = 0 then .nil else .fault p.1 (.code p.2)
theorem right_ok {h : Heap} {m : Ms} {sc sk : AVal} (A : MsAt h m sc sk) :
    ∃ v H, E tbl 22 [.agg (m.cells sc sk)] h = some (v, H) ∧ Rep H H.next (erW (whyM m)) v ∧ Went h H := by
  have fin : ∀ (t : List UInt8) (k : Int), k ≠ 0 → whyM m = (t, k) → (∀ r, E tbl 48 [.str t, .int .i64 k] h = some r → E tbl 22 [.agg (m.cells sc sk)] h = some (r.1, r.2)) → ∃ v H, E tbl 22 [.agg (m.cells sc sk)] h = some (v, H) ∧ Rep H H.next (erW (whyM m)) v ∧ Went h H := by
    intro t k hk hw he
    obtain ⟨v, H, e1, r1, W1⟩ := new_ok t k h
    exact ⟨v, H, he _ e1, by rw [hw, erW, if_neg hk]; rw [if_neg hk] at r1; exact r1, W1⟩
  by_cases h1 : m.kind < 1 ∨ 5 < m.kind
  · refine fin tKind 12 (by decide) (by unfold whyM; rw [if_pos h1]) fun r hr => ?_
    have q : (decide (m.kind < 1) || decide (m.kind > 5)) = true := by simpa using h1
    rw [c22]
    simp only [S22, cellsQ_agg, Ms.cells, Option.bind_some, rdL_z, rdL_s, rdL_t, Option.map_some, from_one, bin_lss, bin_gtr, g_or, p_or, List.getD_cons_zero, q, cond_bool, cond_true, hr, ans_one]
  · have hk : 1 ≤ m.kind ∧ m.kind ≤ 5 := by omega
    have q1 : (decide (m.kind < 1) || decide (m.kind > 5)) = false := by simp; omega
    have z1 := zero_ok A hk
    by_cases h2 : zeroB m = false
    · refine fin tZero 12 (by decide) (by unfold whyM; rw [if_neg h1, if_pos h2]) fun r hr => ?_
      rw [h2] at z1
      rw [c22]
      simp only [S22, cellsQ_agg, Ms.cells, Option.bind_some, rdL_z, rdL_s, rdL_t, Option.map_some, from_one, bin_lss, bin_gtr, g_or, p_or, List.getD_cons_zero, q1, cond_bool, cond_false, from_agg, z1, un_not, Bool.not_false, cond_true, hr, ans_one]
    · have h2' : zeroB m = true := by simpa using h2
      rw [h2'] at z1
      have o1 := op_ok m sc sk h
      by_cases h3 : opB m = false
      · refine fin tOp 12 (by decide) (by unfold whyM; rw [if_neg h1, if_neg h2, if_pos h3]) fun r hr => ?_
        rw [h3] at o1
        rw [c22]
        simp only [S22, cellsQ_agg, Ms.cells, Option.bind_some, rdL_z, rdL_s, rdL_t, Option.map_some, from_one, bin_lss, bin_gtr, g_or, p_or, List.getD_cons_zero, q1, cond_bool, cond_false, from_agg, z1, o1, un_not, Bool.not_false, Bool.not_true, cond_true, hr, ans_one]
      · have h3' : opB m = true := by simpa using h3
        rw [h3'] at o1
        have w1 := within_ok m.code h
        have w2 := within_ok m.st h
        have nb : numB m = !(!decide (Byt m.code) || !decide (Byt m.st) || decide (m.seq < -1)) := by
          unfold numB
          have : decide (-1 ≤ m.seq) = !decide (m.seq < -1) := by rw [Bool.eq_iff_iff]; simp
          rw [this]
          cases decide (Byt m.code) <;> cases decide (Byt m.st) <;> cases decide (m.seq < -1) <;> rfl
        by_cases h4 : numB m = false
        · refine fin tNumber 1 (by decide) (by unfold whyM; rw [if_neg h1, if_neg h2, if_neg h3, if_pos h4]) fun r hr => ?_
          rw [nb] at h4
          simp only [Bool.not_eq_false'] at h4
          rw [c22]
          simp only [S22, cellsQ_agg, Ms.cells, Option.bind_some, rdL_z, rdL_s, rdL_t, Option.map_some, from_one, bin_lss, bin_gtr, g_or, p_or, List.getD_cons_zero, q1, cond_bool, cond_false, from_agg, z1, o1, un_not, Bool.not_true, w1, w2, h4, cond_true, hr, ans_one]
        · have h4' : (!decide (Byt m.code) || !decide (Byt m.st) || decide (m.seq < -1)) = false := by
            have : numB m = true := by simpa using h4
            rw [nb] at this
            simpa using this
          have lc := Fw.Src.len A.cards
          have lk := Fw.Src.len A.keys
          by_cases h5 : 64 < m.cards.length ∨ 64 < m.keys.length
          · refine fin tCards 3 (by decide) (by unfold whyM; rw [if_neg h1, if_neg h2, if_neg h3, if_neg h4, if_pos h5]) fun r hr => ?_
            have q5 : (decide ((m.cards.length : Int) > 64) || decide ((m.keys.length : Int) > 64)) = true := by simp; omega
            rw [c22]
            simp only [S22, cellsQ_agg, Ms.cells, Option.bind_some, rdL_z, rdL_s, rdL_t, Option.map_some, from_one, bin_lss, bin_gtr, g_or, p_or, List.getD_cons_zero, q1, cond_bool, cond_false, from_agg, z1, o1, un_not, Bool.not_true, w1, w2, h4', lc, lk, q5, cond_true, hr, ans_one]
          · have q5 : (decide ((m.cards.length : Int) > 64) || decide ((m.keys.length : Int) > 64)) = false := by simp; omega
            have cc := ccont_ok A.cards (by omega)
            have kc := kcont_ok A.keys (by omega)
            by_cases h6 : m.cards.all cardB = false ∨ m.keys.all keyB = false
            · refine fin tCard 1 (by decide) (by unfold whyM; rw [if_neg h1, if_neg h2, if_neg h3, if_neg h4, if_neg h5, if_pos h6]) fun r hr => ?_
              have q6 : (!m.cards.all cardB || !m.keys.all keyB) = true := by
                rcases h6 with h6 | h6 <;> simp [h6]
              rw [c22]
              simp only [S22, cellsQ_agg, Ms.cells, Option.bind_some, rdL_z, rdL_s, rdL_t, Option.map_some, from_one, bin_lss, bin_gtr, g_or, p_or, List.getD_cons_zero, q1, cond_bool, cond_false, from_agg, z1, o1, un_not, Bool.not_true, w1, w2, h4', lc, lk, q5, cc, kc, q6, cond_true, hr, ans_one]
            · have q6 : (!m.cards.all cardB || !m.keys.all keyB) = false := by
                have a1 : m.cards.all cardB = true := by
                  cases hq : m.cards.all cardB with
                  | true => rfl
                  | false => exact (h6 (.inl hq)).elim
                have a2 : m.keys.all keyB = true := by
                  cases hq : m.keys.all keyB with
                  | true => rfl
                  | false => exact (h6 (.inr hq)).elim
                rw [a1, a2]; rfl
              refine ⟨.nilIface, h, ?_, ?_, Went.refl _⟩
              · rw [c22]
                simp only [S22, cellsQ_agg, Ms.cells, Option.bind_some, rdL_z, rdL_s, rdL_t, Option.map_some, from_one, bin_lss, bin_gtr, g_or, p_or, List.getD_cons_zero, q1, cond_bool, cond_false, from_agg, z1, o1, un_not, Bool.not_true, w1, w2, h4', lc, lk, q5, cc, kc, q6, ans_one]
              · have : whyM m = ([], 0) := by unfold whyM; rw [if_neg h1, if_neg h2, if_neg h3, if_neg h4, if_neg h5, if_neg h6]
                rw [this]
                rfl
end Go.Proofs.YtjibfbphiemljaaGreatDoor.Code
