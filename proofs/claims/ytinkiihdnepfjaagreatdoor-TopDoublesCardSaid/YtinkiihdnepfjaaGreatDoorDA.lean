/- TopDoubles -/
import Derived.Test.YtinkiihdnepfjaaGreatDoorDS
set_option linter.unusedSimpArgs false
set_option linter.unusedVariables false
namespace Go.Proofs.YtinkiihdnepfjaaGreatDoor.Code
open Go.Fw
def okB (c : UInt8) : Bool := (decide (97 ≤ c.toNat) && decide (c.toNat ≤ 122)) || (decide (48 ≤ c.toNat) && decide (c.toNat ≤ 57))
def nameB (s : List UInt8) : Bool := decide (0 < s.length) && decide (s.length ≤ 16) && s.all okB
theorem name_ok (s : List UInt8) (h : Heap) : E tbl 99 [.str s] h = some (.bool (nameB s), h) := by
  have el : aLen true (.str s) = some (.int .i64 s.length) := rfl
  rw [c99]
  by_cases h0 : s.length = 0
  · simp [S99, el, h0, nameB]
  · have hb : ((s.length : Int) == 0) = false := by simp only [beq_eq_false_iff_ne, ne_eq]; omega
    by_cases h1 : s.length ≤ 16
    · have hg : decide ((s.length : Int) > 16) = false := by simp; omega
      have key : ∃ res, loop (L99_0 (E tbl)) [.str s, .int .i64 s.length, .int .i64 0] h = some res ∧ ((res = (1, [], h) ∧ s.all okB = true) ∨ (res = (2, [.bool false], h) ∧ s.all okB = false)) := by
        refine loop_ok (fun m xs G => ∃ i : Nat, m + i = s.length ∧ G = h ∧ (s.take i).all okB = true ∧ xs = [.str s, .int .i64 s.length, .int .i64 (i : Int)]) _ ?_ s.length _ _ ⟨0, rfl, rfl, by simp, rfl⟩
        rintro m xs G ⟨i, hm, rfl, ha, rfl⟩
        by_cases hi : i < s.length
        · have i1 : (i : Int) < (s.length : Int) := by omega
          have ix : aIndexStr (.str s) (.int .i64 (i : Int)) = some (.int .u8 ((s[i].toNat : Nat) : Int)) := by
            simp [aIndexStr, aIdx, hi]
          have w1 : IntKind.i64.wrap ((i : Int) + 1) = ((i + 1 : Nat) : Int) := by rw [IntWalk.i64_in _ (by omega)]; omega
          have ht : (s.take (i + 1)).all okB = ((s.take i).all okB && okB s[i]) := by
            have : s.take (i + 1) = s.take i ++ [s[i]] := by rw [List.take_add_one, List.getElem?_eq_getElem hi]; rfl
            rw [this, List.all_append]
            simp
          have step : L99_0 (E tbl) [.str s, .int .i64 s.length, .int .i64 (i : Int)] G = some (bif okB s[i] then (0, [.str s, .int .i64 s.length, .int .i64 ((i + 1 : Nat) : Int)], G) else (2, [.bool false], G)) := by
            generalize hx : s[i] = x at ix
            have hk : okB x = ((!decide ((x.toNat : Int) < 97) && !decide (122 < (x.toNat : Int))) || (!decide ((x.toNat : Int) < 48) && !decide (57 < (x.toNat : Int)))) := by
              rw [Bool.eq_iff_iff]
              simp only [okB, Bool.or_eq_true, Bool.and_eq_true, decide_eq_true_eq, Bool.not_eq_true', decide_eq_false_iff_not]
              omega
            rw [hk]
            cases q1 : decide ((x.toNat : Int) < 97) <;> cases q2 : decide (122 < (x.toNat : Int)) <;> cases q3 : decide ((x.toNat : Int) < 48) <;> cases q4 : decide (57 < (x.toNat : Int)) <;> simp [L99_0, i1, ix, q1, q2, q3, q4, w1]
          cases hk : okB s[i] with
          | true =>
            left
            rw [hk] at step
            refine ⟨[.str s, .int .i64 s.length, .int .i64 ((i + 1 : Nat) : Int)], G, step, m - 1, by omega, i + 1, by omega, rfl, by rw [ht, ha, hk]; rfl, rfl⟩
          | false =>
            right
            rw [hk] at step
            refine ⟨1, [.bool false], G, step, .inr ⟨rfl, ?_⟩⟩
            cases hh : s.all okB with
            | false => rfl
            | true => rw [List.all_eq_true.1 hh _ (List.getElem_mem hi)] at hk; cases hk
        · right
          have i1 : ¬ (i : Int) < (s.length : Int) := by omega
          refine ⟨0, [], G, by simp [L99_0, i1], .inl ⟨rfl, ?_⟩⟩
          rw [List.take_of_length_le (by omega)] at ha
          exact ha
      have hlt : 0 < s.length := by omega
      obtain ⟨res, e1, ⟨rfl, ha⟩ | ⟨rfl, ha⟩⟩ := key
      · simp [S99, el, hb, hg, e1, nameB, hlt, h1, ha, beq_dec]
      · simp [S99, el, hb, hg, e1, nameB, hlt, h1, ha, beq_dec]
    · have hg : decide ((s.length : Int) > 16) = true := by simp; omega
      simp [S99, el, hb, hg, nameB, h1]
theorem names_ok (a b : List UInt8) (h : Heap) : E tbl 81 [.agg [.str a, .str b]] h = some (.bool (nameB a && nameB b), h) := by
  rw [c81]
  cases ha : nameB a <;> simp [S81, name_ok, ha]
def stampB (t k n : Int) : Bool := decide (0 ≤ t) && decide (0 ≤ n) && decide (0 ≤ k) && decide (k < 6)
theorem stamp_ok (t k n : Int) (h : Heap) : E tbl 109 [.agg [.int .i64 t, .int .i64 k, .int .i64 n]] h = some (.bool (stampB t k n), h) := by
  rw [c109]
  unfold stampB
  cases q1 : decide (0 ≤ t) <;> cases q2 : decide (0 ≤ n) <;> cases q3 : decide (0 ≤ k) <;> cases q4 : decide (k < 6) <;> simp [S109, q1, q2, q3, q4]
structure Cd where
  a : List UInt8
  i : List UInt8
  s : Int
  o : Int
  l : Int
  t : Int
  k : Int
  n : Int
  g : Bool
  deriving DecidableEq
abbrev Cd.cells (c : Cd) : List AVal := [.str c.a, .str c.i, .int .i64 c.s, .int .i64 c.o, .int .i64 c.l, .int .i64 c.t, .int .i64 c.k, .int .i64 c.n, .bool c.g]
def cardB (c : Cd) : Bool := nameB c.a && nameB c.i && (decide (c.s = 1) || decide (c.s = 2)) && decide (0 ≤ c.o) && decide (c.o ≤ 3) && decide (1 ≤ c.l) && decide (c.l ≤ 1048576) && stampB c.t c.k c.n
theorem card_ok (c : Cd) (h : Heap) : E tbl 78 [.agg c.cells] h = some (.bool (cardB c), h) := by
  rw [c78]
  have e1 : ∀ G, E tbl 99 [.str c.a] G = some (.bool (nameB c.a), G) := fun G => name_ok c.a G
  have e2 : ∀ G, E tbl 99 [.str c.i] G = some (.bool (nameB c.i), G) := fun G => name_ok c.i G
  have e3 : ∀ G, E tbl 109 [.agg [.int .i64 c.t, .int .i64 c.k, .int .i64 c.n]] G = some (.bool (stampB c.t c.k c.n), G) := fun G => stamp_ok c.t c.k c.n G
  unfold cardB
  generalize nameB c.a = p at *
  generalize nameB c.i = q at *
  generalize stampB c.t c.k c.n = r at *
  have n1 : (c.s != 1) = !decide (c.s = 1) := rfl
  have n2 : (c.s != 2) = !decide (c.s = 2) := rfl
  have n3 : decide (c.o < 0) = !decide (0 ≤ c.o) := by by_cases h : 0 ≤ c.o <;> simp [h] <;> omega
  have n4 : decide (c.o > 3) = !decide (c.o ≤ 3) := by by_cases h : c.o ≤ 3 <;> simp [h] <;> omega
  have n5 : decide (c.l ≥ 1) = decide (1 ≤ c.l) := rfl
  simp only [S78, Cd.cells, cellsQ_agg, Option.bind_some, rdL_z, rdL_t, rdL_s, Option.map_some, from_one, from_agg, e1, e2, e3, bin_neq, bin_lss, bin_gtr, bin_geq, bin_leq, n1, n2, n3, n4, n5]
  generalize decide (c.s = 1) = b1
  generalize decide (c.s = 2) = b2
  generalize decide (0 ≤ c.o) = b3
  generalize decide (c.o ≤ 3) = b4
  generalize decide (1 ≤ c.l) = b5
  generalize decide (c.l ≤ 1048576) = b6
  cases p <;> cases q <;> cases r <;> cases b1 <;> cases b2 <;> cases b3 <;> cases b4 <;> cases b5 <;> cases b6 <;> rfl
abbrev Ky := List UInt8 × List UInt8
def cdE : El Cd 9 := ⟨Cd.cells, fun _ => rfl, by omega⟩
def kyE : El Ky 2 := ⟨fun k => [.str k.1, .str k.2], fun _ => rfl, by omega⟩
@[simp] theorem cdE_f (c : Cd) : cdE.f c = c.cells := rfl
@[simp] theorem kyE_f (k : Ky) : kyE.f k = [.str k.1, .str k.2] := rfl
abbrev SrcC (s : AVal) (h : Heap) (l : List Cd) : Prop := cdE.Src s h l
abbrev SrcK (s : AVal) (h : Heap) (l : List Ky) : Prop := kyE.Src s h l
abbrev OwnC (s : AVal) (h : Heap) (n0 : Nat) (l : List Cd) : Prop := cdE.Own s h n0 l
abbrev OwnK (s : AVal) (h : Heap) (n0 : Nat) (l : List Ky) : Prop := kyE.Own s h n0 l
theorem srcC_nil (h : Heap) : SrcC .nilSlice h [] := ⟨rfl, .inl ⟨rfl, rfl⟩⟩
theorem srcK_nil (h : Heap) : SrcK .nilSlice h [] := ⟨rfl, .inl ⟨rfl, rfl⟩⟩
theorem g_and (b c : Bool) (h : Heap) : guardV (.bool b) true (some (0, [.bool c], h)) (some (0, [skipV], h)) = some (0, [bif b then .bool c else skipV], h) := by cases b <;> rfl
theorem g_or (b c : Bool) (h : Heap) : guardV (.bool b) false (some (0, [.bool c], h)) (some (0, [skipV], h)) = some (0, [bif b then skipV else .bool c], h) := by cases b <;> rfl
theorem p_and (b c : Bool) : aPick (.bool b) (bif b then .bool c else skipV) (.bool false) = some (.bool (b && c)) := by cases b <;> rfl
theorem p_or (b c : Bool) : aPick (.bool b) (.bool true) (bif b then skipV else .bool c) = some (.bool (b || c)) := by cases b <;> rfl
noncomputable def equalL (es : Nat) (ks : List Nat) (_ : Go.Fw.Call) (xs : List AVal) (h : Heap) : Option J :=
 (aBin .lss .plain (xs.getD 3 .undef) (xs.getD 2 .undef)).bind fun v5 =>
 condV v5
 ((aIaddr es (xs.getD 0 .undef) (xs.getD 3 .undef)).bind fun v6 =>
 (aLoad h es v6).bind fun c20 =>
 (fromCells true c20).bind fun v8 =>
 (aIaddr es (xs.getD 1 .undef) (xs.getD 3 .undef)).bind fun v9 =>
 (aLoad h es v9).bind fun c13 =>
 (fromCells true c13).bind fun v11 =>
 (aBin .neq (.cells ks) v8 v11).bind fun v12 =>
 condV v12
 (some (2, [(.bool false)], h))
 ((aBin .add .plain (xs.getD 3 .undef) (.int .i64 1)).bind fun v13 =>
 some (0, [(xs.getD 0 .undef), (xs.getD 1 .undef), (xs.getD 2 .undef), v13], h)))
 (some (1, [], h))
noncomputable def equalS (es : Nat) (ks : List Nat) (call : Go.Fw.Call) (a0 a1 : AVal) (h : Heap) : Option J :=
 (aLen false a0).bind fun v1 =>
 (aLen false a1).bind fun v2 =>
 (aBin .neq .plain v1 v2).bind fun v3 =>
 condV v3
 (some (0, [(.bool false)], h))
 ((aLen false a0).bind fun v4 =>
 (loop (equalL es ks call) [a0, a1, v4, (.int .i64 0)] h).bind fun x14 =>
 bif Nat.beq x14.1 1 then some (0, [(.bool true)], x14.2.2) else
 bif Nat.beq x14.1 2 then some (0, [(x14.2.1.getD 0 .undef)], x14.2.2) else
 none)
theorem equal_of {α : Type} [DecidableEq α] {es : Nat} {E : El α es} {ks : List Nat} {call : Go.Fw.Call} (hE : ∀ x y, cellsEq ks (E.f x) (E.f y) = some (decide (x = y))) {a b : AVal} {h : Heap} {l m : List α} (A : E.Src a h l) (B : E.Src b h m) (hm : m.length ≤ 4611686018427387904) :
    equalS es ks call a b h = some (0, [.bool (decide (l = m))], h) := by
  have ea := Fw.Src.len A
  have eb := Fw.Src.len B
  by_cases hn : l.length = m.length
  · have hb : ((l.length : Int) != (m.length : Int)) = false := by simp [hn]
    have key : ∃ res, loop (equalL es ks call) [a, b, .int .i64 l.length, .int .i64 0] h = some res ∧ (res = (1, [], h) ∧ l = m ∨ res = (2, [.bool false], h) ∧ l ≠ m) := by
      refine loop_ok (fun k xs G => ∃ i, k + i = l.length ∧ G = h ∧ l.take i = m.take i ∧ xs = [a, b, .int .i64 l.length, .int .i64 (i : Int)]) _ ?_ l.length _ _ ⟨0, rfl, rfl, by simp, rfl⟩
      rintro k xs G ⟨i, hk, rfl, ht, rfl⟩
      by_cases hi : i < l.length
      · obtain ⟨p, a1, a2⟩ := El.Src.el A i hi
        obtain ⟨q, b1, b2⟩ := El.Src.el B i (by omega)
        have i1 : (i : Int) < (l.length : Int) := by omega
        have w1 : IntKind.i64.wrap ((i : Int) + 1) = ((i + 1 : Nat) : Int) := by rw [IntWalk.i64_in _ (by omega)]; omega
        have ce := hE l[i] (m[i]'(by omega))
        by_cases he : l[i] = m[i]'(by omega)
        · left
          rw [decide_eq_true he] at ce
          refine ⟨[a, b, .int .i64 l.length, .int .i64 ((i + 1 : Nat) : Int)], G, ?_, k - 1, by omega, i + 1, by omega, rfl, ?_, rfl⟩
          · simp [equalL, i1, a1, a2, b1, b2, w1, ce]
          · rw [List.take_add_one, List.take_add_one, ht, List.getElem?_eq_getElem hi, List.getElem?_eq_getElem (show i < m.length by omega), he]
        · right
          rw [decide_eq_false he] at ce
          refine ⟨1, [.bool false], G, ?_, .inr ⟨rfl, fun hh => he (by subst hh; rfl)⟩⟩
          simp [equalL, i1, a1, a2, b1, b2, ce]
      · right
        have i1 : ¬ (i : Int) < (l.length : Int) := by omega
        refine ⟨0, [], G, by simp [equalL, i1], .inl ⟨rfl, ?_⟩⟩
        rw [List.take_of_length_le (by omega), List.take_of_length_le (by omega)] at ht
        exact ht
    obtain ⟨res, e1, ⟨rfl, he⟩ | ⟨rfl, he⟩⟩ := key
    · rw [decide_eq_true he]; simp [equalS, ea, eb, hb, e1]
    · rw [decide_eq_false he]; simp [equalS, ea, eb, hb, e1, beq_dec]
  · have hb : ((l.length : Int) != (m.length : Int)) = true := by simp only [bne_iff_ne, ne_eq]; omega
    have he : l ≠ m := fun hh => hn (by rw [hh])
    simp [equalS, ea, eb, hb, he]
theorem cdE_eq (x y : Cd) : cellsEq [2, 2, 1, 1, 1, 1, 1, 1, 0] (cdE.f x) (cdE.f y) = some (decide (x = y)) := by
  obtain ⟨a, i, s, o, l, t, k, n, g⟩ := x
  obtain ⟨a', i', s', o', l', t', k', n', g'⟩ := y
  simp only [cdE_f, Cd.cells, cellsEq_str, cellsEq_int, cellsEq_bool, cellsEq_nil, Option.bind_some, Option.some.injEq]
  rw [Bool.eq_iff_iff]
  simp [Cd.mk.injEq]
end Go.Proofs.YtinkiihdnepfjaaGreatDoor.Code
set_option maxRecDepth 100000
namespace Go.Proofs.YtinkiihdnepfjaaGreatDoor.Code
open Go.Fw
theorem tells_card (h : Heap) : Tells (E tbl) cdE (.func 77 []) (fun c => !cardB c) h := by
  refine ⟨(77, []), rfl, fun c => ?_⟩
  show E tbl 77 [.agg c.cells] h = _
  have e := card_ok c h
  rw [c77]
  simp only [S77, cellsQ_agg, Cd.cells, Option.bind_some, rdL_z, rdL_t, Option.map_some, from_agg, e, un_not, ans_one]
theorem first_ge {α : Type} (p : α → Bool) (l : List α) : decide (firstI p l ≥ 0) = l.any p := by
  rw [Bool.eq_iff_iff, decide_eq_true_eq, List.any_eq_true]
  rcases firstI_cases p l with ⟨h1, h2⟩ | ⟨i, hi, h1, h2, _⟩
  · rw [h1]
    exact ⟨fun h => by omega, fun ⟨x, hx, hp⟩ => by rw [h2 x hx] at hp; cases hp⟩
  · rw [h1]
    exact ⟨fun _ => ⟨_, List.getElem_mem hi, h2⟩, fun _ => by omega⟩
theorem any_not {α : Type} (p : α → Bool) (l : List α) : l.any (fun x => !p x) = !l.all p := by
  rw [List.not_all_eq_any_not]
theorem ccont_ok {s : AVal} {h : Heap} {l : List Cd} (S : SrcC s h l) (hl : l.length ≤ 1000000) : E tbl 76 [s, .func 77 []] h = some (.bool (!l.all cardB), h) := by
  have e : E tbl 108 [s, .func 77 []] h = some (.int .i64 (firstI (fun c => !cardB c) l), h) := by
    rw [c108, show S108 = indexFuncS 9 from rfl, indexFunc_of S hl (tells_card h)]
    rfl
  rw [c76]
  simp only [S76, e, Option.bind_some, bin_geq, first_ge, any_not, ans_one]
theorem bwithin_ok : WithinOk (E tbl) 17 := by
  intro a lo hi h h0 h1 h2
  rw [c17]
  rw [show S17 = withinS from rfl, withinS_eq _ a lo hi (by omega) h1 (by omega)]
  rfl
theorem tnext_ok : NextOk (E tbl) 48 := by
  intro p s l h T n hn
  obtain ⟨r, h', e, x⟩ := tapeNext bwithin_ok T n hn
  refine ⟨r, h', ?_, x⟩
  rw [c48, show S48 = tapeNextS 17 from rfl, e]
  rfl
theorem tkey_ok : KeyOk (E tbl) 70 := by
  intro p s l h T
  obtain ⟨a, i, h', e, x⟩ := tapeKey tnext_ok T
  refine ⟨a, i, h', ?_, x⟩
  rw [c70, show S70 = tapeKeyS 48 from rfl, e]
  rfl
theorem tstamp_ok : StampOk (E tbl) 71 := by
  intro p s l h T
  obtain ⟨t, k, n, h', e, x⟩ := tapeStamp tnext_ok T
  refine ⟨t, k, n, h', ?_, x⟩
  rw [c71, show S71 = tapeStampS 48 from rfl, e]
  rfl
theorem tcard_ok : CardOk (E tbl) 49 := by
  intro p s l h T
  obtain ⟨a, i, st, o, le, t, k, n, g, h', e, x⟩ := tapeCard tnext_ok tkey_ok tstamp_ok T
  refine ⟨a, i, st, o, le, t, k, n, g, h', ?_, x⟩
  rw [c49, show S49 = tapeCardS 70 48 71 from rfl, e]
  rfl
def Cd.Wf (_ : Cd) : Prop := True
abbrev zCd : List AVal := [.str [], .str [], .int .i64 0, .int .i64 0, .int .i64 0, .int .i64 0, .int .i64 0, .int .i64 0, .bool false]
theorem app_name : ∀ a ∈ keyApps, nameB a = true := by decide
theorem id_name : ∀ a ∈ keyIds, nameB a = true := by decide
theorem may_right {a i : List UInt8} {s o l t k n : Int} (g : Bool) (M : CardMay a i s o l t k n) : cardB ⟨a, i, s, o, l, t, k, n, g⟩ = true ∧ Cd.Wf ⟨a, i, s, o, l, t, k, n, g⟩ := by
  obtain ⟨m1, m2, m3, m4, m5, m6, m7, m8⟩ := M
  constructor
  · unfold cardB stampB
    simp [app_name a m1, id_name i m2]
    omega
  · trivial
theorem _root_.Go.Fw.Tape.row {p : Nat} {s : AVal} {ts : List Int} {h G G' : Heap} {out out' : AVal} (T : Fw.Tape p s ts h) (TG : Fw.Tape p s ts G) (ob : ∀ b, slBlk out = some b → h.next ≤ b) (K : Kept G out G' out') : Fw.Tape p s ts G' := by
  have hno : ∀ b, b < h.next → slBlk out ≠ some b := fun b hb e => by have := ob b e; omega
  refine ⟨Nat.lt_of_lt_of_le TG.lt K.next, ?_, TG.ints.mono fun b hb => K.old b (TG.ne b hb).1 (hno b (T.ne b hb).1), fun b hb => ⟨Nat.lt_of_lt_of_le (TG.ne b hb).1 K.next, (TG.ne b hb).2⟩, TG.sz⟩
  obtain ⟨q, hq, hb⟩ := TG.pos
  exact ⟨q, hq, by rw [K.old p TG.lt (hno p T.lt), hb]⟩
theorem _root_.Go.Fw.Only.row {p : Nat} {h G G' : Heap} {out out' : AVal} (O : Only p h G) (ob : ∀ b, slBlk out = some b → h.next ≤ b) (K : Kept G out G' out') : Only p h G' :=
  ⟨Nat.le_trans O.next K.next, fun b hb h1 => by rw [K.old b (Nat.lt_of_lt_of_le hb O.next) fun e => by have := ob b e; omega, O.old b hb h1]⟩
theorem tcards_ok {p : Nat} {s : AVal} {ts : List Int} {h : Heap} (T : Fw.Tape p s ts h) (most : Nat) (hm : most ≤ 1000) :
    ∃ o l H, E tbl 29 [.ptr p 0, .int .i64 most] h = some (o, H) ∧ OwnC o H h.next l ∧ l.length ≤ most ∧ (∀ c ∈ l, cardB c = true ∧ c.Wf) ∧ Fw.Tape p s ts H ∧ Only p h H := by
  obtain ⟨r, h1, e1, r0, r1, T1, O1, n1⟩ := tnext_ok T ((most : Int) + 1) (by omega)
  obtain ⟨n, rfl⟩ : ∃ n : Nat, r = (n : Int) := ⟨r.toNat, by omega⟩
  have w1 : IntKind.i64.wrap ((most : Int) + 1) = (most : Int) + 1 := IntWalk.i64_in _ (by omega)
  have key : ∃ res, loop (L29_0 (E tbl)) [.ptr p 0, .nilSlice, .int .i64 n] h1 = some res ∧ ∃ o l H, res = (1, [o], H) ∧ OwnC o H h.next l ∧ l.length ≤ most ∧ (∀ c ∈ l, cardB c = true ∧ c.Wf) ∧ Fw.Tape p s ts H ∧ Only p h H := by
    refine loop_ok (fun m xs G => ∃ (o : AVal) (l : List Cd), m + l.length ≤ most ∧ Fw.Tape p s ts G ∧ OwnC o G h.next l ∧ (∀ c ∈ l, cardB c = true ∧ c.Wf) ∧ Only p h G ∧ xs = [.ptr p 0, o, .int .i64 (m : Int)]) _ ?_ n _ _ ⟨.nilSlice, [], by simp; omega, T1, Own.nil _ _ _, by simp, O1, rfl⟩
    rintro m xs G ⟨o, l, hl, TG, OG, wf, Og, rfl⟩
    by_cases h0 : 0 < m
    · left
      obtain ⟨a, i, st, ov, le, t, k, nn, g, G1, e2, M, T2, O2⟩ := tcard_ok TG
      have hn := Og.next
      have hn2 := O2.next
      have hlt := T.lt
      have Oa : OwnC o G1 h.next l := Fw.Own.kept OG hn2 fun b hb => O2.old b (OG.blk b hb).2 (by have := (OG.blk b hb).1; omega)
      obtain ⟨o', G2, e3, O3, K⟩ := El.Own.snoc (bytes := 88) (zero := zCd) Oa ⟨a, i, st, ov, le, t, k, nn, g⟩ (by omega) (by omega) (by omega)
      rw [cdE_f] at e3
      have ob : ∀ b, slBlk o = some b → h.next ≤ b := fun b hb => (OG.blk b hb).1
      have wm : IntKind.i64.wrap ((m : Int) - 1) = ((m - 1 : Nat) : Int) := by rw [IntWalk.i64_in _ (by omega)]; omega
      refine ⟨_, G2, ?_, m - 1, by omega, o', l ++ [⟨a, i, st, ov, le, t, k, nn, g⟩], by simp; omega, T.row T2 ob K, O3, fun c hc => ?_, (Og.trans O2).row ob K, rfl⟩
      · simp [L29_0, h0, e2, e3, wm]
      · rcases List.mem_append.1 hc with hc | hc
        · exact wf c hc
        · rw [List.mem_singleton] at hc
          subst hc
          exact may_right g M
    · right
      obtain rfl : m = 0 := by omega
      exact ⟨0, _, G, by simp [L29_0], o, l, G, rfl, OG, by omega, wf, TG, Og⟩
  obtain ⟨_, e, o, l, H, rfl, a1, a2, a3, a4, a5⟩ := key
  refine ⟨o, l, H, ?_, a1, a2, a3, a4, a5⟩
  rw [c29]
  simp [S29, w1, e1, e, beq_dec]
abbrev zMs : List AVal := [.int .i64 0, .int .i64 0, .int .i64 0, .int .i64 0, .int .i64 0, .int .i64 0, .int .i64 0, .str [], .str [], .bool false, .int .u32 0, .nilSlice, .nilSlice]
abbrev pushC (sc : AVal) : List AVal := [.int .i64 3, .int .i64 0, .int .i64 0, .int .i64 0, .int .i64 0, .int .i64 0, .int .i64 0, .str [], .str [], .bool false, .int .u32 0, sc, .nilSlice]
theorem srcK_no (h : Heap) : kyE.Src .nilSlice h [] := ⟨rfl, .inl ⟨rfl, rfl⟩⟩
theorem same0 (h : Heap) : E tbl 106 [.agg zMs, .agg zMs] h = some (.bool true, h) := by
  have e1 : E tbl 147 [.nilSlice, .nilSlice] h = some (.bool true, h) := by
    rw [c147, show S147 = equalS 9 [2, 2, 1, 1, 1, 1, 1, 1, 0] from rfl, equal_of cdE_eq (srcC_nil h) (srcC_nil h) (by simp)]
    rfl
  have e2 : E tbl 148 [.nilSlice, .nilSlice] h = some (.bool true, h) := by
    have := @equal_of Ky _ 2 kyE [2, 2] (E tbl) (fun x y => by
      obtain ⟨a, i⟩ := x
      obtain ⟨a2, i2⟩ := y
      simp only [kyE_f, cellsEq_str, cellsEq_nil, Option.bind_some, Option.some.injEq]
      rw [Bool.eq_iff_iff]
      simp) .nilSlice .nilSlice h [] [] (srcK_no h) (srcK_no h) (by simp)
    rw [c148, show S148 = equalS 2 [2, 2] from rfl, this]
    rfl
  rw [c106]
  simp [S106, rdL_z, rdL_t, rdL_s, e1, e2]
theorem zero3 (sc : AVal) (h : Heap) : E tbl 73 [.agg (pushC sc)] h = some (.bool true, h) := by
  have e := same0 h
  rw [c73]
  have : S73 (E tbl) (.agg (pushC sc)) h = (E tbl 106 [.agg zMs, .agg zMs] h).bind fun r => some (0, [r.1], r.2) := by kernel_rfl
  rw [this, e]
  rfl
end Go.Proofs.YtinkiihdnepfjaaGreatDoor.Code
set_option maxRecDepth 100000
namespace Go.Proofs.YtinkiihdnepfjaaGreatDoor.Code
open Go.Fw
theorem asked3 (sc : AVal) (h : Heap) : E tbl 107 [.agg (pushC sc)] h = some (.bool false, h) := by
  rw [c107]
  kernel_rfl
theorem op3 (sc : AVal) (h : Heap) : E tbl 74 [.agg (pushC sc)] h = some (.bool true, h) := by
  have e := asked3 sc h
  rw [c74]
  simp [S74, rdL_z, rdL_t, rdL_s, e]
theorem within0 (h : Heap) : E tbl 75 [.int .i64 0] h = some (.bool true, h) := by
  rw [c75]
  simp [S75]
theorem keys0 (h : Heap) : E tbl 79 [.nilSlice, .func 80 []] h = some (.bool false, h) := by
  have e : E tbl 110 [.nilSlice, .func 80 []] h = some (.int .i64 (-1), h) := by
    have e1 : loop (L110_0 (E tbl)) [.nilSlice, .func 80 [], .int .i64 0, .int .i64 0] h = some (1, [], h) := loop_done (by simp [L110_0])
    have e0 : aLen false .nilSlice = some (.int .i64 0) := rfl
    rw [c110]
    simp [S110, e0, e1]
  rw [c79]
  simp [S79, e]
theorem push_right {h : Heap} {sc : AVal} {l : List Cd} (A : SrcC sc h l) (hl : l.length ≤ 64) (hr : ∀ c ∈ l, cardB c = true) : E tbl 50 [.agg (pushC sc)] h = some (.nilIface, h) := by
  have z := zero3 sc h
  have o := op3 sc h
  have w := within0 h
  have cc := ccont_ok A (by omega)
  rw [List.all_eq_true.2 hr] at cc
  have kk := keys0 h
  have la := Fw.Src.len A
  have l0 : aLen false .nilSlice = some (.int .i64 0) := rfl
  have q : decide ((l.length : Int) > 64) = false := by simp; omega
  simp only [pushC] at z o
  rw [c50]
  simp [S50, pushC, rdL_z, rdL_t, rdL_s, z, o, w, la, l0, q, cc, kk]
end Go.Proofs.YtinkiihdnepfjaaGreatDoor.Code
set_option maxRecDepth 100000
namespace Go.Proofs.YtinkiihdnepfjaaGreatDoor.Code
open Go.Fw
abbrev Tx := List UInt8
abbrev lt (a b : Tx) : Bool := Op.bytesLess a b
theorem lt_irrefl : ∀ a : Tx, lt a a = false
  | [] => rfl
  | a :: x => by
    show (decide (a < a) || (a == a && lt x x)) = false
    rw [lt_irrefl x]
    simp
theorem lt_cons (a b : UInt8) (x y : Tx) : lt (a :: x) (b :: y) = (decide (a < b) || (a == b && lt x y)) := rfl
theorem lt_nil (a : Tx) : lt a [] = false := by cases a <;> rfl
theorem lt_trans : ∀ {a b c : Tx}, lt a b = true → lt b c = true → lt a c = true
  | _, [], _, h, _ => by rw [lt_nil] at h; cases h
  | _, _ :: _, [], _, h => by rw [lt_nil] at h; cases h
  | [], b :: y, c :: z, _, _ => rfl
  | a :: x, b :: y, c :: z, h1, h2 => by
    rw [lt_cons, Bool.or_eq_true, decide_eq_true_eq, Bool.and_eq_true, beq_iff_eq] at h1 h2 ⊢
    rcases h1 with h1 | ⟨rfl, h1⟩
    · rcases h2 with h2 | ⟨rfl, h2⟩
      · exact .inl (UInt8.lt_trans h1 h2)
      · exact .inl h1
    · rcases h2 with h2 | ⟨rfl, h2⟩
      · exact .inl h2
      · exact .inr ⟨rfl, lt_trans h1 h2⟩
theorem lt_total : ∀ {a b : Tx}, lt a b = false → lt b a = false → a = b
  | [], [], _, _ => rfl
  | [], _ :: _, h, _ => by cases h
  | _ :: _, [], _, h => by cases h
  | a :: x, b :: y, h1, h2 => by
    rw [lt_cons, Bool.or_eq_false_iff, decide_eq_false_iff_not] at h1 h2
    have hab : a = b := by
      have e1 := UInt8.not_lt.1 h1.1
      have e2 := UInt8.not_lt.1 h2.1
      exact UInt8.le_antisymm e2 e1
    subst hab
    have h3 : lt x y = false := by simpa using h1.2
    have h4 : lt y x = false := by simpa using h2.2
    rw [lt_total h3 h4]
abbrev Key := Tx × Tx
def lessK (x y : Key) : Bool := if x.1 = y.1 then lt x.2 y.2 else lt x.1 y.1
def cmpS (a b : Tx) : Int := if lt a b then -1 else if !(lt a b || a == b) then 1 else 0
def cmpK (x y : Key) : Int := if cmpS x.1 y.1 ≠ 0 then cmpS x.1 y.1 else cmpS x.2 y.2
theorem cmpS_self (a : Tx) : cmpS a a = 0 := by simp [cmpS, lt_irrefl]
theorem cmpS_lt (a b : Tx) : decide (cmpS a b < 0) = lt a b := by
  unfold cmpS
  cases lt a b with
  | true => rfl
  | false => cases (a == b) <;> rfl
theorem cmpS_ne {a b : Tx} (h : a ≠ b) : cmpS a b ≠ 0 := by
  unfold cmpS
  have : (a == b) = false := by simpa using h
  rw [this]
  cases lt a b <;> simp
theorem cmpK_lt (x y : Key) : decide (cmpK x y < 0) = lessK x y := by
  unfold cmpK lessK
  by_cases h : x.1 = y.1
  · rw [if_pos h, h, cmpS_self]
    simp only [ne_eq, not_true_eq_false, if_false]
    exact cmpS_lt _ _
  · rw [if_neg h, if_pos (cmpS_ne h)]
    exact cmpS_lt _ _
theorem nan_ok (a : Tx) (h : Heap) : E tbl 206 [.str a] h = some (.bool false, h) := by
  rw [c206]
  simp [S206]
theorem scmp_ok (a b : Tx) (h : Heap) : E tbl 183 [.str a, .str b] h = some (.int .i64 (cmpS a b), h) := by
  have e1 := nan_ok a h
  have e2 := nan_ok b h
  have l1 : aBin .lss .plain (.str a) (.str b) = some (.bool (lt a b)) := rfl
  have l2 : aBin .gtr .plain (.str a) (.str b) = some (.bool (!(lt a b || a == b))) := rfl
  rw [c183]
  unfold cmpS
  cases q1 : lt a b with
  | true => simp [S183, e1, e2, l1, q1]
  | false =>
    cases q2 : (a == b) with
    | true => simp [S183, e1, e2, l1, q1, l2, q2]
    | false => simp [S183, e1, e2, l1, q1, l2, q2]
theorem or_ok (x y : Int) (h : Heap) (b : Nat) (hb : h.blk b = some ⟨[.int .i64 x, .int .i64 y], true⟩) : E tbl 124 [.slice b 0 2 2 1 true] h = some (.int .i64 (if x ≠ 0 then x else y), h) := by
  have ln : aLen false (.slice b 0 2 2 1 true) = some (.int .i64 2) := rfl
  have a0 : aIaddr 1 (.slice b 0 2 2 1 true) (.int .i64 0) = some (.ptr b 0) := rfl
  have a1 : aIaddr 1 (.slice b 0 2 2 1 true) (.int .i64 1) = some (.ptr b 1) := rfl
  have r0 : h.rd b 0 1 = some [.int .i64 x] := by rw [rd_of hb 0 1 (by simp)]; rfl
  have r1 : h.rd b 1 1 = some [.int .i64 y] := by rw [rd_of hb 1 1 (by simp)]; rfl
  have w1 : IntKind.i64.wrap 1 = 1 := rfl
  have w2 : IntKind.i64.wrap 2 = 2 := rfl
  rw [c124]
  by_cases hx : x = 0
  · subst hx
    have s0 : L124_0 (E tbl) [.int .i64 0, .slice b 0 2 2 1 true, .int .i64 2, .int .i64 0] h = some (0, [.int .i64 0, .slice b 0 2 2 1 true, .int .i64 2, .int .i64 1], h) := by simp [L124_0, a0, r0, w1]
    by_cases hy : y = 0
    · subst hy
      have s1 : L124_0 (E tbl) [.int .i64 0, .slice b 0 2 2 1 true, .int .i64 2, .int .i64 1] h = some (0, [.int .i64 0, .slice b 0 2 2 1 true, .int .i64 2, .int .i64 2], h) := by simp [L124_0, a1, r1, w2]
      have s2 : L124_0 (E tbl) [.int .i64 0, .slice b 0 2 2 1 true, .int .i64 2, .int .i64 2] h = some (1, [.int .i64 0], h) := by simp [L124_0]
      have lp := (loop_more s0).trans ((loop_more s1).trans (loop_done s2))
      simp [S124, ln, lp]
    · have hy' : (y != 0) = true := by simpa using hy
      have s1 : L124_0 (E tbl) [.int .i64 0, .slice b 0 2 2 1 true, .int .i64 2, .int .i64 1] h = some (2, [.int .i64 y], h) := by simp [L124_0, a1, r1, hy', w2]
      have lp := (loop_more s0).trans (loop_done s1)
      simp [S124, ln, lp, beq_dec]
  · have hx' : (x != 0) = true := by simpa using hx
    have s0 : L124_0 (E tbl) [.int .i64 0, .slice b 0 2 2 1 true, .int .i64 2, .int .i64 0] h = some (2, [.int .i64 x], h) := by simp [L124_0, a0, r0, hx', w1]
    have lp := loop_done s0
    simp [S124, ln, lp, beq_dec, hx]
theorem kcmp_ok (x y : Key) (h : Heap) : ∃ H, E tbl 164 [.agg [.str x.1, .str x.2], .agg [.str y.1, .str y.2]] h = some (.int .i64 (cmpK x y), H) ∧ Went h H := by
  have e1 := scmp_ok x.1 y.1 h
  have e2 := scmp_ok x.2 y.2 h
  have e3 := or_ok (cmpS x.1 y.1) (cmpS x.2 y.2) (h.alloc [.int .i64 (cmpS x.1 y.1), .int .i64 (cmpS x.2 y.2)]) h.next (alloc_same _ _)
  refine ⟨_, ?_, Went.alloc h [.int .i64 (cmpS x.1 y.1), .int .i64 (cmpS x.2 y.2)]⟩
  rw [c164]
  simp [S164, rdL_z, rdL_t, rdL_s, e1, e2, aFill, aCells, AVal.cells?, splice, reps, e3, checkPairs, AVal.beqL, AVal.beq, cmpK]
abbrev Cd.key (c : Cd) : Key := (c.a, c.i)
theorem kless_ok (x y : Key) (h : Heap) : ∃ H, E tbl 155 [.agg [.str x.1, .str x.2], .agg [.str y.1, .str y.2]] h = some (.bool (lessK x y), H) ∧ Went h H := by
  obtain ⟨H, e, W⟩ := kcmp_ok x y h
  refine ⟨H, ?_, W⟩
  rw [c155]
  simp [S155, rdL_z, rdL_t, rdL_s, e, cmpK_lt]
def cmpI (a b : Int) : Int := if a < b then -1 else if a > b then 1 else 0
theorem icmp_ok (a b : Int) (h : Heap) : E tbl 125 [.int .i64 a, .int .i64 b] h = some (.int .i64 (cmpI a b), h) := by
  have e1 : ∀ x : Int, E tbl 156 [.int .i64 x] h = some (.bool false, h) := fun x => by rw [c156]; simp [S156]
  rw [c125]
  unfold cmpI
  by_cases q1 : a < b
  · simp [S125, e1, q1]
  · by_cases q2 : b < a
    · simp [S125, e1, q1, q2]
    · simp [S125, e1, q1, q2]
theorem jcmp_ok (a b : Int) (h : Heap) : E tbl 126 [.int .i64 a, .int .i64 b] h = some (.int .i64 (cmpI a b), h) := by
  have e1 : ∀ x : Int, E tbl 157 [.int .i64 x] h = some (.bool false, h) := fun x => by rw [c157]; simp [S157]
  rw [c126]
  unfold cmpI
  by_cases q1 : a < b
  · simp [S126, e1, q1]
  · by_cases q2 : b < a
    · simp [S126, e1, q1, q2]
    · simp [S126, e1, q1, q2]
def or3 (x y z : Int) : Int := if x ≠ 0 then x else if y ≠ 0 then y else z
theorem or3_ok (x y z : Int) (h : Heap) (b : Nat) (hb : h.blk b = some ⟨[.int .i64 x, .int .i64 y, .int .i64 z], true⟩) : E tbl 124 [.slice b 0 3 3 1 true] h = some (.int .i64 (or3 x y z), h) := by
  have ln : aLen false (.slice b 0 3 3 1 true) = some (.int .i64 3) := rfl
  have a0 : aIaddr 1 (.slice b 0 3 3 1 true) (.int .i64 0) = some (.ptr b 0) := rfl
  have a1 : aIaddr 1 (.slice b 0 3 3 1 true) (.int .i64 1) = some (.ptr b 1) := rfl
  have a2 : aIaddr 1 (.slice b 0 3 3 1 true) (.int .i64 2) = some (.ptr b 2) := rfl
  have r0 : h.rd b 0 1 = some [.int .i64 x] := by rw [rd_of hb 0 1 (by simp)]; rfl
  have r1 : h.rd b 1 1 = some [.int .i64 y] := by rw [rd_of hb 1 1 (by simp)]; rfl
  have r2 : h.rd b 2 1 = some [.int .i64 z] := by rw [rd_of hb 2 1 (by simp)]; rfl
  have w1 : IntKind.i64.wrap 1 = 1 := rfl
  have w2 : IntKind.i64.wrap 2 = 2 := rfl
  have w3 : IntKind.i64.wrap 3 = 3 := rfl
  have stop : ∀ v : Int, L124_0 (E tbl) [.int .i64 0, .slice b 0 3 3 1 true, .int .i64 3, .int .i64 3] h = some (1, [.int .i64 0], h) := fun _ => by simp [L124_0]
  rw [c124]
  unfold or3
  by_cases hx : x = 0
  · subst hx
    have s0 : L124_0 (E tbl) [.int .i64 0, .slice b 0 3 3 1 true, .int .i64 3, .int .i64 0] h = some (0, [.int .i64 0, .slice b 0 3 3 1 true, .int .i64 3, .int .i64 1], h) := by simp [L124_0, a0, r0, w1]
    by_cases hy : y = 0
    · subst hy
      have s1 : L124_0 (E tbl) [.int .i64 0, .slice b 0 3 3 1 true, .int .i64 3, .int .i64 1] h = some (0, [.int .i64 0, .slice b 0 3 3 1 true, .int .i64 3, .int .i64 2], h) := by simp [L124_0, a1, r1, w2]
      by_cases hz : z = 0
      · subst hz
        have s2 : L124_0 (E tbl) [.int .i64 0, .slice b 0 3 3 1 true, .int .i64 3, .int .i64 2] h = some (0, [.int .i64 0, .slice b 0 3 3 1 true, .int .i64 3, .int .i64 3], h) := by simp [L124_0, a2, r2, w3]
        have lp := (loop_more s0).trans ((loop_more s1).trans ((loop_more s2).trans (loop_done (stop 0))))
        simp [S124, ln, lp]
      · have hz' : (z != 0) = true := by simpa using hz
        have s2 : L124_0 (E tbl) [.int .i64 0, .slice b 0 3 3 1 true, .int .i64 3, .int .i64 2] h = some (2, [.int .i64 z], h) := by simp [L124_0, a2, r2, hz', w3]
        have lp := (loop_more s0).trans ((loop_more s1).trans (loop_done s2))
        simp [S124, ln, lp, beq_dec]
    · have hy' : (y != 0) = true := by simpa using hy
      have s1 : L124_0 (E tbl) [.int .i64 0, .slice b 0 3 3 1 true, .int .i64 3, .int .i64 1] h = some (2, [.int .i64 y], h) := by simp [L124_0, a1, r1, hy', w2]
      have lp := (loop_more s0).trans (loop_done s1)
      simp [S124, ln, lp, beq_dec, hy]
  · have hx' : (x != 0) = true := by simpa using hx
    have s0 : L124_0 (E tbl) [.int .i64 0, .slice b 0 3 3 1 true, .int .i64 3, .int .i64 0] h = some (2, [.int .i64 x], h) := by simp [L124_0, a0, r0, hx', w1]
    have lp := loop_done s0
    simp [S124, ln, lp, beq_dec, hx]
def lessT (x y : Cd) : Bool := decide (or3 (cmpI x.t y.t) (cmpI x.n y.n) (cmpI x.k y.k) < 0)
theorem tless_ok (x y : Cd) (h : Heap) : ∃ H, E tbl 86 [.agg [.int .i64 x.t, .int .i64 x.k, .int .i64 x.n], .agg [.int .i64 y.t, .int .i64 y.k, .int .i64 y.n]] h = some (.bool (lessT x y), H) ∧ Went h H := by
  have e1 := icmp_ok x.t y.t h
  have e2 := icmp_ok x.n y.n h
  have e3 := jcmp_ok x.k y.k h
  have e4 := or3_ok (cmpI x.t y.t) (cmpI x.n y.n) (cmpI x.k y.k) (h.alloc [.int .i64 (cmpI x.t y.t), .int .i64 (cmpI x.n y.n), .int .i64 (cmpI x.k y.k)]) h.next (alloc_same _ _)
  refine ⟨_, ?_, Went.alloc h [.int .i64 (cmpI x.t y.t), .int .i64 (cmpI x.n y.n), .int .i64 (cmpI x.k y.k)]⟩
  rw [c86]
  simp [S86, rdL_z, rdL_t, rdL_s, e1, e2, e3, aFill, aCells, AVal.cells?, splice, reps, e4, checkPairs, AVal.beqL, AVal.beq, lessT]
theorem lessT_iff (x y : Cd) : lessT x y = true ↔ x.t < y.t ∨ x.t = y.t ∧ (x.n < y.n ∨ x.n = y.n ∧ x.k < y.k) := by
  unfold lessT or3 cmpI
  rw [decide_eq_true_eq]
  by_cases h1 : x.t < y.t
  · simp [h1]
  · by_cases h2 : x.t > y.t
    · have : ¬ x.t = y.t := by omega
      simp [h1, h2, this]
    · have e : x.t = y.t := by omega
      by_cases h3 : x.n < y.n
      · simp [e, h3]
      · by_cases h4 : x.n > y.n
        · have : ¬ x.n = y.n := by omega
          simp [e, h3, h4, this]
        · have e2 : x.n = y.n := by omega
          by_cases h5 : x.k < y.k
          · simp [e, e2, h5]
          · by_cases h6 : x.k > y.k
            · simp [e, e2, h5, h6]
            · simp [e, e2, h5, h6]
theorem lessT_trans {x y z : Cd} (h : lessT x y = true) (k : lessT y z = true) : lessT x z = true := by
  rw [lessT_iff] at *
  omega
theorem lessT_irrefl (x : Cd) : lessT x x = false := by
  cases h : lessT x x with
  | false => rfl
  | true => rw [lessT_iff] at h; omega
theorem lessK_irrefl (x : Key) : lessK x x = false := by simp [lessK, lt_irrefl]
theorem lessK_trans {x y z : Key} (h : lessK x y = true) (k : lessK y z = true) : lessK x z = true := by
  unfold lessK at *
  by_cases h1 : x.1 = y.1
  · rw [if_pos h1] at h
    by_cases h2 : y.1 = z.1
    · rw [if_pos h2] at k
      rw [if_pos (h1.trans h2)]
      exact lt_trans h k
    · rw [if_neg h2] at k
      rw [if_neg (fun e => h2 (h1.symm.trans e)), h1]
      exact k
  · rw [if_neg h1] at h
    by_cases h2 : y.1 = z.1
    · rw [if_pos h2] at k
      rw [if_neg (fun e => h1 (e.trans h2.symm)), ← h2]
      exact h
    · rw [if_neg h2] at k
      have l := lt_trans h k
      rw [if_neg (fun e => by rw [e, lt_irrefl] at l; cases l)]
      exact l
theorem lessK_total {x y : Key} (h : lessK x y = false) (k : lessK y x = false) : x = y := by
  unfold lessK at *
  by_cases h1 : x.1 = y.1
  · rw [if_pos h1] at h
    rw [if_pos h1.symm] at k
    exact Prod.ext h1 (lt_total h k)
  · rw [if_neg h1] at h
    rw [if_neg (fun e => h1 e.symm)] at k
    exact (h1 (lt_total h k)).elim
end Go.Proofs.YtinkiihdnepfjaaGreatDoor.Code
