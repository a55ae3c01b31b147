/- errors.As: what it finds. -/
import Derived.Test.YtkbchgbpglamcaaDoorCode
import Derived.Test.YtkbchgbpglamcaaDoorFwZm
namespace Go.Proofs.YtkbchgbpglamcaaDoor.Code
set_option linter.unusedSimpArgs false
set_option linter.unusedVariables false
open Go.Fw

@[simp] theorem if_nil (c : Bool) (l : List Nat) (t : Nat) (v : AVal) : aBin .eql (.iface c l) (.iface t v) .nilIface = some (.bool false) := by cases v <;> cases c <;> rfl
@[simp] theorem if_nil' (c : Bool) (l : List Nat) (t : Nat) (v : AVal) : aBin .neq (.iface c l) (.iface t v) .nilIface = some (.bool true) := by cases v <;> cases c <;> rfl
@[simp] theorem nil_nil (l : List Nat) : aBin .eql (.iface true l) .nilIface .nilIface = some (.bool true) := rfl
@[simp] theorem nil_nil' (l : List Nat) : aBin .neq (.iface true l) .nilIface .nilIface = some (.bool false) := rfl

/-- An error. -/
inductive Er where
  | nil
  | code (n : Int)
  | other (b : Nat)
  | fault (op : List UInt8) (e : Er)
  | join (x y : Er)

/-- What stands for it; all of it below block N. -/
def Rep (h : Heap) (N : Nat) : Er → AVal → Prop
  | .nil, v => v = .nilIface
  | .code n, v => v = .iface 28 (.int .i64 n)
  | .other b, v => v = .iface 47 (.ptr b 0) ∧ b < N
  | .fault op e, v => ∃ b u rw, v = .iface 41 (.ptr b 0) ∧ b < N ∧ h.blk b = some ⟨[.str op, u], rw⟩ ∧ Rep h N e u
  | .join x y, v => ∃ b s u1 u2 rw, v = .iface 61 (.ptr b 0) ∧ b < N ∧ h.blk b = some ⟨[s], rw⟩ ∧ Src 1 s h 2 [u1, u2] ∧ (∀ c, slBlk s = some c → c < N) ∧ Rep h N x u1 ∧ Rep h N y u2

theorem Rep.mono {h H : Heap} {N M : Nat} (hM : N ≤ M) (hn : h.next ≤ H.next) (hb : ∀ b, b < N → H.blk b = h.blk b) : ∀ (e : Er) {v : AVal}, Rep h N e v → Rep H M e v
  | .nil, v, r => r
  | .code n, v, r => r
  | .other b, v, r => ⟨r.1, Nat.lt_of_lt_of_le r.2 hM⟩
  | .fault op e, v, r => by
    obtain ⟨b, u, rw, h1, h2, h3, h4⟩ := r
    exact ⟨b, u, rw, h1, Nat.lt_of_lt_of_le h2 hM, by rw [hb b h2]; exact h3, Rep.mono hM hn hb e h4⟩
  | .join x y, v, r => by
    obtain ⟨b, s, u1, u2, rw, h1, h2, h3, h4, h5, h6, h7⟩ := r
    exact ⟨b, s, u1, u2, rw, h1, Nat.lt_of_lt_of_le h2 hM, by rw [hb b h2]; exact h3, h4.kept hn (fun c hc => hb c (h5 c hc)), fun c hc => Nat.lt_of_lt_of_le (h5 c hc) hM, Rep.mono hM hn hb x h6, Rep.mono hM hn hb y h7⟩

/-- What errors.As finds in it, of the type et. -/
def Find (h : Heap) (N : Nat) (et : Nat) : Er → AVal → Option AVal → Prop
  | .nil, _, r => r = none
  | .code n, _, r => r = if et = 28 then some (.int .i64 n) else none
  | .other _, _, r => r = none
  | .fault _ e, v, r => if et = 41 then ∃ p, v = .iface 41 p ∧ r = some p else ∃ u, Rep h N e u ∧ Find h N et e u r
  | .join x y, _, r => ∃ u1 u2, Rep h N x u1 ∧ Rep h N y u2 ∧ ((∃ a, r = some a ∧ Find h N et x u1 (some a)) ∨ (Find h N et x u1 none ∧ Find h N et y u2 r))

theorem asg (s t : Nat) (h : Heap) (hs : s = 28 ∨ s = 41 ∨ s = 47 ∨ s = 61) (ht : t = 28 ∨ t = 41) : E tbl 54 [.agg [.ptr 1 s], .iface 65 (.agg [.ptr 1 t])] h = some (.bool (decide (s = t)), h) := by
  rw [c54]
  rcases hs with rfl | rfl | rfl | rfl <;> rcases ht with rfl | rfl <;> rfl
theorem typ (t : Nat) (v : AVal) (h : Heap) : E tbl 22 [.iface t v] h = some (.iface 65 (.agg [.ptr 1 t]), h) := by rw [c22]; rfl

/-- The target: a variable of the type et, at block t; q: its Value's own copy of the pointer. -/
structure Tgt (N et pt t q : Nat) (old : AVal) (h : Heap) : Prop where
  ok : (et = 28 ∧ pt = 55) ∨ (et = 41 ∧ pt = 56)
  blkt : h.blk t = some ⟨[old], true⟩
  blkq : h.blk q = some ⟨[.ptr t 0], true⟩
  ht : N ≤ t
  hq : N ≤ q
  lt : t < h.next
  lq : q < h.next
  ne : t ≠ q
abbrev tgV (pt q : Nat) : AVal := .agg [.ptr 1 pt, .ptr q 0, .int .u64 150]

theorem Tgt.of_only {N et pt t q : Nat} {old : AVal} {h H : Heap} (T : Tgt N et pt t q old h) (O : Only t h H) {new : AVal} (hb : H.blk t = some ⟨[new], true⟩) : Tgt N et pt t q new H :=
  ⟨T.ok, hb, by rw [O.old q T.lq (Ne.symm T.ne)]; exact T.blkq, T.ht, T.hq, Nat.lt_of_lt_of_le T.lt O.next, Nat.lt_of_lt_of_le T.lq O.next, T.ne⟩

abbrev asXs (v : AVal) (et pt t q : Nat) : List AVal := [v, .iface pt (.ptr t 0), .iface 65 (.agg [.ptr 1 et]), .agg [.ptr 1 pt, .ptr q 0, .int .u64 150]]

section
variable {N et pt t q : Nat} {old : AVal} {h : Heap}
/-- The type is the one. -/
theorem as_hit (T : Tgt N et pt t q old h) (x : AVal) (hx : x.cells? = some [x]) :
    ∃ H, L29_0 (E tbl) (asXs (.iface et x) et pt t q) h = some (1, [.bool true], H) ∧ Only t h H ∧ H.blk t = some ⟨[x], true⟩ := by
  have he : et = 28 ∨ et = 41 := by rcases T.ok with ⟨a, _⟩ | ⟨a, _⟩ <;> simp [a]
  have hw : ∀ k : Int, 0 < k → True := fun _ _ => trivial
  have e1 : E tbl 31 [tgV pt q] h = some (.agg [.ptr 1 et, .ptr t 0, .int .u64 (if et = 28 then 386 else 406)], h) := by
    rw [c31]
    rcases T.ok with ⟨rfl, rfl⟩ | ⟨rfl, rfl⟩ <;> simp [pValueElem, aParts, lookP, beq_dec, rd_bind, T.blkq, one?, ptrV]
  have e2 : E tbl 26 [.iface et x] h = some (.agg [.ptr 1 et, .ptr h.next 0, .int .u64 (if et = 28 then 130 else 150)], h.alloc [x]) := by
    rw [c26]
    rcases he with rfl | rfl <;> simp [pValueOf, lookN, beq_dec, hx]
  have hne : t ≠ h.next := by have := T.lt; omega
  have hrd : (h.alloc [x]).rd h.next 0 1 = some [x] := by simp [rd_bind]
  have hwr : (h.alloc [x]).wr t 0 [x] = some ((h.alloc [x]).setBlk t (some ⟨[x], true⟩)) := by
    simp [wr_bind, Heap.alloc_other _ _ hne, T.blkt]
  have hxc : aCells 1 x = some [x] := by simp [aCells, hx]
  have e3 : E tbl 32 [.agg [.ptr 1 et, .ptr t 0, .int .u64 (if et = 28 then 386 else 406)], .agg [.ptr 1 et, .ptr h.next 0, .int .u64 (if et = 28 then 130 else 150)]] (h.alloc [x]) = some (.tuple [], (h.alloc [x]).setBlk t (some ⟨[x], true⟩)) := by
    rw [c32]
    rcases he with rfl | rfl <;> simp [pSet, aParts, hrd, hwr, one?, hxc]
  refine ⟨(h.alloc [x]).setBlk t (some ⟨[x], true⟩), ?_, ⟨by simp, fun b hb hp => ?_⟩, by simp⟩
  · have ea := asg et et h (by rcases he with rfl | rfl <;> simp) he
    simp [L29_0, typ, aMeth, lookM, beq_dec, ea, e1, e2, e3]
  · rw [Heap.setBlk_other _ _ hp, Heap.alloc_other _ _ (by omega)]

/-- A code, or an error of another kind, is not it. -/
theorem as_miss (T : Tgt N et pt t q old h) (s : Nat) (x : AVal) (hs : s = 28 ∨ s = 47) (hne : s ≠ et) : L29_0 (E tbl) (asXs (.iface s x) et pt t q) h = some (1, [.bool false], h) := by
  have he : et = 28 ∨ et = 41 := by rcases T.ok with ⟨a, _⟩ | ⟨a, _⟩ <;> simp [a]
  have ea := asg s et h (by rcases hs with rfl | rfl <;> simp) he
  rw [decide_eq_false hne] at ea
  rcases hs with rfl | rfl <;> simp [L29_0, typ, aMeth, lookM, beq_dec, ea, aAssert, lookT]

theorem unwrap_ok {b : Nat} {op : List UInt8} {u : AVal} {rw : Bool} (hb : h.blk b = some ⟨[.str op, u], rw⟩) : E tbl 21 [.ptr b 0] h = some (u, h) := by
  rw [c21]
  simp [S21, rd_bind, hb]
theorem unwraps_ok {b : Nat} {s : AVal} {rw : Bool} (hb : h.blk b = some ⟨[s], rw⟩) : E tbl 52 [.ptr b 0] h = some (s, h) := by
  rw [c52]
  simp [S52, rd_bind, hb]

/-- A fault around another error: that is looked at next. -/
theorem as_fault (T : Tgt N et pt t q old h) (hne : et ≠ 41) {b : Nat} {op : List UInt8} {u : AVal} {rw : Bool} (hb : h.blk b = some ⟨[.str op, u], rw⟩) :
    (u = .nilIface → L29_0 (E tbl) (asXs (.iface 41 (.ptr b 0)) et pt t q) h = some (1, [.bool false], h)) ∧
    ((∃ s x, u = .iface s x) → L29_0 (E tbl) (asXs (.iface 41 (.ptr b 0)) et pt t q) h = some (0, asXs u et pt t q, h)) := by
  obtain ⟨rfl, rfl⟩ : et = 28 ∧ pt = 55 := by rcases T.ok with a | ⟨a, _⟩; exact a; exact (hne a).elim
  have ea := asg 41 28 h (by simp) (by simp)
  have eu := unwrap_ok hb
  constructor
  · rintro rfl
    simp [L29_0, typ, aMeth, lookM, beq_dec, ea, aAssert, lookT, eu]
  · rintro ⟨s, x, rfl⟩
    simp [L29_0, typ, aMeth, lookM, beq_dec, ea, aAssert, lookT, eu]
end

theorem Rep.iface {h : Heap} {N : Nat} : ∀ {e : Er} {v : AVal}, Rep h N e v → e ≠ .nil → ∃ s x, v = .iface s x
  | .nil, _, _, hn => (hn rfl).elim
  | .code n, _, r, _ => ⟨_, _, r⟩
  | .other b, _, r, _ => ⟨_, _, r.1⟩
  | .fault op e, _, r, _ => by obtain ⟨b, u, rw, h1, _⟩ := r; exact ⟨_, _, h1⟩
  | .join x y, _, r, _ => by obtain ⟨b, s, u1, u2, rw, h1, _⟩ := r; exact ⟨_, _, h1⟩

abbrev jXs (s : AVal) (i : Nat) (et pt t q : Nat) : List AVal := [.iface pt (.ptr t 0), .iface 65 (.agg [.ptr 1 et]), s, .int .i64 2, .int .i64 i, .agg [.ptr 1 pt, .ptr q 0, .int .u64 150]]
abbrev asArgs (v : AVal) (et pt t q : Nat) : List AVal := [v, .iface pt (.ptr t 0), .agg [.ptr 1 pt, .ptr q 0, .int .u64 150], .iface 65 (.agg [.ptr 1 et])]

section
variable {N et pt t q : Nat} {old : AVal} {h : Heap}
theorem as_call {v : AVal} {b : Bool} {H : Heap} (e : loop (L29_0 (E tbl)) (asXs v et pt t q) h = some (1, [.bool b], H)) : E tbl 29 (asArgs v et pt t q) h = some (.bool b, H) := by
  rw [c29]
  simp [S29, e]

/-- One of what is joined. -/
theorem join_nil {s : AVal} {l : List AVal} (S : Src 1 s h 2 l) (i : Nat) (hi : i < 2) (hu : l[i]? = some .nilIface) : L29_1 (E tbl) (jXs s i et pt t q) h = some (0, jXs s (i + 1) et pt t q, h) := by
  obtain ⟨p, e1, e2⟩ := S.at i hi
  have hv : l = [l.getD 0 .undef, l.getD 1 .undef] := by
    match l, S.1 with
    | [a, b], _ => rfl
  have e3 : (l.drop (i * 1)).take 1 = [.nilIface] := by
    rw [Nat.mul_one, List.drop_eq_getElem_cons (by have := S.1; omega)]
    have : l[i]'(by have := S.1; omega) = .nilIface := by rw [List.getElem?_eq_getElem (by have := S.1; omega)] at hu; simpa using hu
    simp [this]
  have i1 : (i : Int) < 2 := by omega
  have w1 : IntKind.i64.wrap ((i : Int) + 1) = ((i + 1 : Nat) : Int) := by rw [IntWalk.i64_in _ (by omega)]; omega
  rw [e3] at e2
  simp [L29_1, i1, e1, e2, w1, beq_dec]
theorem join_el {s : AVal} {l : List AVal} (S : Src 1 s h 2 l) (i : Nat) (hi : i < 2) {ty : Nat} {x : AVal} (hu : l[i]? = some (.iface ty x)) {b : Bool} {H : Heap} (ec : E tbl 29 (asArgs (.iface ty x) et pt t q) h = some (.bool b, H)) :
    L29_1 (E tbl) (jXs s i et pt t q) h = some (bif b then (2, [.bool true], H) else (0, jXs s (i + 1) et pt t q, H)) := by
  obtain ⟨p, e1, e2⟩ := S.at i hi
  have e3 : (l.drop (i * 1)).take 1 = [.iface ty x] := by
    rw [Nat.mul_one, List.drop_eq_getElem_cons (by have := S.1; omega)]
    have : l[i]'(by have := S.1; omega) = .iface ty x := by rw [List.getElem?_eq_getElem (by have := S.1; omega)] at hu; simpa using hu
    simp [this]
  have i1 : (i : Int) < 2 := by omega
  have w1 : IntKind.i64.wrap ((i : Int) + 1) = ((i + 1 : Nat) : Int) := by rw [IntWalk.i64_in _ (by omega)]; omega
  rw [e3] at e2
  cases b <;> simp [L29_1, i1, e1, e2, w1, ec, beq_dec]
theorem join_end {s : AVal} : L29_1 (E tbl) (jXs s 2 et pt t q) h = some (1, [], h) := by
  simp [L29_1]

/-- What is joined: the loop. -/
theorem as_join (T : Tgt N et pt t q old h) {b : Nat} {s : AVal} {rw : Bool} {u1 u2 : AVal} (hb : h.blk b = some ⟨[s], rw⟩) (S : Src 1 s h 2 [u1, u2]) {r : J} (hl : loop (L29_1 (E tbl)) (jXs s 0 et pt t q) h = some r)
    (hr : r.1 = 1 ∨ (r.1 = 2 ∧ r.2.1 = [.bool true])) : L29_0 (E tbl) (asXs (.iface 61 (.ptr b 0)) et pt t q) h = some (1, [.bool (Nat.beq r.1 2)], r.2.2) := by
  have he : et = 28 ∨ et = 41 := by rcases T.ok with ⟨a, _⟩ | ⟨a, _⟩ <;> simp [a]
  have ea := asg 61 et h (by simp) he
  rw [decide_eq_false (by rcases he with rfl | rfl <;> omega)] at ea
  have eu := unwraps_ok hb
  have el := S.len
  obtain ⟨n, ys, G⟩ := r
  have hl' : loop (L29_1 (E tbl)) [.iface pt (.ptr t 0), .iface 65 (.agg [.ptr 1 et]), s, .int .i64 2, .int .i64 0, .agg [.ptr 1 pt, .ptr q 0, .int .u64 150]] h = some (n, ys, G) := hl
  rcases hr with rfl | ⟨rfl, rfl⟩
  · simp [L29_0, typ, aMeth, lookM, beq_dec, ea, aAssert, lookT, eu, el, hl']
  · simp [L29_0, typ, aMeth, lookM, beq_dec, ea, aAssert, lookT, eu, el, hl']

theorem as_loop (h0 : Heap) : ∀ (e : Er) (v : AVal) (old : AVal) (h : Heap), Rep h0 N e v → e ≠ .nil → (∀ b, b < N → h.blk b = h0.blk b) → h0.next ≤ h.next → Tgt N et pt t q old h →
    ∃ r H, loop (L29_0 (E tbl)) (asXs v et pt t q) h = some (1, [.bool r.isSome], H) ∧ Only t h H ∧ H.blk t = some ⟨[r.getD old], true⟩ ∧ Find h0 N et e v r
  | .nil, _, _, _, _, hn, _, _, _ => (hn rfl).elim
  | .code n, v, old, h, R, _, hs, hx, T => by
    obtain rfl : v = .iface 28 (.int .i64 n) := R
    by_cases he : et = 28
    · subst he
      obtain ⟨H, e1, O, hb⟩ := as_hit T (.int .i64 n) rfl
      exact ⟨some (.int .i64 n), H, loop_done e1, O, hb, by simp [Find]⟩
    · exact ⟨none, h, loop_done (as_miss T 28 _ (.inl rfl) (Ne.symm he)), Only.refl _ _, T.blkt, by simp [Find, he]⟩
  | .other b, v, old, h, R, _, hs, hx, T => by
    obtain ⟨rfl, hb⟩ := R
    have he : 47 ≠ et := by rcases T.ok with ⟨a, _⟩ | ⟨a, _⟩ <;> omega
    exact ⟨none, h, loop_done (as_miss T 47 _ (.inr rfl) he), Only.refl _ _, T.blkt, rfl⟩
  | .fault op e, v, old, h, R, _, hs, hx, T => by
    obtain ⟨b, u, rw, rfl, hb, hbl, Re⟩ := R
    by_cases he : et = 41
    · subst he
      obtain ⟨H, e1, O, hb⟩ := as_hit T (.ptr b 0) rfl
      exact ⟨some (.ptr b 0), H, loop_done e1, O, hb, by simp [Find]⟩
    · have hbl' : h.blk b = some ⟨[.str op, u], rw⟩ := by rw [hs b hb]; exact hbl
      obtain ⟨f1, f2⟩ := as_fault T he hbl'
      by_cases hen : e = .nil
      · subst hen
        obtain rfl : u = .nilIface := Re
        exact ⟨none, h, loop_done (f1 rfl), Only.refl _ _, T.blkt, by rw [Find, if_neg he]; exact ⟨.nilIface, rfl, rfl⟩⟩
      · obtain ⟨r, H, e1, O, hb2, F⟩ := as_loop h0 e u old h Re hen hs hx T
        exact ⟨r, H, (loop_more (f2 (Re.iface hen))).trans e1, O, hb2, by rw [Find, if_neg he]; exact ⟨u, Re, F⟩⟩
  | .join x y, v, old, h, R, _, hs, hx, T => by
    obtain ⟨b, s, u1, u2, rw, rfl, hb, hbl, S, hsb, R1, R2⟩ := R
    have hbl' : h.blk b = some ⟨[s], rw⟩ := by rw [hs b hb]; exact hbl
    have S' : Src 1 s h 2 [u1, u2] := S.kept hx fun c hc => hs c (hsb c hc)
    -- the first
    have h1 : ∃ r1 H1, (r1.isSome = true → loop (L29_1 (E tbl)) (jXs s 0 et pt t q) h = some (2, [.bool true], H1)) ∧ (r1.isSome = false → loop (L29_1 (E tbl)) (jXs s 0 et pt t q) h = loop (L29_1 (E tbl)) (jXs s 1 et pt t q) H1) ∧
        Only t h H1 ∧ H1.blk t = some ⟨[r1.getD old], true⟩ ∧ Find h0 N et x u1 r1 := by
      by_cases hxn : x = .nil
      · subst hxn
        obtain rfl : u1 = .nilIface := R1
        exact ⟨none, h, fun hh => (by cases hh), fun _ => loop_more (join_nil S' 0 (by omega) rfl), Only.refl _ _, T.blkt, rfl⟩
      · obtain ⟨ty, z, rfl⟩ := R1.iface hxn
        obtain ⟨r, H, e1, O, hb2, F⟩ := as_loop h0 x _ old h R1 hxn hs hx T
        have ej := join_el (et := et) (pt := pt) (t := t) (q := q) S' 0 (by omega) rfl (as_call e1)
        refine ⟨r, H, fun hh => ?_, fun hh => ?_, O, hb2, F⟩
        · rw [hh] at ej; exact loop_done ej
        · rw [hh] at ej; exact loop_more ej
    obtain ⟨r1, H1, l1, l2, O1, hb1, F1⟩ := h1
    cases hr1 : r1 with
    | some a =>
      subst hr1
      have ej := as_join T hbl' S' (l1 rfl) (.inr ⟨rfl, rfl⟩)
      exact ⟨some a, H1, loop_done ej, O1, hb1, u1, u2, R1, R2, .inl ⟨a, rfl, F1⟩⟩
    | none =>
      subst hr1
      have hs1 : ∀ b, b < N → H1.blk b = h0.blk b := fun b hb => by
        rw [O1.old b (by have := T.ht; have := T.lt; omega) (by have := T.ht; omega), hs b hb]
      have hx1 : h0.next ≤ H1.next := Nat.le_trans hx O1.next
      have T1 : Tgt N et pt t q old H1 := T.of_only O1 hb1
      have S1 : Src 1 s H1 2 [u1, u2] := S.kept hx1 fun c hc => hs1 c (hsb c hc)
      have l3 := l2 rfl
      have h2 : ∃ r2 H2 R, loop (L29_1 (E tbl)) (jXs s 1 et pt t q) H1 = some R ∧ (R.1 = 1 ∨ (R.1 = 2 ∧ R.2.1 = [.bool true])) ∧ Nat.beq R.1 2 = r2.isSome ∧ R.2.2 = H2 ∧ Only t H1 H2 ∧ H2.blk t = some ⟨[r2.getD old], true⟩ ∧ Find h0 N et y u2 r2 := by
        by_cases hyn : y = .nil
        · subst hyn
          obtain rfl : u2 = .nilIface := R2
          exact ⟨none, H1, (1, [], H1), (loop_more (join_nil S1 1 (by omega) rfl)).trans (loop_done join_end), .inl rfl, rfl, rfl, Only.refl _ _, hb1, rfl⟩
        · obtain ⟨ty, z, rfl⟩ := R2.iface hyn
          obtain ⟨r, H, e1, O, hb2, F⟩ := as_loop h0 y _ old H1 R2 hyn hs1 hx1 T1
          have ej := join_el (et := et) (pt := pt) (t := t) (q := q) S1 1 (by omega) rfl (as_call e1)
          cases hr : r with
          | some a =>
            subst hr
            exact ⟨some a, H, (2, [.bool true], H), loop_done ej, .inr ⟨rfl, rfl⟩, rfl, rfl, O, hb2, F⟩
          | none =>
            subst hr
            exact ⟨none, H, (1, [], H), (loop_more ej).trans (loop_done join_end), .inl rfl, rfl, rfl, O, hb2, F⟩
      obtain ⟨r2, H2, R, e2, hR, hk, rfl, O2, hb2, F2⟩ := h2
      have ej := as_join T hbl' S' (l3.trans e2) hR
      rw [hk] at ej
      exact ⟨r2, _, loop_done ej, O1.trans O2, hb2, u1, u2, R1, R2, .inr ⟨F1, F2⟩⟩
end

end Go.Proofs.YtkbchgbpglamcaaDoor.Code
