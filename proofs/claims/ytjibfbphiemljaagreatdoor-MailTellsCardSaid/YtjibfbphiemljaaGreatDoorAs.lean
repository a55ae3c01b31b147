/- YtjibfbphiemljaaGreatDoorAs -/
import Derived.Test.YtjibfbphiemljaaGreatDoorCode
import Derived.Test.YtjibfbphiemljaaGreatDoorFwZm
set_option linter.unusedSimpArgs false
set_option linter.unusedVariables false
namespace Go.Proofs.YtjibfbphiemljaaGreatDoor.Code
open Go.Fw
@[simp] theorem if_nil (c : Bool) (l : List Nat) (t : Nat) (v : AVal) : aBin .eql (.iface c l) (.iface t v) .nilIface = some (.bool false) := by cases v <;> cases c <;> rfl
@[simp] theorem if_nil' (c : Bool) (l : List Nat) (t : Nat) (v : AVal) : aBin .neq (.iface c l) (.iface t v) .nilIface = some (.bool true) := by cases v <;> cases c <;> rfl
@[simp] theorem nil_nil (l : List Nat) : aBin .eql (.iface true l) .nilIface .nilIface = some (.bool true) := rfl
@[simp] theorem nil_nil' (l : List Nat) : aBin .neq (.iface true l) .nilIface .nilIface = some (.bool false) := rfl
inductive Er where
  | nil
  | code (n : Int)
  | fault (op : List UInt8) (e : Er)
def Rep (h : Heap) (N : Nat) : Er → AVal → Prop
  | .nil, v => v = .nilIface
  | .code n, v => v = .iface 50 (.int .i64 n)
  | .fault op e, v => ∃ b u rw, v = .iface 98 (.ptr b 0) ∧ b < N ∧ h.blk b = some ⟨[.str op, u], rw⟩ ∧ Rep h N e u
theorem Rep.mono {h H : Heap} {N M : Nat} (hM : N ≤ M) (hn : h.next ≤ H.next) (hb : ∀ b, b < N → H.blk b = h.blk b) : ∀ (e : Er) {v : AVal}, Rep h N e v → Rep H M e v
  | .nil, v, r => r
  | .code n, v, r => r
  | .fault op e, v, r => by
    obtain ⟨b, u, rw, h1, h2, h3, h4⟩ := r
    exact ⟨b, u, rw, h1, Nat.lt_of_lt_of_le h2 hM, by rw [hb b h2]; exact h3, Rep.mono hM hn hb e h4⟩
def Find (h : Heap) (N : Nat) (et : Nat) : Er → AVal → Option AVal → Prop
  | .nil, _, r => r = none
  | .code n, _, r => r = if et = 50 then some (.int .i64 n) else none
  | .fault _ e, v, r => if et = 98 then ∃ p, v = .iface 98 p ∧ r = some p else ∃ u, Rep h N e u ∧ Find h N et e u r
theorem asg (s t : Nat) (h : Heap) (hs : s = 50 ∨ s = 98) (ht : t = 50 ∨ t = 98) : E tbl 123 [.agg [.ptr 1 s], .iface 135 (.agg [.ptr 1 t])] h = some (.bool (decide (s = t)), h) := by
  rw [c123]
  rcases hs with rfl | rfl <;> rcases ht with rfl | rfl <;> rfl
theorem typ (t : Nat) (v : AVal) (h : Heap) : E tbl 95 [.iface t v] h = some (.iface 135 (.agg [.ptr 1 t]), h) := by rw [c95]; rfl
structure Tgt (N et pt t q : Nat) (old : AVal) (h : Heap) : Prop where
  ok : (et = 50 ∧ pt = 102) ∨ (et = 98 ∧ pt = 103)
  blkt : h.blk t = some ⟨[old], true⟩
  blkq : h.blk q = some ⟨[.ptr t 0], true⟩
  ht : N ≤ t
  hq : N ≤ q
  lt : t < h.next
  lq : q < h.next
  ne : t ≠ q
abbrev tgV (pt q : Nat) : AVal := .agg [.ptr 1 pt, .ptr q 0, .int .u64 150]
abbrev asXs (v : AVal) (et pt t q : Nat) : List AVal := [v, .iface pt (.ptr t 0), .iface 135 (.agg [.ptr 1 et]), .agg [.ptr 1 pt, .ptr q 0, .int .u64 150]]
section
variable {N et pt t q : Nat} {old : AVal} {h : Heap}
theorem as_hit (T : Tgt N et pt t q old h) (x : AVal) (hx : x.cells? = some [x]) :
    ∃ H, L90_0 (E tbl) (asXs (.iface et x) et pt t q) h = some (1, [.bool true], H) ∧ Only t h H ∧ H.blk t = some ⟨[x], true⟩ := by
  have he : et = 50 ∨ et = 98 := by rcases T.ok with ⟨a, _⟩ | ⟨a, _⟩ <;> simp [a]
  have hw : ∀ k : Int, 0 < k → True := fun _ _ => trivial
  have e1 : E tbl 96 [tgV pt q] h = some (.agg [.ptr 1 et, .ptr t 0, .int .u64 (if et = 50 then 386 else 406)], h) := by
    rw [c96]
    rcases T.ok with ⟨rfl, rfl⟩ | ⟨rfl, rfl⟩ <;> simp [pValueElem, aParts, lookP, beq_dec, rd_bind, T.blkq, one?, ptrV]
  have e2 : E tbl 87 [.iface et x] h = some (.agg [.ptr 1 et, .ptr h.next 0, .int .u64 (if et = 50 then 130 else 150)], h.alloc [x]) := by
    rw [c87]
    rcases he with rfl | rfl <;> simp [pValueOf, lookN, beq_dec, hx]
  have hne : t ≠ h.next := by have := T.lt; omega
  have hrd : (h.alloc [x]).rd h.next 0 1 = some [x] := by simp [rd_bind]
  have hwr : (h.alloc [x]).wr t 0 [x] = some ((h.alloc [x]).setBlk t (some ⟨[x], true⟩)) := by
    simp [wr_bind, Heap.alloc_other _ _ hne, T.blkt]
  have hxc : aCells 1 x = some [x] := by simp [aCells, hx]
  have e3 : E tbl 97 [.agg [.ptr 1 et, .ptr t 0, .int .u64 (if et = 50 then 386 else 406)], .agg [.ptr 1 et, .ptr h.next 0, .int .u64 (if et = 50 then 130 else 150)]] (h.alloc [x]) = some (.tuple [], (h.alloc [x]).setBlk t (some ⟨[x], true⟩)) := by
    rw [c97]
    rcases he with rfl | rfl <;> simp [pSet, aParts, hrd, hwr, one?, hxc]
  refine ⟨(h.alloc [x]).setBlk t (some ⟨[x], true⟩), ?_, ⟨by simp, fun b hb hp => ?_⟩, by simp⟩
  · have ea := asg et et h (by rcases he with rfl | rfl <;> simp) he
    simp [L90_0, typ, aMeth, lookM, beq_dec, ea, e1, e2, e3]
  · rw [Heap.setBlk_other _ _ hp, Heap.alloc_other _ _ (by omega)]
theorem as_miss (T : Tgt N et pt t q old h) (s : Nat) (x : AVal) (hs : s = 50) (hne : s ≠ et) : L90_0 (E tbl) (asXs (.iface s x) et pt t q) h = some (1, [.bool false], h) := by
  have he : et = 50 ∨ et = 98 := by rcases T.ok with ⟨a, _⟩ | ⟨a, _⟩ <;> simp [a]
  have ea := asg s et h (by subst hs; simp) he
  rw [decide_eq_false hne] at ea
  subst hs
  simp [L90_0, typ, aMeth, lookM, beq_dec, ea, aAssert, lookT]
theorem unwrap_ok {b : Nat} {op : List UInt8} {u : AVal} {rw : Bool} (hb : h.blk b = some ⟨[.str op, u], rw⟩) : E tbl 118 [.ptr b 0] h = some (u, h) := by
  rw [c118]
  simp [S118, rd_bind, hb]
theorem as_fault (T : Tgt N et pt t q old h) (hne : et ≠ 98) {b : Nat} {op : List UInt8} {u : AVal} {rw : Bool} (hb : h.blk b = some ⟨[.str op, u], rw⟩) :
    (u = .nilIface → L90_0 (E tbl) (asXs (.iface 98 (.ptr b 0)) et pt t q) h = some (1, [.bool false], h)) ∧
    ((∃ s x, u = .iface s x) → L90_0 (E tbl) (asXs (.iface 98 (.ptr b 0)) et pt t q) h = some (0, asXs u et pt t q, h)) := by
  obtain ⟨rfl, rfl⟩ : et = 50 ∧ pt = 102 := by rcases T.ok with a | ⟨a, _⟩; exact a; exact (hne a).elim
  have ea := asg 98 50 h (by simp) (by simp)
  have eu := unwrap_ok hb
  constructor
  · rintro rfl
    simp [L90_0, typ, aMeth, lookM, beq_dec, ea, aAssert, lookT, eu]
  · rintro ⟨s, x, rfl⟩
    simp [L90_0, typ, aMeth, lookM, beq_dec, ea, aAssert, lookT, eu]
end
theorem Rep.iface {h : Heap} {N : Nat} : ∀ {e : Er} {v : AVal}, Rep h N e v → e ≠ .nil → ∃ s x, v = .iface s x
  | .nil, _, _, hn => (hn rfl).elim
  | .code n, _, r, _ => ⟨_, _, r⟩
  | .fault op e, _, r, _ => by obtain ⟨b, u, rw, h1, _⟩ := r; exact ⟨_, _, h1⟩
abbrev asArgs (v : AVal) (et pt t q : Nat) : List AVal := [v, .iface pt (.ptr t 0), .agg [.ptr 1 pt, .ptr q 0, .int .u64 150], .iface 135 (.agg [.ptr 1 et])]
section
variable {N et pt t q : Nat} {old : AVal} {h : Heap}
theorem as_call {v : AVal} {b : Bool} {H : Heap} (e : loop (L90_0 (E tbl)) (asXs v et pt t q) h = some (1, [.bool b], H)) : E tbl 90 (asArgs v et pt t q) h = some (.bool b, H) := by
  rw [c90]
  simp [S90, e]
theorem as_loop (h0 : Heap) : ∀ (e : Er) (v : AVal) (old : AVal) (h : Heap), Rep h0 N e v → e ≠ .nil → (∀ b, b < N → h.blk b = h0.blk b) → h0.next ≤ h.next → Tgt N et pt t q old h →
    ∃ r H, loop (L90_0 (E tbl)) (asXs v et pt t q) h = some (1, [.bool r.isSome], H) ∧ Only t h H ∧ H.blk t = some ⟨[r.getD old], true⟩ ∧ Find h0 N et e v r
  | .nil, _, _, _, _, hn, _, _, _ => (hn rfl).elim
  | .code n, v, old, h, R, _, hs, hx, T => by
    obtain rfl : v = .iface 50 (.int .i64 n) := R
    by_cases he : et = 50
    · subst he
      obtain ⟨H, e1, O, hb⟩ := as_hit T (.int .i64 n) rfl
      exact ⟨some (.int .i64 n), H, loop_done e1, O, hb, by simp [Find]⟩
    · exact ⟨none, h, loop_done (as_miss T 50 _ rfl (Ne.symm he)), Only.refl _ _, T.blkt, by simp [Find, he]⟩
  | .fault op e, v, old, h, R, _, hs, hx, T => by
    obtain ⟨b, u, rw, rfl, hb, hbl, Re⟩ := R
    by_cases he : et = 98
    · subst he
      obtain ⟨H, e1, O, hb⟩ := as_hit T (.ptr b 0) rfl
      exact ⟨some (.ptr b 0), H, loop_done e1, O, hb, by simp [Find]⟩
    · have hbl' : h.blk b = some ⟨[.str op, u], rw⟩ := by rw [hs b hb]; exact hbl
      obtain ⟨f1, f2⟩ := as_fault T he hbl'
      by_cases hen : e = .nil
      · subst hen
        obtain rfl : u = .nilIface := Re
        exact ⟨none, h, loop_done (f1 rfl), Only.refl _ _, T.blkt, by rw [Find, if_neg he]; exact ⟨.nilIface, rfl, rfl⟩⟩
      · obtain ⟨r, H, e1, O, hb2, F⟩ := as_loop h0 e u old h Re hen hs hx T
        exact ⟨r, H, (loop_more (f2 (Re.iface hen))).trans e1, O, hb2, by rw [Find, if_neg he]; exact ⟨u, Re, F⟩⟩
end
end Go.Proofs.YtjibfbphiemljaaGreatDoor.Code
