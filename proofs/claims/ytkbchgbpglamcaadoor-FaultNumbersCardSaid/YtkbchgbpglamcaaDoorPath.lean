/- The ops on the way; errors.Is; texts. -/
import Derived.Test.YtkbchgbpglamcaaDoorIs
import Derived.Test.YtkbchgbpglamcaaDoorFwZm
namespace Go.Proofs.YtkbchgbpglamcaaDoor.Code
set_option linter.unusedSimpArgs false
set_option linter.unusedVariables false
open Go.Fw

theorem Ready.went {N : Nat} {h H : Heap} (R : Ready N h) (W : Went h H) : Ready N H :=
  R.of (Nat.le_refl _) (Nat.le_trans R.hi W.next) fun b hb => W.old b (Nat.lt_of_lt_of_le hb R.hi)
theorem Rep.went {N : Nat} {h H : Heap} {e : Er} {v : AVal} (r : Rep h N e v) (hN : N ≤ h.next) (W : Went h H) : Rep H N e v :=
  r.mono (Nat.le_refl _) W.next fun b hb => W.old b (Nat.lt_of_lt_of_le hb hN)

abbrev SrcT (s : AVal) (h : Heap) (l : List (List UInt8)) : Prop := Src 1 s h l.length (l.map .str)
abbrev OwnT (s : AVal) (h : Heap) (n0 : Nat) (l : List (List UInt8)) : Prop := Own 1 s h n0 l.length (l.map .str)

theorem path_ok {N : Nat} {h : Heap} (R : Ready N h) {e : Er} {v : AVal} (hr : Rep h N e v) (hlen : (pathOf e).length ≤ 1000) :
    ∃ o H, E tbl 12 [v] h = some (o, H) ∧ OwnT o H h.next (pathOf e) ∧ Went h H := by
  have key : ∃ res, loop (L12_0 (E tbl)) [v, .nilSlice, .ptr h.next 0] (h.alloc [.nilPtr]) = some res ∧ ∃ o H, res = (1, [o], H) ∧ OwnT o H (h.next + 1) (pathOf e) ∧ Went h H := by
    refine loop_ok (fun m xs G => ∃ e' v' o done old, pathOf e = done ++ pathOf e' ∧ m = (pathOf e').length ∧ Rep G N e' v' ∧ Went h G ∧ h.next < G.next ∧ G.blk h.next = some ⟨[old], true⟩ ∧ OwnT o G (h.next + 1) done ∧ xs = [v', o, .ptr h.next 0]) _ ?_
      (pathOf e).length _ _ ⟨e, v, .nilSlice, [], .nilPtr, rfl, rfl, hr.went R.hi (Went.alloc _ _), Went.alloc _ _, by simp, alloc_same _ _, Own.nil _ _ _, rfl⟩
    rintro m xs G ⟨e', v', o, done, old, he, rfl, Re, W, hlt, hb, O, rfl⟩
    by_cases hn : e' = .nil
    · subst hn
      obtain rfl : v' = .nilIface := Re
      right
      exact ⟨0, [o], G, by simp [L12_0, As_nil], o, G, rfl, by rw [he]; simpa [pathOf] using O, W⟩
    · obtain ⟨r, H, e1, O1, hb1, F⟩ := As_ok (et := 41) (pt := 56) (R.went W) (.inr ⟨rfl, rfl⟩) R.hi hlt hb Re hn
      have hno : ∀ b, slBlk o = some b → b < G.next ∧ b ≠ h.next := fun b hb => by have := O.blk b hb; omega
      have Oa : OwnT o H (h.next + 1) done := O.kept O1.next fun b hb => O1.old b (hno b hb).1 (hno b hb).2
      have Wa : Went h H := ⟨Nat.le_trans W.next O1.next, fun i hi => by rw [O1.old i (by have := W.next; omega) (by omega), W.old i hi]⟩
      rcases find_fault Re F with ⟨rfl, hf⟩ | ⟨b, op, u, rw, e2, rfl, hbN, hbl, Re2, hp, hf⟩
      · right
        exact ⟨0, [o], H, by simp [L12_0, e1], o, H, rfl, by rw [he, pathOf_none hf]; simpa using Oa, Wa⟩
      · left
        have hNn := R.hi
        have hbH : H.blk b = some ⟨[.str op, u], rw⟩ := by rw [O1.old b (by omega) (by omega)]; exact hbl
        have hdl : done.length + 1 ≤ 1000 := by
          have := congrArg List.length he
          rw [List.length_append, hp, List.length_cons] at this
          omega
        have hHn := O1.next
        obtain ⟨o', G2, e3, O3, K⟩ := Own.snoc (bytes := 16) (zero := [.str []]) (news := [.str op]) Oa (by omega) rfl (by omega) (by omega) (by omega)
        have K2 : ∀ c, c ≤ h.next → G2.blk c = H.blk c := fun c hc => K.old c (by omega) fun hh => by have := (Oa.blk c hh).1; omega
        have hbt : G2.blk h.next = some ⟨[.ptr b 0], true⟩ := by rw [K2 _ (Nat.le_refl _), hb1]; rfl
        have hbb : G2.blk b = some ⟨[.str op, u], rw⟩ := by rw [K2 b (by omega), hbH]
        have W2 : Went h G2 := ⟨by have := K.next; omega, fun i hi => by rw [K2 i (by omega), Wa.old i hi]⟩
        refine ⟨[u, o', .ptr h.next 0], G2, ?_, (pathOf e2).length, by rw [hp]; simp, e2, u, o', done ++ [op], _, by rw [he, hp]; simp, rfl, ?_, W2, by have := K.next; omega, hbt, by rw [OwnT, List.length_append, List.map_append]; exact O3, rfl⟩
        · simp [L12_0, e1, rd_bind, hb1, hbH, e3, hbt, hbb]
        · exact Re2.mono (Nat.le_refl _) (by have := K.next; omega) fun c hc => by rw [K2 c (by omega), O1.old c (by omega) (by omega)]
  obtain ⟨res, e1, o, H, rfl, O, W⟩ := key
  refine ⟨o, H, ?_, O.base (by omega), W⟩
  rw [c12]
  simp [S12, e1]

/-! errors.Is. -/
def isIn (m : Er) : Er → Bool
  | .nil => false
  | .code n => match m with | .code k => n == k | _ => false
  | .other b => match m with | .other c => b == c | _ => false
  | .fault _ e => isIn m e
  | .join x y => isIn m x || isIn m y

/-- What one looks for: a code, or an error of another kind. -/
def aim : Er → Option AVal
  | .code k => some (.iface 28 (.int .i64 k))
  | .other b => some (.iface 47 (.ptr b 0))
  | _ => none

section
variable {N : Nat} {h : Heap} {m : Er} {w : AVal}
abbrev isXs (v w : AVal) : List AVal := [v, w, .bool true]
theorem is_code (hm : aim m = some w) (n : Int) : L23_0 (E tbl) (isXs (.iface 28 (.int .i64 n)) w) h = some (1, [.bool (isIn m (.code n))], h) := by
  cases m <;> simp only [aim, Option.some.injEq, reduceCtorEq] at hm <;> subst hm
  · rename_i k
    by_cases hk : n = k
    · subst hk
      simp [L23_0, aBin, aEq, isIn]
    · have hb : (n == k) = false := by simpa using hk
      simp [L23_0, aBin, aEq, isIn, hb, aAssert, lookT, beq_dec]
  · simp [L23_0, aBin, aEq, isIn, aAssert, lookT, beq_dec]
theorem is_other (hm : aim m = some w) (b : Nat) (hne : ∀ c, m = .other c → c = b) : L23_0 (E tbl) (isXs (.iface 47 (.ptr b 0)) w) h = some (1, [.bool (isIn m (.other b))], h) := by
  cases m <;> simp only [aim, Option.some.injEq, reduceCtorEq] at hm <;> subst hm
  · simp [L23_0, aBin, aEq, isIn, aAssert, lookT, beq_dec]
  · rename_i c
    obtain rfl := hne c rfl
    simp [L23_0, aBin, aEq, isIn]
theorem is_fault (hm : aim m = some w) {b : Nat} {op : List UInt8} {u : AVal} {rw : Bool} (hb : h.blk b = some ⟨[.str op, u], rw⟩) :
    (u = .nilIface → L23_0 (E tbl) (isXs (.iface 41 (.ptr b 0)) w) h = some (1, [.bool false], h)) ∧
    ((∃ s x, u = .iface s x) → L23_0 (E tbl) (isXs (.iface 41 (.ptr b 0)) w) h = some (0, isXs u w, h)) := by
  have eu := unwrap_ok hb
  have hw : aBin .eql (.iface false [56, 83, 95, 111, 123]) (.iface 41 (.ptr b 0)) w = some (.bool false) := by
    cases m <;> simp only [aim, Option.some.injEq, reduceCtorEq] at hm <;> subst hm <;> simp [aBin, aEq]
  constructor
  · rintro rfl
    simp [L23_0, hw, aMeth, lookM, beq_dec, aAssert, lookT, eu]
  · rintro ⟨s, x, rfl⟩
    simp [L23_0, hw, aMeth, lookM, beq_dec, aAssert, lookT, eu]
end

/-- What errors.Is can tell of. -/
def okIs (m : Er) : Er → Prop
  | .other b => ∀ c, m = .other c → c = b
  | .fault _ e => okIs m e
  | .join _ _ => False
  | _ => True
theorem is_loop {N : Nat} {h : Heap} {m : Er} {w : AVal} (hm : aim m = some w) : ∀ {e : Er} {v : AVal}, Rep h N e v → e ≠ .nil → okIs m e → loop (L23_0 (E tbl)) (isXs v w) h = some (1, [.bool (isIn m e)], h)
  | .nil, _, _, hn, _ => (hn rfl).elim
  | .code n, _, r, _, _ => by obtain rfl := r; exact loop_done (is_code hm n)
  | .other b, _, r, _, ho => by obtain ⟨rfl, _⟩ := r; exact loop_done (is_other hm b ho)
  | .fault op e, _, r, _, ho => by
    obtain ⟨b, u, rw, rfl, hb, hbl, Re⟩ := r
    obtain ⟨f1, f2⟩ := is_fault (op := op) (u := u) hm hbl
    by_cases hen : e = .nil
    · subst hen
      obtain rfl : u = .nilIface := Re
      exact loop_done (f1 rfl)
    · have hi := is_loop hm (e := e) Re hen ho
      simpa [isIn] using (loop_more (f2 (Re.iface hen))).trans hi
  | .join _ _, _, _, _, ho => ho.elim
theorem Is_ok {N : Nat} {h : Heap} {m : Er} {w : AVal} (hm : aim m = some w) {e : Er} {v : AVal} (hr : Rep h N e v) (ho : okIs m e) : E tbl 9 [v, w] h = some (.bool (isIn m e), h) := by
  obtain ⟨s, x, rfl, hs⟩ : ∃ s x, w = .iface s x ∧ (s = 28 ∨ s = 47) := by
    cases m <;> simp only [aim, Option.some.injEq, reduceCtorEq] at hm <;> subst hm
    · exact ⟨_, _, rfl, .inl rfl⟩
    · exact ⟨_, _, rfl, .inr rfl⟩
  by_cases hn : e = .nil
  · subst hn
    obtain rfl : v = .nilIface := hr
    rw [c9]
    simp [S9, isIn, aBin, aEq]
  · have el := is_loop hm hr hn ho
    obtain ⟨t, y, rfl⟩ := hr.iface hn
    have e55 : E tbl 55 [.agg [.ptr 1 s]] h = some (.bool true, h) := by
      rw [c55]
      rcases hs with rfl | rfl <;> rfl
    have e23 : E tbl 23 [.iface t y, .iface s x, .bool true] h = some (.bool (isIn m e), h) := by
      rw [c23]
      simp [S23, el]
    rw [c9]
    simp [S9, typ, aMeth, lookM, beq_dec, e55, e23]
theorem Has_ok {N : Nat} {h : Heap} {k : Int} {e : Er} {v : AVal} (hr : Rep h N e v) (ho : okIs (.code k) e) : E tbl 13 [v, .int .i64 k] h = some (.bool (isIn (.code k) e), h) := by
  rw [c13]
  simp [S13, Is_ok (m := .code k) rfl hr ho]

end Go.Proofs.YtkbchgbpglamcaaDoor.Code
