/- YtjibfbphiemljaaGreatDoorErr -/
import Derived.Test.YtjibfbphiemljaaGreatDoorIs
import Derived.Test.YtjibfbphiemljaaGreatDoorFwZm
set_option linter.unusedSimpArgs false
set_option linter.unusedVariables false
namespace Go.Proofs.YtjibfbphiemljaaGreatDoor.Code
open Go.Fw
theorem Ready.went {N : Nat} {h H : Heap} (R : Ready N h) (W : Went h H) : Ready N H :=
  R.of (Nat.le_refl _) (Nat.le_trans R.hi W.next) fun b hb => W.old b (Nat.lt_of_lt_of_le hb R.hi)
theorem Rep.went {N : Nat} {h H : Heap} {e : Er} {v : AVal} (r : Rep h N e v) (hN : N ≤ h.next) (W : Went h H) : Rep H N e v :=
  r.mono (Nat.le_refl _) W.next fun b hb => W.old b (Nat.lt_of_lt_of_le hb hN)
abbrev SrcT (s : AVal) (h : Heap) (l : List (List UInt8)) : Prop := Src 1 s h l.length (l.map .str)
abbrev OwnT (s : AVal) (h : Heap) (n0 : Nat) (l : List (List UInt8)) : Prop := Own 1 s h n0 l.length (l.map .str)
theorem path_ok {N : Nat} {h : Heap} (R : Ready N h) {e : Er} {v : AVal} (hr : Rep h N e v) (hlen : (pathOf e).length ≤ 1000) :
    ∃ o H, E tbl 47 [v] h = some (o, H) ∧ OwnT o H h.next (pathOf e) ∧ Went h H := by
  have key : ∃ res, loop (L47_0 (E tbl)) [v, .nilSlice, .ptr h.next 0] (h.alloc [.nilPtr]) = some res ∧ ∃ o H, res = (1, [o], H) ∧ OwnT o H (h.next + 1) (pathOf e) ∧ Went h H := by
    refine loop_ok (fun m xs G => ∃ e' v' o done old, pathOf e = done ++ pathOf e' ∧ m = (pathOf e').length ∧ Rep G N e' v' ∧ Went h G ∧ h.next < G.next ∧ G.blk h.next = some ⟨[old], true⟩ ∧ OwnT o G (h.next + 1) done ∧ xs = [v', o, .ptr h.next 0]) _ ?_
      (pathOf e).length _ _ ⟨e, v, .nilSlice, [], .nilPtr, rfl, rfl, hr.went R.hi (Went.alloc _ _), Went.alloc _ _, by simp, alloc_same _ _, Own.nil _ _ _, rfl⟩
    rintro m xs G ⟨e', v', o, done, old, he, rfl, Re, W, hlt, hb, O, rfl⟩
    by_cases hn : e' = .nil
    · subst hn
      obtain rfl : v' = .nilIface := Re
      right
      exact ⟨0, [o], G, by simp [L47_0, As_nil], o, G, rfl, by rw [he]; simpa [pathOf] using O, W⟩
    · obtain ⟨r, H, e1, O1, hb1, F⟩ := As_ok (et := 98) (pt := 103) (R.went W) (.inr ⟨rfl, rfl⟩) R.hi hlt hb Re hn
      have hno : ∀ b, slBlk o = some b → b < G.next ∧ b ≠ h.next := fun b hb => by have := O.blk b hb; omega
      have Oa : OwnT o H (h.next + 1) done := O.kept O1.next fun b hb => O1.old b (hno b hb).1 (hno b hb).2
      have Wa : Went h H := ⟨Nat.le_trans W.next O1.next, fun i hi => by rw [O1.old i (by have := W.next; omega) (by omega), W.old i hi]⟩
      rcases find_fault Re F with ⟨rfl, hf⟩ | ⟨b, op, u, rw, e2, rfl, hbN, hbl, Re2, hp, hf⟩
      · right
        exact ⟨0, [o], H, by simp [L47_0, e1], o, H, rfl, by rw [he, pathOf_none hf]; simpa using Oa, Wa⟩
      · left
        have hNn := R.hi
        have hbH : H.blk b = some ⟨[.str op, u], rw⟩ := by rw [O1.old b (by omega) (by omega)]; exact hbl
        have hdl : done.length + 1 ≤ 1000 := by
          have := congrArg List.length he
          rw [List.length_append, hp, List.length_cons] at this
          omega
        have hHn := O1.next
        obtain ⟨o', G2, e3, O3, K⟩ := Own.snoc (bytes := 16) (zero := [.str []]) (news := [.str op]) Oa (by omega) rfl (by omega) (by omega) (by omega)
        have K2 : ∀ c, c ≤ h.next → G2.blk c = H.blk c := fun c hc => K.old c (by omega) fun hh => by have := (Oa.blk c hh).1; omega
        have hbt : G2.blk h.next = some ⟨[.ptr b 0], true⟩ := by rw [K2 _ (Nat.le_refl _), hb1]; rfl
        have hbb : G2.blk b = some ⟨[.str op, u], rw⟩ := by rw [K2 b (by omega), hbH]
        have W2 : Went h G2 := ⟨by have := K.next; omega, fun i hi => by rw [K2 i (by omega), Wa.old i hi]⟩
        refine ⟨[u, o', .ptr h.next 0], G2, ?_, (pathOf e2).length, by rw [hp]; simp, e2, u, o', done ++ [op], _, by rw [he, hp]; simp, rfl, ?_, W2, by have := K.next; omega, hbt, by rw [OwnT, List.length_append, List.map_append]; exact O3, rfl⟩
        · simp [L47_0, e1, rd_bind, hb1, hbH, e3, hbt, hbb]
        · exact Re2.mono (Nat.le_refl _) (by have := K.next; omega) fun c hc => by rw [K2 c (by omega), O1.old c (by omega) (by omega)]
  obtain ⟨res, e1, o, H, rfl, O, W⟩ := key
  refine ⟨o, H, ?_, O.base (by omega), W⟩
  rw [c47]
  simp [S47, e1]
theorem new_ok (op : List UInt8) (k : Int) (h : Heap) : ∃ v H, E tbl 48 [.str op, .int .i64 k] h = some (v, H) ∧ Rep H H.next (if k = 0 then .nil else .fault op (.code k)) v ∧ Went h H := by
  by_cases hk : k = 0
  · subst hk
    exact ⟨.nilIface, h, by rw [c48]; simp [S48], rfl, Went.refl _⟩
  · have hb : (k == 0) = false := by simpa using hk
    refine ⟨.iface 98 (.ptr h.next 0), h.alloc [.str op, .iface 50 (.int .i64 k)], ?_, ?_, Went.alloc _ _⟩
    · rw [c48]
      simp [S48, hb, aCells, AVal.cells?]
    · rw [if_neg hk]
      exact ⟨h.next, .iface 50 (.int .i64 k), true, rfl, by simp, alloc_same _ _, rfl⟩
def wrapE (op : List UInt8) : Er → Er
  | .nil => .nil
  | e => .fault op e
theorem wrap_ok (op : List UInt8) {N : Nat} {h : Heap} {e : Er} {v : AVal} (hr : Rep h N e v) (hN : N ≤ h.next) :
    ∃ v' H, E tbl 37 [.str op, v] h = some (v', H) ∧ Rep H H.next (wrapE op e) v' ∧ Went h H := by
  by_cases hn : e = .nil
  · subst hn
    obtain rfl : v = .nilIface := hr
    exact ⟨.nilIface, h, by rw [c37]; simp [S37], rfl, Went.refl _⟩
  · obtain ⟨s, x, rfl⟩ := hr.iface hn
    refine ⟨.iface 98 (.ptr h.next 0), h.alloc [.str op, .iface s x], ?_, ?_, Went.alloc _ _⟩
    · rw [c37]
      simp [S37, aCells, AVal.cells?]
    · have : Rep (h.alloc [.str op, .iface s x]) (h.alloc [.str op, .iface s x]).next (.fault op e) (.iface 98 (.ptr h.next 0)) :=
        ⟨h.next, .iface s x, true, rfl, by simp, alloc_same _ _, hr.mono (by simp; omega) (by simp) fun b hb => Heap.alloc_other _ _ (by omega)⟩
      cases e <;> first | exact (hn rfl).elim | exact this
theorem ssame_ok {a b : AVal} {h : Heap} {l m : List (List UInt8)} (A : SrcT a h l) (B : SrcT b h m) (hl : l.length ≤ 1000000) : E tbl 46 [a, b] h = some (.bool (decide (l = m)), h) := by
  have ea := A.len
  have eb := B.len
  rw [c46]
  by_cases hn : l.length = m.length
  · have hb : ((l.length : Int) != (m.length : Int)) = false := by simp [hn]
    have key : ∃ res, loop (L46_0 (E tbl)) [a, b, .int .i64 0] h = some res ∧ (res = (1, [], h) ∧ l = m ∨ res = (2, [.bool false], h) ∧ l ≠ m) := by
      refine loop_ok (fun k xs G => ∃ i, k + i = l.length ∧ G = h ∧ l.take i = m.take i ∧ xs = [a, b, .int .i64 (i : Int)]) _ ?_ l.length _ _ ⟨0, rfl, rfl, by simp, rfl⟩
      rintro k xs G ⟨i, hk, rfl, ht, rfl⟩
      by_cases hi : i < l.length
      · obtain ⟨p, a1, a2⟩ := Src.str A i hi
        obtain ⟨q, b1, b2⟩ := Src.str B i (by omega)
        have i1 : (i : Int) < (l.length : Int) := by omega
        have w1 : IntKind.i64.wrap ((i : Int) + 1) = ((i + 1 : Nat) : Int) := by rw [IntWalk.i64_in _ (by omega)]; omega
        have gl : l.getD i [] = l[i] := by simp [List.getD_eq_getElem?_getD, List.getElem?_eq_getElem hi]
        have gm : m.getD i [] = m[i]'(by omega) := by simp [List.getD_eq_getElem?_getD, List.getElem?_eq_getElem (show i < m.length by omega)]
        rw [gl] at a2
        rw [gm] at b2
        by_cases he : l[i] = m[i]'(by omega)
        · left
          rw [he] at a2
          refine ⟨[a, b, .int .i64 ((i + 1 : Nat) : Int)], G, ?_, k - 1, by omega, i + 1, by omega, rfl, ?_, rfl⟩
          · simp [L46_0, ea, i1, a1, a2, b1, b2, w1]
          · rw [List.take_add_one, List.take_add_one, ht, List.getElem?_eq_getElem hi, List.getElem?_eq_getElem (show i < m.length by omega), he]
        · right
          have hbe : (l[i] == m[i]'(by omega)) = false := by simpa using he
          refine ⟨1, [.bool false], G, ?_, .inr ⟨rfl, fun hh => he (by subst hh; rfl)⟩⟩
          simp [L46_0, ea, i1, a1, a2, b1, b2, hbe]
      · right
        have i1 : ¬ (i : Int) < (l.length : Int) := by omega
        refine ⟨0, [], G, by simp [L46_0, ea, i1], .inl ⟨rfl, ?_⟩⟩
        rw [List.take_of_length_le (by omega), List.take_of_length_le (by omega)] at ht
        exact ht
    obtain ⟨res, e1, ⟨rfl, he⟩ | ⟨rfl, he⟩⟩ := key
    · simp [S46, ea, eb, hb, e1, he]
    · simp [S46, ea, eb, hb, e1, he, beq_dec]
  · have hb : ((l.length : Int) != (m.length : Int)) = true := by simp only [bne_iff_ne, ne_eq]; omega
    have he : l ≠ m := fun hh => hn (by rw [hh])
    simp [S46, ea, eb, hb, he]
abbrev Rdy (h : Heap) : Prop := Ready h.next h
theorem Rdy.went {h H : Heap} (R : Rdy h) (W : Went h H) : Rdy H := R.of W.next (Nat.le_refl _) W.old
theorem Rdy.at {h H : Heap} (R : Rdy h) (W : Went h H) : Ready h.next H := Ready.went R W
theorem code_okW {h : Heap} (R : Rdy h) {N : Nat} (hN : N ≤ h.next) {e : Er} {v : AVal} (hr : Rep h N e v) : ∃ H, E tbl 45 [v] h = some (.int .i64 (codeI e), H) ∧ Went h H := by
  obtain ⟨H, e1, h1, h2⟩ := code_ok R (hr.mono (M := h.next) hN (Nat.le_refl _) fun _ _ => rfl)
  exact ⟨H, e1, h1, h2⟩
theorem path_okW {h : Heap} (R : Rdy h) {N : Nat} (hN : N ≤ h.next) {e : Er} {v : AVal} (hr : Rep h N e v) (hlen : (pathOf e).length ≤ 1000) : ∃ o H, E tbl 47 [v] h = some (o, H) ∧ OwnT o H h.next (pathOf e) ∧ Went h H :=
  path_ok R (hr.mono (M := h.next) hN (Nat.le_refl _) fun _ _ => rfl) hlen
end Go.Proofs.YtjibfbphiemljaaGreatDoor.Code
