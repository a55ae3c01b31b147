/- Neighbours that are the same are put together. -/
import Derived.Test.YtllogmedpmanoaaTexts
namespace Go.Proofs.Ytllogmedpmanoaa.Code
set_option linter.unusedSimpArgs false
set_option linter.unusedVariables false
open Go.Fw

def ddS (acc : List Tx) (x : Tx) : List Tx := if acc.getLast? = some x then acc else acc ++ [x]
def dd (l : List Tx) : List Tx := l.foldl ddS []
theorem dd_snoc (l : List Tx) (x : Tx) : dd (l ++ [x]) = ddS (dd l) x := by simp [dd, List.foldl_append]
theorem ddS_last (acc : List Tx) (x : Tx) : (ddS acc x).getLast? = some x := by
  unfold ddS
  split
  · assumption
  · simp
theorem dd_last (l : List Tx) (i : Nat) (hi : i < l.length) : (dd (l.take (i + 1))).getLast? = some l[i] := by
  rw [List.take_add_one, List.getElem?_eq_getElem hi]
  show (dd (l.take i ++ [l[i]])).getLast? = _
  rw [dd_snoc, ddS_last]
theorem dd_next (l : List Tx) (i : Nat) (hi : i + 1 < l.length) : dd (l.take (i + 2)) = if l[i] = l[i + 1] then dd (l.take (i + 1)) else dd (l.take (i + 1)) ++ [l[i + 1]] := by
  have e : l.take (i + 2) = l.take (i + 1) ++ [l[i + 1]] := by
    rw [List.take_add_one, List.getElem?_eq_getElem hi]; rfl
  rw [e, dd_snoc]
  unfold ddS
  rw [dd_last l i (by omega)]
  by_cases h : l[i] = l[i + 1]
  · rw [if_pos (by rw [h]), if_pos h]
  · rw [if_neg (by simpa using h), if_neg h]
theorem dd_small (l : List Tx) (h : l.length < 2) : dd l = l := by
  match l, h with
  | [], _ => rfl
  | [x], _ => rfl
  | _ :: _ :: _, h => simp at h; omega
theorem dd_len : ∀ (l acc : List Tx), (l.foldl ddS acc).length ≤ acc.length + l.length
  | [], acc => by simp
  | x :: l, acc => by
    rw [List.foldl_cons]
    have := dd_len l (ddS acc x)
    have h2 : (ddS acc x).length ≤ acc.length + 1 := by unfold ddS; split <;> simp
    simp
    omega

abbrev SrcT (s : AVal) (h : Heap) (l : List Tx) : Prop := txE.Src s h l
abbrev OwnT (s : AVal) (h : Heap) (n0 : Nat) (l : List Tx) : Prop := txE.Own s h n0 l
abbrev BufT (s : AVal) (h : Heap) (n0 : Nat) (l : List Tx) : Prop := txE.Buf s h n0 l
theorem BufT.at {s : AVal} {h : Heap} {n0 : Nat} {l : List Tx} (B : BufT s h n0 l) (i : Nat) (hi : i < l.length) : ∃ p, aIaddr 1 s (.int .i64 i) = some p ∧ aLoad h 1 p = some [.str l[i]] := El.Src.el (E := txE) (Fw.Buf.src B) i hi

/-- The rest of a row, by the row's own places. -/
theorem rest_at {s : AVal} {h : Heap} {n0 : Nat} {l : List Tx} (B : BufT s h n0 l) (k : Nat) (hk : k ≤ l.length) :
    ∃ t, aSliceSl 1 s (some (.int .i64 k)) none none = some t ∧ aLen false t = some (.int .i64 (l.length - k : Nat)) ∧ ∀ j : Nat, k + j < l.length → aIaddr 1 t (.int .i64 j) = aIaddr 1 s (.int .i64 (k + j : Nat)) := by
  obtain ⟨hl, ⟨rfl, h0⟩ | ⟨b, ex, m, rest, rfl, a1, a2, a3, a4⟩⟩ := B
  · obtain rfl : k = 0 := by omega
    refine ⟨.nilSlice, rfl, ?_, fun j hj => by omega⟩
    rw [h0]; rfl
  · have h1 : (k : Int) ≤ (l.length : Int) := by omega
    refine ⟨.slice b k (l.length - k) (l.length + m - k) 1 ex, ?_, rfl, fun j hj => ?_⟩
    · have h1' : k ≤ l.length := hk
      simp [aSliceSl, aBound, h1']
    · have i1 : (j : Int) < ((l.length - k : Nat) : Int) := by omega
      have i2 : ((k + j : Nat) : Int) < (l.length : Int) := by omega
      simp only [aIaddr, aIdx, Nat.beq_refl, show Nat.beq 1 1 = true from rfl, cond_true]
      rw [if_pos ⟨by omega, i1⟩, if_pos ⟨by omega, i2⟩]
      simp
      omega

theorem compact_ok {s : AVal} {h : Heap} {n0 : Nat} {l : List Tx} (B : BufT s h n0 l) (hl : l.length ≤ 1000) :
    ∃ s' H, E tbl 25 [s] h = some (s', H) ∧ BufT s' H n0 (dd l) ∧ slBlk s' = slBlk s ∧ OnlyS s h H := by
  have ln : aLen false s = some (.int .i64 l.length) := (Fw.Buf.src B).len
  by_cases h2 : l.length < 2
  · refine ⟨s, h, ?_, by rw [dd_small l h2]; exact B, rfl, OnlyS.refl _ _⟩
    have i2 : (l.length : Int) < 2 := by omega
    rw [c25]
    simp [S25, ln, i2]
  · have i2 : decide ((l.length : Int) < 2) = false := decide_eq_false (by omega)
    have key : ∃ res, loop (L25_0 (E tbl)) [s, .int .i64 1] h = some res ∧ ∃ i s' H, (i = 0 ∨ i = 1) ∧ res = (i + 1, [s'], H) ∧ BufT s' H n0 (dd l) ∧ slBlk s' = slBlk s ∧ OnlyS s h H := by
      refine loop_ok (fun m xs G => ∃ k : Nat, m + k = l.length ∧ 1 ≤ k ∧ dd (l.take k) = l.take k ∧ G = h ∧ xs = [s, .int .i64 k]) _ ?_ (l.length - 1) _ _ ⟨1, by omega, Nat.le_refl _, dd_small _ (by rw [List.length_take]; omega), rfl, rfl⟩
      rintro m xs G ⟨k, hm, hk, hd, rfl, rfl⟩
      by_cases h1 : k < l.length
      · have i1 : decide ((k : Int) < (l.length : Int)) = true := decide_eq_true (by omega)
        have wk : IntKind.i64.wrap ((k : Int) - 1) = ((k - 1 : Nat) : Int) := by rw [IntWalk.i64_in _ (by omega)]; omega
        have ws := wrap_succ k (by omega)
        obtain ⟨p1, a1, a2⟩ := BufT.at B k h1
        obtain ⟨p0, b1, b2⟩ := BufT.at B (k - 1) (by omega)
        have hn := dd_next l (k - 1) (by omega)
        have ek : k - 1 + 1 = k := by omega
        have ek2 : k - 1 + 2 = k + 1 := by omega
        simp only [ek, ek2] at hn
        by_cases heq : l[k - 1] = l[k]
        · right
          rw [if_pos heq, hd] at hn
          have ce : aBin .eql .plain (.str l[k]) (.str l[k - 1]) = some (.bool true) := by rw [bin_str_eql, heq]; simp
          obtain ⟨t, t1, t2, t3⟩ := rest_at B k (by omega)
          have inner : ∃ res, loop (L25_1 (E tbl)) [s, .int .i64 k, t, .int .i64 1] G = some res ∧ ∃ w C F, res = (1, [s, .int .i64 (w : Nat)], F) ∧ BufT s F n0 C ∧ w ≤ C.length ∧ C.take w = dd l ∧ OnlyS s G F := by
            refine loop_ok (fun m xs F => ∃ (r w : Nat) (C : List Tx), m + r = l.length ∧ k + 1 ≤ r ∧ BufT s F n0 C ∧ C.length = l.length ∧ w + 1 ≤ r ∧ C.take w = dd (l.take r) ∧ C.drop (r - 1) = l.drop (r - 1) ∧ OnlyS s G F ∧ xs = [s, .int .i64 (w : Nat), t, .int .i64 (r - k : Nat)]) _ ?_ (l.length - (k + 1)) _ _ ⟨k + 1, k, l, by omega, Nat.le_refl _, B, rfl, Nat.le_refl _, hn.symm, rfl, OnlyS.refl _ _, by rw [show k + 1 - k = 1 by omega]; rfl⟩
            rintro m xs F ⟨r, w, C, hm2, hr, BC, hC, hw, hdw, hdr, OF, rfl⟩
            by_cases hrl : r < l.length
            · left
              have j1 : decide (((r - k : Nat) : Int) < ((l.length - k : Nat) : Int)) = true := decide_eq_true (by omega)
              have wj : IntKind.i64.wrap (((r - k : Nat) : Int) - 1) = ((r - k - 1 : Nat) : Int) := by rw [IntWalk.i64_in _ (by omega)]; omega
              have wn : IntKind.i64.wrap (((r - k : Nat) : Int) + 1) = ((r + 1 - k : Nat) : Int) := by rw [IntWalk.i64_in _ (by omega)]; omega
              have ww := wrap_succ w (by omega)
              obtain ⟨q1, f1, f2⟩ := BufT.at BC r (by omega)
              obtain ⟨q0, g1, g2⟩ := BufT.at BC (r - 1) (by omega)
              have x1 := t3 (r - k) (by omega)
              have x0 := t3 (r - k - 1) (by omega)
              rw [show k + (r - k) = r by omega, f1] at x1
              rw [show k + (r - k - 1) = r - 1 by omega, g1] at x0
              have v0 : C[r - 1]'(by omega) = l[r - 1] := by
                have := congrArg (fun z : List Tx => z[0]?) hdr
                simp only [List.getElem?_drop, Nat.add_zero] at this
                rw [List.getElem?_eq_getElem (by omega), List.getElem?_eq_getElem (by omega)] at this
                exact Option.some.inj this
              have v1 : C[r]'(by omega) = l[r] := by
                have := congrArg (fun z : List Tx => z[1]?) hdr
                simp only [List.getElem?_drop, show r - 1 + 1 = r by omega] at this
                rw [List.getElem?_eq_getElem (by omega), List.getElem?_eq_getElem (by omega)] at this
                exact Option.some.inj this
              rw [v0] at g2
              rw [v1] at f2
              have hn2 := dd_next l (r - 1) (by omega)
              have er : r - 1 + 1 = r := by omega
              have er2 : r - 1 + 2 = r + 1 := by omega
              simp only [er, er2] at hn2
              by_cases hq : l[r - 1] = l[r]
              · rw [if_pos hq] at hn2
                have ce : aBin .neq .plain (.str l[r]) (.str l[r - 1]) = some (.bool false) := by rw [bin_str_neq, hq]; simp
                refine ⟨_, F, ?_, m - 1, by omega, r + 1, w, C, by omega, by omega, BC, hC, by omega, by rw [hn2]; exact hdw, ?_, OF, rfl⟩
                · simp only [L25_1, List.getD_cons_zero, List.getD_cons_succ, t2, Option.bind_some, bin_lss, j1, cond_bool, cond_true, x1, f2, from_one, bin_sub, wj, x0, g2, ce, cond_false, nat_beq0, bin_add, wn]
                · have := congrArg (fun z : List Tx => z.drop 1) hdr
                  simp only [List.drop_drop, er] at this
                  exact this
              · rw [if_neg hq] at hn2
                have ce : aBin .neq .plain (.str l[r]) (.str l[r - 1]) = some (.bool true) := by rw [bin_str_neq]; simpa using fun h => hq h.symm
                obtain ⟨pw, F2, w1, w2, B2, n2, o2⟩ := El.Buf.set BC w (by omega) l[r]
                have c1 : aCells 1 (.str l[r]) = some [.str l[r]] := rfl
                simp only [txE_f] at w2
                refine ⟨_, F2, ?_, m - 1, by omega, r + 1, w + 1, C.set w l[r], by omega, by omega, B2, by rw [List.length_set, hC], by omega, ?_, ?_, OF.trans ⟨by omega, fun b hb hne => o2 b hne⟩, rfl⟩
                · simp only [L25_1, List.getD_cons_zero, List.getD_cons_succ, t2, Option.bind_some, bin_lss, j1, cond_bool, cond_true, x1, f2, from_one, bin_sub, wj, x0, g2, ce, w1, c1, w2, nat_beq0, bin_add, wn, ww]
                · rw [hn2, ← hdw, List.take_add_one, List.getElem?_set_self (by omega), List.take_set_of_le (Nat.le_refl _)]
                  rfl
                · have := congrArg (fun z : List Tx => z.drop 1) hdr
                  simp only [List.drop_drop, er] at this
                  show (C.set w l[r]).drop r = l.drop r
                  rw [List.drop_set_of_lt (by omega)]
                  exact this
            · right
              obtain rfl : r = l.length := by omega
              have j1 : decide (((l.length - k : Nat) : Int) < ((l.length - k : Nat) : Int)) = false := decide_eq_false (by omega)
              refine ⟨0, _, F, ?_, w, C, F, rfl, BC, by omega, by rw [hdw, List.take_length], OF⟩
              simp only [L25_1, List.getD_cons_zero, List.getD_cons_succ, t2, Option.bind_some, bin_lss, j1, cond_bool, cond_false]
          obtain ⟨_, e1, w, C, F, rfl, BC, hw, hdw, OF⟩ := inner
          obtain ⟨t', H, s', d1, d2, d3, B', sb, nH, oH⟩ := El.Buf.clearTail (zero := [.str []]) rfl BC w hw
          rw [hdw] at B'
          refine ⟨1, [s'], H, ?_, 1, s', H, .inr rfl, rfl, B', sb, OF.trans ⟨by omega, fun b hb hne => oH b hne⟩⟩
          simp only [L25_0, List.getD_cons_zero, List.getD_cons_succ, ln, Option.bind_some, bin_lss, i1, cond_bool, cond_true, a1, a2, from_one, bin_sub, wk, b1, b2, ce, t1, e1, nat_beq11]
          erw [d1]
          erw [Option.bind_some, d2, Option.bind_some, d3]
          rfl
        · left
          rw [if_neg heq, hd] at hn
          have ce : aBin .eql .plain (.str l[k]) (.str l[k - 1]) = some (.bool false) := by rw [bin_str_eql]; simpa using fun h => heq h.symm
          refine ⟨_, G, ?_, m - 1, by omega, k + 1, by omega, by omega, ?_, rfl, rfl⟩
          · simp only [L25_0, List.getD_cons_zero, List.getD_cons_succ, ln, Option.bind_some, bin_lss, i1, cond_bool, cond_true, a1, a2, from_one, bin_sub, wk, b1, b2, ce, cond_false, bin_add, ws]
          · rw [hn, List.take_add_one, List.getElem?_eq_getElem h1]; rfl
      · right
        obtain rfl : k = l.length := by omega
        rw [List.take_length] at hd
        have i1 : decide ((l.length : Int) < (l.length : Int)) = false := decide_eq_false (by omega)
        refine ⟨0, _, G, ?_, 0, s, G, .inl rfl, rfl, by rw [hd]; exact B, rfl, OnlyS.refl _ _⟩
        simp only [L25_0, List.getD_cons_zero, List.getD_cons_succ, ln, Option.bind_some, bin_lss, i1, cond_bool, cond_false]
    obtain ⟨_, e, i, s', H, hi, rfl, B', sb, OH⟩ := key
    refine ⟨s', H, ?_, B', sb, OH⟩
    rw [c25]
    rcases hi with rfl | rfl
    · simp [S25, ln, i2, e, beq_dec]
    · simp [S25, ln, i2, e, beq_dec]
end Go.Proofs.Ytllogmedpmanoaa.Code
