/- Chapter 1: known; FaultTells, FaultOthers. -/
import Derived.Test.YtkbchgbpglamcaaDoorLaws
namespace Go.Proofs.YtkbchgbpglamcaaDoor.Code
set_option linter.unusedSimpArgs false
set_option linter.unusedVariables false
open Go.Fw

theorem lit_T (h : Heap) (l : List (List UInt8)) {n : Nat} (hn : n = l.length) : SrcT (.slice h.next 0 n n 1 true) (h.alloc (l.map .str)) l := by
  subst hn
  exact (Own.lit 1 h (l.map .str) l.length (by simp) true).src
theorem errnew_ok (t : List UInt8) (h : Heap) : E tbl 7 [.str t] h = some (.iface 47 (.ptr h.next 0), h.alloc [.str t]) := by
  rw [c7]
  simp [S7]

theorem known_ok {h : Heap} (R : Rdy h) : ∃ H, E tbl 14 [] h = some (.bool true, H) ∧ Went h H := by
  obtain ⟨v1, H1, e1, R1, W1⟩ := new_ok [98] 22 h
  rw [if_neg (by omega)] at R1
  obtain ⟨v2, H2, e2, R2, W2⟩ := wrap_ok [97] R1 (Nat.le_refl _)
  have R2 : Rep H2 H2.next (.fault [97] (.fault [98] (.code 22))) v2 := R2
  have Y2 := (R.went W1).went W2
  obtain ⟨H3, e3, W3⟩ := code_okW Y2 (Nat.le_refl _) R2
  have R3 := R2.went (Nat.le_refl _) W3
  have Y3 := Y2.went W3
  obtain ⟨o, H4, e4, O4, W4⟩ := path_okW Y3 W3.next R3 (by simp [pathOf])
  have R4 := R3.went W3.next W4
  have Y4 := Y3.went W4
  have W5 := Went.alloc H4 [.str [97], .str [98]]
  have e5 := ssame_ok (W5.src O4.src) (lit_T H4 [[97], [98]] (n := 2) rfl) (by simp [pathOf])
  have W35 := W3.trans (W4.trans W5)
  have R5 := R2.went (Nat.le_refl _) W35
  have Y5 := Y2.went W35
  have e6 := Has_ok (k := 22) R5 trivial
  have e7 := Has_ok (k := 1) R5 trivial
  obtain ⟨H6, e8, W6⟩ := code_okW Y5 (Nat.le_refl _) (e := .nil) (v := .nilIface) rfl
  have Y6 := Y5.went W6
  have e9 : ∀ G, E tbl 19 [.str [120], .int .i64 0] G = some (.nilIface, G) := fun G => by rw [c19]; simp [S19]
  have e10 : ∀ G, E tbl 8 [.str [120], .nilIface] G = some (.nilIface, G) := fun G => by rw [c8]; simp [S8]
  have e11 := errnew_ok [111, 116, 104, 101, 114] H6
  have W7 := Went.alloc H6 [.str [111, 116, 104, 101, 114]]
  have Y7 := Y6.went W7
  obtain ⟨H8, e12, W8⟩ := code_okW Y7 (Nat.le_refl _) (e := .other H6.next) (v := .iface 47 (.ptr H6.next 0)) ⟨rfl, by simp⟩
  have e13 := Has_ok (N := 0) (h := H8) (k := 0) (e := .nil) (v := .nilIface) rfl trivial
  refine ⟨H8, ?_, W1.trans (W2.trans (W35.trans (W6.trans (W7.trans W8))))⟩
  simp [codeI, codeOf] at e3 e8 e12
  simp [pathOf] at e5
  simp [isIn] at e6 e7 e13
  rw [c14]
  simp [S14, e1, e2, e3, e4, e5, e6, e7, e8, e9, e10, e11, e12, e13]

def strE : El (List UInt8) 1 := ⟨fun t => [.str t], fun _ => rfl, by omega⟩
theorem strE_rws : ∀ l : List (List UInt8), strE.rws l = l.map .str
  | [] => rfl
  | x :: r => by rw [El.rws_cons, strE_rws r]; rfl
theorem SrcT.part {s : AVal} {h : Heap} {l : List (List UInt8)} (S : SrcT s h l) (R : El.Room s) (n : Nat) (hn : n ≤ l.length) : ∃ s', aSliceSl 1 s none (some (.int .i64 n)) none = some s' ∧ SrcT s' h (l.take n) := by
  have S' : strE.Src s h l := by unfold El.Src; rw [strE_rws]; exact S
  obtain ⟨s', e, S2, _, _⟩ := El.Src.part S' R none (some n) 0 n rfl rfl (Nat.zero_le _) hn
  refine ⟨s', e, ?_⟩
  unfold El.Src at S2
  rw [strE_rws] at S2
  show Src 1 s' h (l.take n).length ((l.take n).map .str)
  simpa using S2

theorem faultTells {h : Heap} (R : Rdy h) {s : AVal} {l : List (List UInt8)} (S : SrcT s h l) (hr : El.Room s) (hm : ∀ t ∈ l, t.length ≤ 281474976710656) (k : Int) (hk0 : -9223372036854775808 ≤ k) (hk : k ≤ 9223372036854775807) :
    ∃ h', E tbl 4 [s, .int .i64 k] h = some (.bool true, h') := by
  have el := S.len
  obtain ⟨s', hs, S', hl', hm'⟩ : ∃ s', (if (l.length : Int) > 12 then aSliceSl 1 s none (some (.int .i64 12)) none else some s) = some s' ∧ SrcT s' h (l.take 12) ∧ (l.take 12).length ≤ 12 ∧ ∀ t ∈ l.take 12, t.length ≤ 281474976710656 := by
    by_cases hg : (l.length : Int) > 12
    · obtain ⟨s', e, S'⟩ := SrcT.part S hr 12 (by omega)
      exact ⟨s', by rw [if_pos hg]; exact e, S', by simp; omega, fun t ht => hm t (List.mem_of_mem_take ht)⟩
    · exact ⟨s, by rw [if_neg hg], by rw [List.take_of_length_le (by omega)]; exact S, by simp; omega, fun t ht => hm t (List.mem_of_mem_take ht)⟩
  generalize l.take 12 = l' at S' hl' hm'
  have q1 : ∃ a, aBin .and .plain (.int .i64 k) (.int .i64 31) = some (.int .i64 a) ∧ -9223372036854775808 ≤ a ∧ a < 9223372036854775808 := by
    refine ⟨_, rfl, ?_⟩
    rw [IntKind.wrap_i64]
    omega
  have q2 : ∃ a, aBin .or .plain (.int .i64 k) (.int .i64 1) = some (.int .i64 a) ∧ -9223372036854775808 ≤ a ∧ a < 9223372036854775808 := by
    refine ⟨_, rfl, ?_⟩
    rw [IntKind.wrap_i64]
    omega
  obtain ⟨a, ea, a1, a2⟩ := q1
  obtain ⟨b, eb, b1, b2⟩ := q2
  obtain ⟨H1, e1, W1⟩ := same_ok S' (by omega) hm' a a1 a2 R
  obtain ⟨H2, e2, W2⟩ := same_ok (W1.src S') (by omega) hm' b b1 b2 (R.went W1)
  obtain ⟨H3, e3, W3⟩ := known_ok ((R.went W1).went W2)
  refine ⟨H3, ?_⟩
  rw [c4]
  by_cases hg : (l.length : Int) > 12
  · rw [if_pos hg] at hs
    have hd : decide ((12 : Int) < (l.length : Int)) = true := by simpa using hg
    simp [S4, el, hd, hs, ea, eb, e1, e2, e3, beq_dec]
  · rw [if_neg hg] at hs
    cases hs
    have hd : decide ((12 : Int) < (l.length : Int)) = false := by simpa using hg
    simp [S4, el, hd, ea, eb, e1, e2, e3, beq_dec]

/-! FaultOthers. -/
def chainO (ops : List (List UInt8)) (b : Nat) : Er := ops.foldr .fault (.other b)
theorem co_code (ops : List (List UInt8)) (b : Nat) : codeI (chainO ops b) = 14 := by
  have h1 : codeOf (chainO ops b) = none := by induction ops with | nil => rfl | cons o r ih => exact ih
  cases h : chainO ops b with
  | nil => cases ops <;> simp [chainO] at h
  | _ => rw [h] at h1; simp [codeI, h1]
theorem co_path (ops : List (List UInt8)) (b : Nat) : pathOf (chainO ops b) = ops := by induction ops with | nil => rfl | cons o r ih => show o :: pathOf (chainO r b) = _; rw [ih]
theorem co_is (ops : List (List UInt8)) (b : Nat) : isIn (.other b) (chainO ops b) = true := by induction ops with | nil => simp [chainO, isIn] | cons o r ih => exact ih
theorem co_has (ops : List (List UInt8)) (b : Nat) (k : Int) : isIn (.code k) (chainO ops b) = false := by induction ops with | nil => rfl | cons o r ih => exact ih
theorem co_ok (ops : List (List UInt8)) (b : Nat) : okIs (.other b) (chainO ops b) := by
  induction ops with
  | nil => intro c hc; cases hc; rfl
  | cons o r ih => exact ih
theorem co_ok' (ops : List (List UInt8)) (b : Nat) (k : Int) : okIs (.code k) (chainO ops b) := by
  induction ops with
  | nil => intro c hc; cases hc
  | cons o r ih => exact ih
theorem co_ne (ops : List (List UInt8)) (b : Nat) : chainO ops b ≠ .nil := by cases ops <;> simp [chainO]

theorem faultOthers {h : Heap} (R : Rdy h) {s : AVal} {l : List (List UInt8)} (S : SrcT s h l) (hr : El.Room s) (t : List UInt8) : ∃ h', E tbl 3 [s, .str t] h = some (.bool true, h') := by
  have el := S.len
  obtain ⟨s', hs, S', hl'⟩ : ∃ s', (if (l.length : Int) > 9 then aSliceSl 1 s none (some (.int .i64 9)) none else some s) = some s' ∧ SrcT s' h (l.take 9) ∧ (l.take 9).length ≤ 9 := by
    by_cases hg : (l.length : Int) > 9
    · obtain ⟨s', e, S'⟩ := SrcT.part S hr 9 (by omega)
      exact ⟨s', by rw [if_pos hg]; exact e, S', by simp; omega⟩
    · exact ⟨s, by rw [if_neg hg], by rw [List.take_of_length_le (by omega)]; exact S, by simp; omega⟩
  generalize l.take 9 = ops at S' hl'
  have e1 := errnew_ok t h
  have W1 := Went.alloc h [.str t]
  generalize hH : h.alloc [.str t] = H1 at *
  have hn1 : H1.next = h.next + 1 := by rw [← hH]; rfl
  have S1 := W1.src S'
  have el' := S1.len
  have w1 : IntKind.i64.wrap ((ops.length : Int) - 1) = (ops.length : Int) - 1 := by rw [IntWalk.i64_in _ (by omega)]
  have key : ∃ res, loop (L3_0 (E tbl)) [s', .iface 47 (.ptr h.next 0), .iface 47 (.ptr h.next 0), .int .i64 ((ops.length : Int) - 1)] H1 = some res ∧ ∃ v H, res = (1, [s', .iface 47 (.ptr h.next 0), v], H) ∧ Rep H H.next (chainO ops h.next) v ∧ Went H1 H := by
    refine loop_ok (fun m xs G => ∃ v, m ≤ ops.length ∧ Rep G G.next (chainO (ops.drop m) h.next) v ∧ Went H1 G ∧ xs = [s', .iface 47 (.ptr h.next 0), v, .int .i64 ((m : Int) - 1)]) _ ?_ ops.length _ _
      ⟨.iface 47 (.ptr h.next 0), Nat.le_refl _, by rw [List.drop_eq_nil_of_le (Nat.le_refl _)]; exact ⟨rfl, by omega⟩, Went.refl _, rfl⟩
    rintro m xs G ⟨v, hm, Rv, W, rfl⟩
    by_cases hm0 : m = 0
    · right
      subst hm0
      exact ⟨0, _, G, by simp [L3_0], v, G, rfl, by simpa using Rv, W⟩
    · left
      obtain ⟨j, rfl⟩ : ∃ j, m = j + 1 := ⟨m - 1, by omega⟩
      have ej : ((j + 1 : Nat) : Int) - 1 = (j : Int) := by omega
      obtain ⟨p, b1, b2⟩ := Src.str (W.src S1) j (by omega)
      obtain ⟨v', H', e2, R2, W2⟩ := wrap_ok (ops.getD j []) Rv (Nat.le_refl _)
      have hd : ops.drop j = ops.getD j [] :: ops.drop (j + 1) := by
        rw [List.drop_eq_getElem_cons (by omega)]
        simp [List.getD_eq_getElem?_getD, List.getElem?_eq_getElem (show j < ops.length by omega)]
      generalize ops.getD j [] = o at b2 e2 R2 hd
      have w3 : IntKind.i64.wrap ((j : Int) - 1) = (j : Int) - 1 := by rw [IntWalk.i64_in _ (by omega)]
      refine ⟨[s', .iface 47 (.ptr h.next 0), v', .int .i64 ((j : Int) - 1)], H', ?_, j, by omega, v', by omega, ?_, W.trans W2, rfl⟩
      · rw [ej]
        have i2 : (0 : Int) ≤ (j : Int) := by omega
        simp [L3_0, b1, b2, e2, w3]
      · rw [hd]
        have hne := co_ne (ops.drop (j + 1)) h.next
        have : wrapE o (chainO (ops.drop (j + 1)) h.next) = chainO (o :: ops.drop (j + 1)) h.next := by
          cases hc : chainO (ops.drop (j + 1)) h.next with
          | nil => exact (hne hc).elim
          | _ => show Er.fault o _ = Er.fault o (chainO (ops.drop (j + 1)) h.next); rw [hc]
        rw [← this]
        exact R2
  obtain ⟨res, e2, v, H2, rfl, R2, W2⟩ := key
  have Y2 := (R.went W1).went W2
  have i1 := Is_ok (m := .other h.next) (w := .iface 47 (.ptr h.next 0)) rfl R2 (co_ok ops h.next)
  rw [co_is] at i1
  obtain ⟨H3, e3, W3⟩ := code_okW Y2 (Nat.le_refl _) R2
  rw [co_code] at e3
  have Y3 := Y2.went W3
  have R3 := R2.went (Nat.le_refl _) W3
  obtain ⟨o, H4, e4, O4, W4⟩ := path_okW Y3 W3.next R3 (by rw [co_path]; omega)
  rw [co_path] at O4
  have e5 := ssame_ok O4.src (((W2.trans W3).trans W4).src S1) (by omega)
  simp only [decide_true] at e5
  have R4 := R3.went W3.next W4
  have i2 := Has_ok (k := 14) R4 (co_ok' ops h.next 14)
  rw [co_has] at i2
  obtain ⟨H5, e6, W5⟩ := known_ok (Y3.went W4)
  obtain ⟨ty, x, rfl⟩ := R2.iface (co_ne ops h.next)
  refine ⟨H5, ?_⟩
  rw [c3]
  by_cases hg : (l.length : Int) > 9
  · rw [if_pos hg] at hs
    have hd : decide ((9 : Int) < (l.length : Int)) = true := by simpa using hg
    simp [S3, el, hd, hs, e1, el', w1, e2, i1, e3, e4, e5, i2, e6, beq_dec]
  · rw [if_neg hg] at hs
    cases hs
    have hd : decide ((9 : Int) < (l.length : Int)) = false := by simpa using hg
    have hle : (l.length : Int) = (ops.length : Int) := by
      rw [el] at el'
      simpa using el'
    rw [hle] at hd
    simp [S3, hd, e1, el', S'.len, w1, e2, i1, e3, e4, e5, i2, e6, beq_dec]

end Go.Proofs.YtkbchgbpglamcaaDoor.Code
