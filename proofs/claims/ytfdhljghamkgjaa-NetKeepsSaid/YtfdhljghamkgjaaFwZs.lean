/- Rows that have room behind them: append within, delete, clear. -/
import Derived.Test.YtfdhljghamkgjaaFwZr
namespace Go.Fw
set_option linter.unusedSimpArgs false
set_option linter.unusedVariables false

/-- A row that lies at the head of its own block; behind it there may be more cells. -/
def Buf (es : Nat) (s : AVal) (h : Heap) (n0 m : Nat) (cells : List AVal) : Prop :=
  cells.length = m * es ∧ ((s = .nilSlice ∧ m = 0) ∨ ∃ b ex k rest, s = .slice b 0 m (m + k) es ex ∧ n0 ≤ b ∧ b < h.next ∧ rest.length = k * es ∧ h.blk b = some ⟨cells ++ rest, true⟩)

theorem Buf.nil (es : Nat) (h : Heap) (n0 : Nat) : Buf es .nilSlice h n0 0 [] := ⟨by simp, .inl ⟨rfl, rfl⟩⟩
theorem Own.buf {es : Nat} {s : AVal} {h : Heap} {n0 m : Nat} {cells : List AVal} (O : Own es s h n0 m cells) : Buf es s h n0 m cells := by
  obtain ⟨hl, h1 | ⟨b, ex, rfl, h1, h2, h3⟩⟩ := O
  · exact ⟨hl, .inl h1⟩
  · exact ⟨hl, .inr ⟨b, ex, 0, [], rfl, h1, h2, by simp, by simpa using h3⟩⟩
theorem Buf.src {es : Nat} {s : AVal} {h : Heap} {n0 m : Nat} {cells : List AVal} (O : Buf es s h n0 m cells) : Src es s h m cells := by
  obtain ⟨hl, h1 | ⟨b, ex, k, rest, rfl, h1, h2, h3, h4⟩⟩ := O
  · exact ⟨hl, .inl h1⟩
  · refine ⟨hl, .inr ⟨b, 0, m + k, ex, rfl, h2, ?_⟩⟩
    rw [rd_of h4 0 _ (by simp [hl]), ← hl]
    simp
theorem Buf.blk {es : Nat} {s : AVal} {h : Heap} {n0 m : Nat} {cells : List AVal} (O : Buf es s h n0 m cells) : ∀ b, slBlk s = some b → n0 ≤ b ∧ b < h.next := by
  intro b hb
  obtain ⟨_, ⟨rfl, _⟩ | ⟨b', ex, k, rest, rfl, h1, h2, _⟩⟩ := O
  · cases hb
  · cases hb; exact ⟨h1, h2⟩
theorem Buf.kept {es : Nat} {s : AVal} {h : Heap} {n0 m : Nat} {cells : List AVal} (O : Buf es s h n0 m cells) {h' : Heap} (hn : h.next ≤ h'.next) (ho : ∀ b, slBlk s = some b → h'.blk b = h.blk b) : Buf es s h' n0 m cells := by
  obtain ⟨hl, h1 | ⟨b, ex, k, rest, rfl, a1, a2, a3, a4⟩⟩ := O
  · exact ⟨hl, .inl h1⟩
  · exact ⟨hl, .inr ⟨b, ex, k, rest, rfl, a1, by omega, a3, by rw [ho b rfl, a4]⟩⟩
theorem Buf.base {es : Nat} {s : AVal} {h : Heap} {n0 m : Nat} {cells : List AVal} (O : Buf es s h n0 m cells) {n1 : Nat} (hn : n1 ≤ n0) : Buf es s h n1 m cells := by
  obtain ⟨hl, h1 | ⟨b, ex, k, rest, rfl, a1, a2, a3, a4⟩⟩ := O
  · exact ⟨hl, .inl h1⟩
  · exact ⟨hl, .inr ⟨b, ex, k, rest, rfl, by omega, a2, a3, a4⟩⟩
theorem Buf.cell {es : Nat} {s : AVal} {h : Heap} {n0 m : Nat} {cells : List AVal} (O : Buf es s h n0 m cells) : aCells 1 s = some [s] := by
  obtain ⟨_, ⟨rfl, _⟩ | ⟨b, ex, k, rest, rfl, _⟩⟩ := O <;> rfl
theorem Own.cell {es : Nat} {s : AVal} {h : Heap} {n0 m : Nat} {cells : List AVal} (O : Own es s h n0 m cells) : aCells 1 s = some [s] := O.buf.cell
theorem Src.cell {es : Nat} {s : AVal} {h : Heap} {m : Nat} {cells : List AVal} (O : Src es s h m cells) : aCells 1 s = some [s] := by
  obtain ⟨_, ⟨rfl, _⟩ | ⟨b, off, cap, ex, rfl, _⟩⟩ := O <;> rfl

theorem splice_eq (pre old news post : List AVal) (h : old.length = news.length) : splice (pre ++ (old ++ post)) pre.length news = pre ++ (news ++ post) := by
  unfold splice
  rw [List.take_left, List.append_assoc, ← h, List.drop_append, List.drop_of_length_le (by omega), Nat.add_sub_cancel_left, List.nil_append, List.drop_left]

/-- Elements behind a row that has room, or has none. -/
theorem Buf.app {es bytes : Nat} {zero : List AVal} {s x : AVal} {h : Heap} {n0 n m : Nat} {cells news : List AVal} (O : Buf es s h n0 n cells) (S : Src es x h m news) (hes : 0 < es) (h0 : n0 ≤ h.next) (hb : (n + m) * bytes ≤ 140737488355328) (hc : n + m ≤ 4611686018427387904) :
    ∃ s' h', aAppend es bytes zero false s x h = some (s', h') ∧ Buf es s' h' n0 (n + m) (cells ++ news) ∧ Kept h s h' s' := by
  by_cases hm : m = 0
  · subst hm
    have hn : news = [] := List.length_eq_zero_iff.1 (by have := S.1; omega)
    subst hn
    have hnews : aNews es bytes zero false x h = some (0, []) := by
      obtain ⟨_, ⟨rfl, _⟩ | ⟨b, off, cap, ex, rfl, _⟩⟩ := S <;> rfl
    refine ⟨s, h, ?_, by simpa using O, Kept.refl _ _⟩
    unfold aAppend
    rw [hnews]
    obtain ⟨_, ⟨rfl, rfl⟩ | ⟨b, ex, k, rest, rfl, a1, a2, a3, a4⟩⟩ := O
    · rfl
    · have hee : Nat.beq es es = true := Nat.beq_refl es
      simp only [Option.bind_some, hee, cond_true]
      rfl
  · obtain ⟨hl, h1 | ⟨b, ex, k, rest, rfl, a1, a2, a3, a4⟩⟩ := O
    · have O' : Own es s h n0 n cells := ⟨hl, .inl h1⟩
      obtain ⟨s', h', e, O2, K⟩ := O'.app (bytes := bytes) (zero := zero) S hes h0 hb hc
      exact ⟨s', h', e, O2.buf, K⟩
    · have hee : Nat.beq es es = true := Nat.beq_refl es
      have hm0 : Nat.beq m 0 = false := by rw [beq_dec]; simpa using hm
      have hnews : aNews es bytes zero false x h = some (m, news) := by
        obtain ⟨hl2, ⟨rfl, rfl⟩ | ⟨b', off, cap, ex', rfl, _, h5⟩⟩ := S
        · exact (hm rfl).elim
        · unfold aNews
          simp only [hm0, hee, h5, cond_true, cond_false, Option.bind_some]
      by_cases hk : m ≤ k
      · -- within
        have hle : Nat.ble (n + m) (n + k) = true := by rw [ble_dec]; simpa using hk
        have hmul : m * es ≤ k * es := Nat.mul_le_mul_right es hk
        have hnl := S.1
        have hsp : cells ++ rest = cells ++ (rest.take (m * es) ++ rest.drop (m * es)) := by rw [List.take_append_drop]
        refine ⟨.slice b 0 (n + m) (n + k) es ex, h.setBlk b (some ⟨(cells ++ news) ++ rest.drop (m * es), true⟩), ?_, ⟨by rw [List.length_append, hl, hnl, Nat.add_mul], .inr ⟨b, ex, k - m, rest.drop (m * es), by rw [Nat.add_assoc, Nat.add_sub_cancel' hk], a1, a2, by rw [List.length_drop, a3, Nat.sub_mul], setBlk_same _ _ _⟩⟩, ⟨Nat.le_refl _, fun c hc hne => setBlk_ne _ _ fun e => hne (by rw [e]; rfl), fun c hc => .inl hc⟩⟩
        unfold aAppend
        rw [hnews]
        simp only [Option.bind_some, hee, cond_true, hm0, cond_false, hle, Nat.zero_add]
        rw [wr_of a4 _ _ (by rw [List.length_append, hl, hnl, a3]; omega), hsp, ← hl, splice_eq _ _ _ _ (by rw [List.length_take, a3, hnl]; omega)]
        simp
      · -- a new block
        have hle : Nat.ble (n + m) (n + k) = false := by
          rw [ble_dec]; simpa using hk
        have hold : h.rd b 0 (n * es) = some cells := by
          rw [rd_of a4 0 _ (by simp [hl]), ← hl]
          simp
        have hnl := S.1
        unfold aAppend
        rw [hnews]
        simp only [Option.bind_some, hee, cond_true, hm0, cond_false, hle]
        rw [if_pos ⟨hb, hc⟩]
        cases ex with
        | true =>
          simp only [cond_true]
          by_cases hn : n = 0
          · subst hn
            have hcn : cells = [] := List.length_eq_zero_iff.1 (by omega)
            subst hcn
            have h00 : Nat.beq 0 0 = true := rfl
            simp only [h00, cond_true]
            refine ⟨_, _, rfl, ⟨by simp [hnl], .inr ⟨h.next, false, 0, [], by simp, h0, by simp, by simp, ?_⟩⟩, ⟨by simp, fun c hc _ => alloc_old _ _ (by omega), fun c hc => by cases hc; exact .inr (Nat.le_refl _)⟩⟩
            rw [alloc_same, List.nil_append, List.append_nil]
          · have hn0 : Nat.beq n 0 = false := by rw [beq_dec]; simpa using hn
            simp only [hn0, cond_false, hold, Option.bind_some]
            refine ⟨_, _, rfl, ⟨by rw [List.length_append, hl, hnl, Nat.add_mul], .inr ⟨h.next, false, 0, [], rfl, h0, by simp, by simp, ?_⟩⟩, ⟨by simp, fun c hc _ => alloc_old _ _ (by omega), fun c hc => by cases hc; exact .inr (Nat.le_refl _)⟩⟩
            rw [alloc_same, List.append_nil]
        | false =>
          simp only [cond_false, a4, hold, Option.bind_some]
          refine ⟨_, _, rfl, ⟨by rw [List.length_append, hl, hnl, Nat.add_mul], .inr ⟨h.next, false, 0, [], rfl, h0, by simp, by simp, ?_⟩⟩, ⟨by simp, fun c hc hne => ?_, fun c hc => by cases hc; exact .inr (Nat.le_refl _)⟩⟩
          · rw [setBlk_ne _ _ (by omega), alloc_same, List.append_nil]
          · have : c ≠ b := fun e => hne (by rw [e]; rfl)
            rw [setBlk_ne _ _ this, alloc_old _ _ (by omega)]

theorem Buf.snoc {es bytes : Nat} {zero : List AVal} {s : AVal} {h : Heap} {n0 n : Nat} {cells news : List AVal} (O : Buf es s h n0 n cells) (hes : 0 < es) (hl : news.length = es) (h0 : n0 ≤ h.next) (hb : (n + 1) * bytes ≤ 140737488355328) (hc : n + 1 ≤ 4611686018427387904) :
    ∃ s' h', aAppend es bytes zero false s (.slice h.next 0 1 1 es true) (h.alloc news) = some (s', h') ∧ Buf es s' h' n0 (n + 1) (cells ++ news) ∧ Kept h s h' s' := by
  have K := Kept.alloc h s news
  have O' : Buf es s (h.alloc news) n0 n cells := O.kept K.next fun b hb => alloc_old _ _ (by have := (O.blk b hb).2; omega)
  have S := (Own.lit es h news 1 (by omega) true).src
  obtain ⟨s', h', e, O2, K2⟩ := O'.app (bytes := bytes) (zero := zero) S hes (by simp; omega) hb hc
  exact ⟨s', h', e, O2, K.trans K2⟩

/-- slices.Delete, as the programs have it, of one element. -/
noncomputable def deleteS (es bytes : Nat) (zero : List AVal) (a0 a1 a2 : AVal) (h : Heap) : Option J :=
 (aLen false a0).bind fun v1 =>
 (aSliceSl es a0 (some a1) (some a2) (some v1)).bind fun v2 =>
 (aBin .eql .plain a1 a2).bind fun v3 =>
 condV v3
 (some (0, [a0], h))
 ((aLen false a0).bind fun v4 =>
 (aSliceSl es a0 none (some a1) none).bind fun v5 =>
 (aSliceSl es a0 (some a2) none none).bind fun v6 =>
 (aAppend es bytes zero false v5 v6 h).bind fun r7 =>
 (aLen false r7.1).bind fun v8 =>
 (aSliceSl es r7.1 (some v8) (some v4) none).bind fun v9 =>
 (aClear zero v9 r7.2).bind fun r10 =>
 some (0, [r7.1], r10.2))

theorem reps_one (z : List AVal) : reps z 1 = z := by simp

theorem delete_of {es bytes : Nat} {zero : List AVal} {s : AVal} {h : Heap} {n0 m : Nat} {cells : List AVal} (O : Buf es s h n0 m cells) (hz : zero.length = es) (hes : 0 < es) (i : Nat) (hi : i < m) (hb : m * bytes ≤ 140737488355328) (hc : m ≤ 4611686018427387904) :
    ∃ s' h', deleteS es bytes zero s (.int .i64 i) (.int .i64 ((i : Int) + 1)) h = some (0, [s'], h') ∧ Buf es s' h' n0 (m - 1) (cells.take (i * es) ++ cells.drop ((i + 1) * es)) ∧ slBlk s' = slBlk s ∧ h'.next = h.next ∧ ∀ b, slBlk s ≠ some b → h'.blk b = h.blk b := by
  obtain ⟨hl, ⟨rfl, rfl⟩ | ⟨b, ex, k, rest, rfl, a1, a2, a3, a4⟩⟩ := O
  · omega
  have hee : Nat.beq es es = true := Nat.beq_refl es
  have e1 : ∀ q, aSliceSl es (.slice b 0 m (m + k) es ex) (some (.int .i64 i)) (some (.int .i64 ((i : Int) + 1))) (some (.int .i64 m)) = some q → True := fun _ _ => trivial
  have s1 : ∃ q, aSliceSl es (.slice b 0 m (m + k) es ex) (some (.int .i64 i)) (some (.int .i64 ((i : Int) + 1))) (some (.int .i64 m)) = some q := by
    have h1 : (m : Int) ≤ ((m + k : Nat) : Int) := by omega
    have h2 : (0 : Int) ≤ (i : Int) + 1 ∧ (i : Int) + 1 ≤ (m : Int) := by omega
    have h3 : ((i : Int) + 1).toNat = i + 1 := by omega
    simp only [aSliceSl, hee, cond_true, aBound]
    rw [if_pos ⟨by omega, h1⟩]
    simp only [Option.bind_some, Int.toNat_natCast]
    rw [if_pos h2]
    simp only [Option.bind_some, h3]
    rw [if_pos ⟨by omega, by omega⟩]
    exact ⟨_, rfl⟩
  obtain ⟨q1, s1⟩ := s1
  have s5 : aSliceSl es (.slice b 0 m (m + k) es ex) none (some (.int .i64 i)) none = some (.slice b 0 i (m + k) es ex) := by
    simp only [aSliceSl, hee, cond_true, aBound, Option.bind_some]
    rw [if_pos ⟨by omega, by omega⟩]
    simp
  have s6 : aSliceSl es (.slice b 0 m (m + k) es ex) (some (.int .i64 ((i : Int) + 1))) none none = some (.slice b ((i + 1) * es) (m - (i + 1)) (m + k - (i + 1)) es ex) := by
    have h3 : ((i : Int) + 1).toNat = i + 1 := by omega
    simp only [aSliceSl, hee, cond_true, aBound, Option.bind_some]
    rw [if_pos ⟨by omega, by omega⟩]
    simp [h3]
  -- the row's three parts
  obtain ⟨A, D, T, rfl, hA, hD, hT⟩ : ∃ A D T, cells = A ++ (D ++ T) ∧ A.length = i * es ∧ D.length = es ∧ T.length = (m - (i + 1)) * es := by
    refine ⟨cells.take (i * es), (cells.drop (i * es)).take es, cells.drop ((i + 1) * es), ?_, ?_, ?_, ?_⟩
    · rw [Nat.add_mul, Nat.one_mul, ← List.drop_drop, List.take_append_drop, List.take_append_drop]
    · have : i * es ≤ m * es := Nat.mul_le_mul_right es (by omega)
      rw [List.length_take]; omega
    · have : (i + 1) * es ≤ m * es := Nat.mul_le_mul_right es hi
      rw [Nat.add_mul] at this
      rw [List.length_take, List.length_drop]; omega
    · rw [List.length_drop, hl, Nat.sub_mul]
  have hmul : (m - (i + 1)) * es + es + i * es = m * es := by
    have : m = (m - (i + 1)) + 1 + i := by omega
    calc (m - (i + 1)) * es + es + i * es = ((m - (i + 1)) + 1 + i) * es := by rw [Nat.add_mul, Nat.add_mul, Nat.one_mul]
      _ = m * es := by rw [← this]
  have tk : (A ++ (D ++ T)).take (i * es) = A := by rw [← hA, List.take_left]
  have dr : (A ++ (D ++ T)).drop ((i + 1) * es) = T := by
    rw [Nat.add_mul, Nat.one_mul, ← hA, ← List.drop_drop, List.drop_left, ← hD, List.drop_left]
  rw [tk, dr]
  have ne1 : ¬ ((i : Int) = (i : Int) + 1) := by omega
  -- append: what lies behind moves down
  have ap : aAppend es bytes zero false (.slice b 0 i (m + k) es ex) (.slice b ((i + 1) * es) (m - (i + 1)) (m + k - (i + 1)) es ex) h = some (.slice b 0 (m - 1) (m + k) es ex, h.setBlk b (some ⟨A ++ (T ++ ((D ++ T).drop T.length ++ rest)), true⟩)) ∨
      (m - (i + 1) = 0 ∧ aAppend es bytes zero false (.slice b 0 i (m + k) es ex) (.slice b ((i + 1) * es) (m - (i + 1)) (m + k - (i + 1)) es ex) h = some (.slice b 0 (m - 1) (m + k) es ex, h)) := by
    by_cases hz0 : m - (i + 1) = 0
    · right
      refine ⟨hz0, ?_⟩
      rw [hz0]
      have : m - 1 = i := by omega
      rw [this]
      unfold aAppend aNews
      simp only [show Nat.beq 0 0 = true from rfl, cond_true, Option.bind_some, hee]
    · left
      have hm0 : Nat.beq (m - (i + 1)) 0 = false := by rw [beq_dec]; simpa using hz0
      have hr : h.rd b ((i + 1) * es) ((m - (i + 1)) * es) = some T := by
        rw [rd_of a4 _ _ (by simp only [List.length_append, hA, hD, hT, a3, Nat.add_mul, Nat.one_mul]; omega)]
        simp only [Option.some.injEq]
        rw [List.drop_append_of_le_length (by simp only [List.length_append, hA, hD, hT, Nat.add_mul, Nat.one_mul]; omega), dr, List.take_append_of_le_length (by omega), List.take_of_length_le (by omega)]
      have hle : Nat.ble (i + (m - (i + 1))) (m + k) = true := by rw [ble_dec]; simp; omega
      unfold aAppend aNews
      simp only [hm0, cond_false, hee, cond_true, hr, Option.bind_some, hle, Nat.zero_add]
      have hsum : i + (m - (i + 1)) = m - 1 := by omega
      rw [hsum, wr_of a4 _ _ (by simp only [List.length_append, hA, hD, hT, a3]; omega)]
      simp only [Option.bind_some]
      have hsp : A ++ (D ++ T) ++ rest = A ++ ((D ++ T).take T.length ++ ((D ++ T).drop T.length ++ rest)) := by
        rw [← List.append_assoc ((D ++ T).take T.length), List.take_append_drop, List.append_assoc]
      rw [hsp, ← hA, splice_eq _ _ _ _ (by rw [List.length_take, List.length_append]; omega)]
  have s9 : aSliceSl es (.slice b 0 (m - 1) (m + k) es ex) (some (.int .i64 ((m - 1 : Nat) : Int))) (some (.int .i64 m)) none = some (.slice b ((m - 1) * es) 1 (m + k - (m - 1)) es ex) := by
    simp only [aSliceSl, hee, cond_true, aBound, Option.bind_some]
    rw [if_pos ⟨by omega, by omega⟩]
    simp only [Option.bind_some, Int.toNat_natCast]
    rw [if_pos ⟨by omega, by omega⟩]
    have : m - (m - 1) = 1 := by omega
    simp [this]
  have hm1 : (m - 1) * es = i * es + (m - (i + 1)) * es := by
    rw [← Nat.add_mul]; congr 1; omega
  have fin : ∀ (H : Heap) (X : List AVal), H.next = h.next → (∀ c, slBlk (.slice b 0 m (m + k) es ex) ≠ some c → H.blk c = h.blk c) → X.length = es → H.blk b = some ⟨A ++ (T ++ (X ++ rest)), true⟩ →
      ∃ h', aClear zero (.slice b ((m - 1) * es) 1 (m + k - (m - 1)) es ex) H = some (.tuple [], h') ∧ Buf es (.slice b 0 (m - 1) (m + k) es ex) h' n0 (m - 1) (A ++ T) ∧ h'.next = h.next ∧ ∀ c, slBlk (.slice b 0 m (m + k) es ex) ≠ some c → h'.blk c = h.blk c := by
    intro H X hn ho hX hbk
    refine ⟨H.setBlk b (some ⟨(A ++ T) ++ (zero ++ rest), true⟩), ?_, ⟨by rw [List.length_append, hA, hT, hm1], .inr ⟨b, ex, k + 1, zero ++ rest, ?_, a1, by rw [setBlk_next]; omega, by rw [List.length_append, hz, a3, Nat.add_mul]; omega, setBlk_same _ _ _⟩⟩, by rw [setBlk_next, hn], fun c hc => by rw [setBlk_ne _ _ (fun e => hc (by rw [e]; rfl))]; exact ho c hc⟩
    · have h10 : Nat.beq 1 0 = false := rfl
      have hez : Nat.beq es zero.length = true := by rw [hz]; exact hee
      simp only [aClear, h10, cond_false, hez, cond_true, reps_one]
      rw [wr_of hbk _ _ (by simp only [List.length_append, hA, hT, hX, hz, a3]; omega)]
      simp only [Option.bind_some]
      have hsp : A ++ (T ++ (X ++ rest)) = (A ++ T) ++ (X ++ rest) := by simp
      have hlen : (m - 1) * es = (A ++ T).length := by rw [List.length_append, hA, hT, hm1]
      rw [hsp, hlen, splice_eq _ _ _ _ (by omega)]
    · congr 1
      omega
  have l1 : aLen false (.slice b 0 m (m + k) es ex) = some (.int .i64 m) := rfl
  have l8 : aLen false (.slice b 0 (m - 1) (m + k) es ex) = some (.int .i64 ((m - 1 : Nat) : Int)) := rfl
  rcases ap with ap | ⟨hz0, ap⟩
  · obtain ⟨h', c1, B, c2, c3⟩ := fin (h.setBlk b (some ⟨A ++ (T ++ ((D ++ T).drop T.length ++ rest)), true⟩)) ((D ++ T).drop T.length) rfl (fun c hc => setBlk_ne _ _ fun e => hc (by rw [e]; rfl)) (by rw [List.length_drop, List.length_append]; omega) (setBlk_same _ _ _)
    refine ⟨_, h', ?_, B, rfl, c2, c3⟩
    simp only [deleteS, l1, Option.bind_some, s1, bin_eql, beq_eq_false_iff_ne.2 ne1, cond_bool, cond_false, s5, s6, ap, l8, s9, c1]
  · have hT0 : T = [] := List.length_eq_zero_iff.1 (by rw [hT, hz0]; omega)
    obtain ⟨h', c1, B, c2, c3⟩ := fin h D rfl (fun c hc => rfl) hD (by rw [a4, hT0]; simp)
    refine ⟨_, h', ?_, B, rfl, c2, c3⟩
    simp only [deleteS, l1, Option.bind_some, s1, bin_eql, beq_eq_false_iff_ne.2 ne1, cond_bool, cond_false, s5, s6, ap, l8, s9, c1]

/-- A block and a row may be written; nothing else that was there. -/
structure Fr (p : Nat) (sl : AVal) (h h' : Heap) : Prop where
  next : h.next ≤ h'.next
  old : ∀ b, b < h.next → b ≠ p → slBlk sl ≠ some b → h'.blk b = h.blk b
theorem Fr.refl (p : Nat) (sl : AVal) (h : Heap) : Fr p sl h h := ⟨Nat.le_refl _, fun _ _ _ _ => rfl⟩
theorem Went.fr {h h' : Heap} (W : Went h h') (p : Nat) (sl : AVal) : Fr p sl h h' := ⟨W.next, fun b hb _ _ => W.old b hb⟩
theorem Fr.went {h0 h h' : Heap} {p : Nat} {sl : AVal} (F : Fr p sl h h') (W : Went h0 h) (hp : h0.next ≤ p) (hs : ∀ b, slBlk sl = some b → h0.next ≤ b) : Went h0 h' :=
  ⟨Nat.le_trans W.next F.next, fun i hi => by
    rw [F.old i (by have := W.next; omega) (by omega) (fun e => by have := hs i e; omega)]
    exact W.old i hi⟩
theorem Fr.src {h h' : Heap} {p : Nat} {sl : AVal} (F : Fr p sl h h') {es : Nat} {s : AVal} {m : Nat} {cells : List AVal} (S : Src es s h m cells) (hs : ∀ c, slBlk s = some c → c ≠ p ∧ slBlk sl ≠ some c) : Src es s h' m cells :=
  S.kept F.next fun c hc => F.old c (S.blk c hc) (hs c hc).1 (hs c hc).2

/-- A table of so many by so many, row by row. -/
def grid (n : Nat) (f : Nat → Nat → Bool) : List AVal := (List.range (n * n)).map fun i => .bool (f (i / n) (i % n))
@[simp] theorem grid_len (n : Nat) (f : Nat → Nat → Bool) : (grid n f).length = n * n := by simp [grid]
theorem grid_at {n : Nat} (f : Nat → Nat → Bool) {a b : Nat} (ha : a < n) (hb : b < n) : (grid n f)[a * n + b]? = some (.bool (f a b)) := by
  have h1 : a * n + b < n * n := by
    have : (a + 1) * n ≤ n * n := Nat.mul_le_mul_right n ha
    rw [Nat.add_mul] at this; omega
  have h2 : (a * n + b) / n = a := by
    rw [Nat.mul_comm, Nat.mul_add_div (by omega), Nat.div_eq_of_lt hb, Nat.add_zero]
  have h3 : (a * n + b) % n = b := by
    rw [Nat.mul_comm, Nat.mul_add_mod, Nat.mod_eq_of_lt hb]
  rw [grid, List.getElem?_map, List.getElem?_range h1, Option.map_some, h2, h3]
def upd (f : Nat → Nat → Bool) (a b : Nat) (v : Bool) : Nat → Nat → Bool := fun x y => if x = a ∧ y = b then v else f x y
theorem grid_set {n : Nat} (f : Nat → Nat → Bool) {a b : Nat} (ha : a < n) (hb : b < n) (v : Bool) : (grid n f).set (a * n + b) (.bool v) = grid n (upd f a b v) := by
  have h1 : a * n + b < n * n := by
    have : (a + 1) * n ≤ n * n := Nat.mul_le_mul_right n ha
    rw [Nat.add_mul] at this; omega
  apply List.ext_getElem?
  intro i
  by_cases hi : i < n * n
  · rw [List.getElem?_set]
    have h4 : (grid n (upd f a b v))[i]? = some (.bool (upd f a b v (i / n) (i % n))) := by
      rw [grid, List.getElem?_map, List.getElem?_range hi, Option.map_some]
    have h5 : (grid n f)[i]? = some (.bool (f (i / n) (i % n))) := by
      rw [grid, List.getElem?_map, List.getElem?_range hi, Option.map_some]
    by_cases e : a * n + b = i
    · have h2 : i / n = a := by
        rw [← e, Nat.mul_comm, Nat.mul_add_div (by omega), Nat.div_eq_of_lt hb, Nat.add_zero]
      have h3 : i % n = b := by
        rw [← e, Nat.mul_comm, Nat.mul_add_mod, Nat.mod_eq_of_lt hb]
      rw [if_pos e, h4, h2, h3, if_pos (by simp; omega)]
      simp [upd]
    · rw [if_neg e, h4, h5]
      have : ¬ (i / n = a ∧ i % n = b) := by
        rintro ⟨h2, h3⟩
        apply e
        rw [← h2, ← h3, Nat.mul_comm]
        exact Nat.div_add_mod i n
      simp [upd, this]
  · rw [List.getElem?_eq_none (by simp; omega), List.getElem?_eq_none (by simp; omega)]
@[simp] theorem bin_str_eql (a b : List UInt8) : aBin .eql .plain (.str a) (.str b) = some (.bool (a == b)) := rfl
@[simp] theorem bin_str_neq (a b : List UInt8) : aBin .neq .plain (.str a) (.str b) = some (.bool (!(a == b))) := rfl
end Go.Fw
