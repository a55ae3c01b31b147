/- Chapter 1: same, known; the laws. -/
import Derived.Test.YtkbchgbpglamcaaDoorSame
namespace Go.Proofs.YtkbchgbpglamcaaDoor.Code
set_option linter.unusedSimpArgs false
set_option linter.unusedVariables false
open Go.Fw

abbrev Rdy (h : Heap) : Prop := Ready h.next h
theorem Rdy.went {h H : Heap} (R : Rdy h) (W : Went h H) : Rdy H := R.of W.next (Nat.le_refl _) W.old
theorem Rdy.at {h H : Heap} (R : Rdy h) (W : Went h H) : Ready h.next H := Ready.went R W

theorem code_okW {h : Heap} (R : Rdy h) {N : Nat} (hN : N ≤ h.next) {e : Er} {v : AVal} (hr : Rep h N e v) : ∃ H, E tbl 10 [v] h = some (.int .i64 (codeI e), H) ∧ Went h H := by
  obtain ⟨H, e1, h1, h2⟩ := code_ok R (hr.mono (M := h.next) hN (Nat.le_refl _) fun _ _ => rfl)
  exact ⟨H, e1, h1, h2⟩
theorem path_okW {h : Heap} (R : Rdy h) {N : Nat} (hN : N ≤ h.next) {e : Er} {v : AVal} (hr : Rep h N e v) (hlen : (pathOf e).length ≤ 1000) : ∃ o H, E tbl 12 [v] h = some (o, H) ∧ OwnT o H h.next (pathOf e) ∧ Went h H :=
  path_ok R (hr.mono (M := h.next) hN (Nat.le_refl _) fun _ _ => rfl) hlen

theorem ch_code (ops : List (List UInt8)) (k : Int) : codeOf (ops.foldr .fault (.code k)) = some k := by induction ops with | nil => rfl | cons o r ih => exact ih
theorem ch_path (ops : List (List UInt8)) (k : Int) : pathOf (ops.foldr .fault (.code k)) = ops := by induction ops with | nil => rfl | cons o r ih => simp [pathOf, ih]
theorem ch_is (ops : List (List UInt8)) (k m : Int) : isIn (.code m) (ops.foldr .fault (.code k)) = (k == m) := by induction ops with | nil => rfl | cons o r ih => exact ih
theorem ch_ok (ops : List (List UInt8)) (k m : Int) : okIs (.code m) (ops.foldr .fault (.code k)) := by induction ops with | nil => trivial | cons o r ih => exact ih
theorem ch_t (ops : List (List UInt8)) (k : Int) (hk : k < 9223372036854775808) : tOk (ops.foldr .fault (.code k)) := by induction ops with | nil => exact hk | cons o r ih => exact ih
theorem ch_ne (ops : List (List UInt8)) (k : Int) : ops.foldr Er.fault (.code k) ≠ .nil := by cases ops <;> simp

theorem same_ok {s : AVal} {h : Heap} {ops : List (List UInt8)} (S : SrcT s h ops) (hlen : ops.length ≤ 900) (hl : ∀ o ∈ ops, o.length ≤ 281474976710656) (k : Int) (hk0 : -9223372036854775808 ≤ k) (hk : k < 9223372036854775808) (R : Rdy h) :
    ∃ H, E tbl 15 [s, .int .i64 k] h = some (.bool true, H) ∧ Went h H := by
  obtain ⟨v, H1, e1, R1, W1⟩ := chain_ok S (by omega) k
  have el := S.len
  have Y1 := R.went W1
  by_cases hz : ops = [] ∨ k = 0
  · have hc : chainE ops k = .nil := by simp [chainE, hz]
    rw [hc] at R1
    obtain rfl : v = .nilIface := R1
    obtain ⟨H2, e2, W2⟩ := code_okW Y1 (Nat.le_refl _) (e := .nil) (v := .nilIface) rfl
    obtain ⟨o, H3, e3, O, W3⟩ := path_okW (Y1.went W2) (Nat.le_refl _) (e := .nil) (v := .nilIface) rfl (by simp [pathOf])
    have eo : aLen false o = some (.int .i64 0) := O.src.len
    refine ⟨H3, ?_, W1.trans (W2.trans W3)⟩
    have hcond : ((ops.length : Int) == 0) = true ∨ k = 0 := by
      rcases hz with rfl | h0
      · exact .inl rfl
      · exact .inr h0
    rw [c15]
    rcases hcond with hb | hk
    · simp [S15, e1, el, hb, e2, codeI, e3, eo]
    · subst hk
      cases hb : ((ops.length : Int) == 0) <;> simp [S15, e1, el, hb, e2, codeI, e3, eo]
  · obtain ⟨ho, hkz⟩ : ops ≠ [] ∧ k ≠ 0 := ⟨fun hh => hz (.inl hh), fun hh => hz (.inr hh)⟩
    have hc : chainE ops k = ops.foldr .fault (.code k) := by simp [chainE, ho, hkz]
    rw [hc] at R1
    have q1 := ch_code ops k
    have q2 := ch_path ops k
    have q3 := ch_is ops k
    have q4 := ch_ok ops k
    have q5 := ch_t ops k hk
    have q6 := ch_ne ops k
    have q7 := textOf_chain ops k
    have hci : codeI (ops.foldr .fault (.code k)) = k := by
      have : codeI (ops.foldr .fault (.code k)) = (codeOf (ops.foldr .fault (.code k))).getD 14 := by
        cases h3 : ops.foldr Er.fault (.code k) <;> first | rfl | exact (q6 h3).elim
      rw [this, q1]; rfl
    generalize hE : ops.foldr Er.fault (.code k) = e at *
    obtain ⟨ty, x0, rfl⟩ := R1.iface q6
    obtain ⟨H2, e2, W2⟩ := code_okW Y1 (Nat.le_refl _) R1
    rw [hci] at e2
    have Y2 := Y1.went W2
    have R2 := R1.went (Nat.le_refl _) W2
    obtain ⟨o, H3, e3, O3, W3⟩ := path_okW Y2 W2.next R2 (by rw [q2]; omega)
    rw [q2] at O3
    have Y3 := Y2.went W3
    have R3 := R2.went W2.next W3
    have W13 := W2.trans W3
    have S3 := (W1.trans W13).src S
    have e4 := ssame_ok O3.src S3 (by omega)
    simp only [decide_true] at e4
    have htl := textC_len (ops := ops) k hl
    have hel := errnoT_len k hk
    have htx : (textOf e).length ≤ 4611686018427387904 := by
      rw [q7]
      have : ops.length * 281474976710658 ≤ 900 * 281474976710658 := Nat.mul_le_mul_right _ hlen
      omega
    obtain ⟨f, x, H4, m4, e5, W4⟩ := text_ok R3 W13.next q6 q5 htx
    rw [q7] at e5
    obtain ⟨H5, e6, W5⟩ := text25_ok (W4.src S3) (by omega) hl k hk
    have W35 := W4.trans W5
    have Y5 := Y3.went W35
    have R5 := R3.went W13.next W35
    have W15 := W13.trans W35
    have WA : Went H5 ((H5.alloc [.nilPtr]).alloc [.int .i64 0]) := (Went.alloc _ _).trans (Went.alloc _ _)
    have R6 := (R5.mono (M := H5.next) W15.next (Nat.le_refl _) fun _ _ => rfl).went (Nat.le_refl _) WA
    have Y6 : Ready H5.next ((H5.alloc [.nilPtr]).alloc [.int .i64 0]) := Y5.at WA
    have hb1 : ((H5.alloc [.nilPtr]).alloc [.int .i64 0]).blk H5.next = some ⟨[.nilPtr], true⟩ := by rw [Heap.alloc_other _ _ (by simp)]; exact alloc_same _ _
    have hb2 : ((H5.alloc [.nilPtr]).alloc [.int .i64 0]).blk (H5.next + 1) = some ⟨[.int .i64 0], true⟩ := alloc_same (H5.alloc [.nilPtr]) _
    have hnx : ((H5.alloc [.nilPtr]).alloc [.int .i64 0]).next = H5.next + 2 := rfl
    generalize hG : (H5.alloc [.nilPtr]).alloc [.int .i64 0] = G6 at *
    obtain ⟨r, H7, e7, O7, b7, F7⟩ := As_ok (et := 41) (pt := 56) Y6 (.inr ⟨rfl, rfl⟩) (Nat.le_refl _) (by omega) hb1 R6 q6
    rcases find_fault R6 F7 with ⟨_, hf⟩ | ⟨b, op, u, rw, e', rfl, hbN, hbl, _, hp, _⟩
    · exact absurd (pathOf_none hf) (by rw [q2]; exact ho)
    rw [q2] at hp
    have hop : ops.getD 0 [] = op := by rw [hp]; rfl
    have hbl7 : H7.blk b = some ⟨[.str op, u], rw⟩ := by rw [O7.old b (by omega) (by omega)]; exact hbl
    have hold7 : ∀ c, c < H5.next → H7.blk c = G6.blk c := fun c hc => O7.old c (by omega) (by omega)
    have S7 : SrcT s H7 ops := ((W1.trans W15).trans WA |>.src S).kept O7.next fun c hc => hold7 c (by
      have h1 := S.blk c hc
      have h2 := (W1.trans W15).next
      omega)
    have hpos : 0 < ops.length := List.length_pos_iff.2 ho
    obtain ⟨p, a1, a2⟩ := Src.str S7 0 hpos
    rw [hop] at a2
    have b7' : H7.blk (H5.next + 1) = some ⟨[.int .i64 0], true⟩ := by rw [O7.old _ (by omega) (by omega)]; exact hb2
    have Y7 : Ready H5.next H7 := Y6.of (Nat.le_refl _) (by have := O7.next; omega) hold7
    have R7 : Rep H7 H5.next e (.iface ty x0) := R6.mono (Nat.le_refl _) O7.next hold7
    obtain ⟨r2, H8, e8, O8, b8, F8⟩ := As_ok (et := 28) (pt := 55) Y7 (.inl ⟨rfl, rfl⟩) (by omega) (by have := O7.next; omega) b7' R7 q6
    have hr2 := find_code F8
    rw [q1] at hr2
    subst hr2
    have hold8 : ∀ c, c < H5.next → H8.blk c = H7.blk c := fun c hc => O8.old c (by have := O7.next; omega) (by omega)
    have R8 : Rep H8 H5.next e (.iface ty x0) := R7.mono (Nat.le_refl _) O8.next hold8
    have i1 := Is_ok (m := .code k) rfl R8 (q4 k)
    have wk : (k == IntKind.i64.wrap (k + 1)) = false := by
      simp only [beq_eq_false_iff_ne, ne_eq]
      intro hh
      rw [IntKind.wrap_i64] at hh
      omega
    have i2 := Is_ok (m := .code (IntKind.i64.wrap (k + 1))) rfl R8 (q4 _)
    have i3 := Has_ok (k := k) R8 (q4 k)
    have i4 := Has_ok (k := IntKind.i64.wrap (k + 1)) R8 (q4 _)
    rw [q3] at i1 i2 i3 i4
    rw [wk] at i2 i4
    simp only [beq_self_eq_true] at i1 i3
    have hn0 : ((ops.length : Int) == 0) = false := by simp only [beq_eq_false_iff_ne, ne_eq]; omega
    have hk1 : (k == 0) = false := by simpa using hkz
    have W1A := (W1.trans W15).trans WA
    have a1' : aIaddr 1 s (.int .i64 0) = some p := a1
    refine ⟨H8, ?_, ⟨?_, ?_⟩⟩
    · rw [c15]
      simp only [errTbl] at m4
      have hck : (textC ops k == textC ops k) = true := by simp
      have b81 : H8.blk H5.next = some ⟨[.ptr b 0], true⟩ := by rw [O8.old _ (by have := O7.next; omega) (by omega)]; exact b7
      simp [S15, e1, el, hn0, hk1, e2, e3, e4, m4, e5, e6, hG, e7, rd_bind, b7, hbl7, a1', a2, e8, b8, i1, i2, i3, i4]
    · have := O7.next; have := O8.next; have := W1A.next; omega
    · intro c hc
      have h5 := (W1.trans W15).next
      rw [hold8 c (by omega), hold7 c (by omega), W1A.old c hc]

end Go.Proofs.YtkbchgbpglamcaaDoor.Code
