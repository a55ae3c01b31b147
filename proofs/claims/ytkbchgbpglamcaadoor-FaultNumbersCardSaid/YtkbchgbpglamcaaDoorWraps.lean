/- Chapter 1: FaultWraps. -/
import Derived.Test.YtkbchgbpglamcaaDoorRuns
namespace Go.Proofs.YtkbchgbpglamcaaDoor.Code
set_option linter.unusedSimpArgs false
set_option linter.unusedVariables false
open Go.Fw

theorem SrcT.from {s : AVal} {h : Heap} {l : List (List UInt8)} (S : SrcT s h l) (R : El.Room s) (n : Nat) (hn : n ≤ l.length) : ∃ s', aSliceSl 1 s (some (.int .i64 n)) none none = some s' ∧ SrcT s' h (l.drop n) := by
  have S' : strE.Src s h l := by unfold El.Src; rw [strE_rws]; exact S
  obtain ⟨s', e, S2, _, _⟩ := El.Src.part S' R (some n) none n l.length rfl rfl hn (Nat.le_refl _)
  refine ⟨s', e, ?_⟩
  have h2 : (l.drop n).take (l.length - n) = l.drop n := List.take_of_length_le (by simp)
  rw [h2] at S2
  unfold El.Src at S2
  rw [strE_rws] at S2
  exact S2

theorem unwrapE_ok {N : Nat} {h : Heap} {op : List UInt8} {e : Er} {v : AVal} (r : Rep h N (.fault op e) v) : ∃ u, E tbl 17 [v] h = some (u, h) ∧ Rep h N e u := by
  obtain ⟨b, u, rw, rfl, hb, hbl, Re⟩ := r
  refine ⟨u, ?_, Re⟩
  rw [c17]
  simp [S17, aAssert, lookT, aMeth, lookM, beq_dec, unwrap_ok hbl]

theorem faultWraps {h : Heap} (R : Rdy h) {s : AVal} {l : List (List UInt8)} (S : SrcT s h l) (hr : El.Room s) (hm : ∀ t ∈ l, t.length ≤ 281474976710656) (op : List UInt8) (hop : op.length ≤ 281474976710656) (k : Int) (hk0 : -9223372036854775808 ≤ k) (hk : k ≤ 9223372036854775807) :
    ∃ h', E tbl 5 [s, .str op, .int .i64 k] h = some (.bool true, h') := by
  have el := S.len
  obtain ⟨s', hs, S', hl', hm'⟩ : ∃ s', (if (l.length : Int) > 9 then aSliceSl 1 s none (some (.int .i64 9)) none else some s) = some s' ∧ SrcT s' h (l.take 9) ∧ (l.take 9).length ≤ 9 ∧ ∀ t ∈ l.take 9, t.length ≤ 281474976710656 := by
    by_cases hg : (l.length : Int) > 9
    · obtain ⟨s', e, S'⟩ := SrcT.part S hr 9 (by omega)
      exact ⟨s', by rw [if_pos hg]; exact e, S', by simp; omega, fun t ht => hm t (List.mem_of_mem_take ht)⟩
    · exact ⟨s, by rw [if_neg hg], by rw [List.take_of_length_le (by omega)]; exact S, by simp; omega, fun t ht => hm t (List.mem_of_mem_take ht)⟩
  generalize l.take 9 = ops at S' hl' hm'
  obtain ⟨c, ec, c1', c2'⟩ : ∃ c, ((aBin .and .plain (.int .i64 k) (.int .i64 15)).bind fun v => aBin .add .plain (.int .i64 1) v) = some (.int .i64 c) ∧ 1 ≤ c ∧ c ≤ 16 := by
    have h15 : ∃ a : Int, aBin .and .plain (.int .i64 k) (.int .i64 15) = some (.int .i64 a) ∧ 0 ≤ a ∧ a ≤ 15 := by
      refine ⟨_, rfl, ?_⟩
      have h1 : (BitVec.ofInt 64 k &&& BitVec.ofInt 64 15).toNat ≤ 15 := by
        have : (BitVec.ofInt 64 15) = 15#64 := by decide
        rw [this, BitVec.toNat_and]
        exact Nat.and_le_right
      have h2 : IntKind.bits .i64 = 64 := rfl
      rw [h2, IntWalk.i64_in _ (by omega)]
      omega
    obtain ⟨a, ea, a1, a2⟩ := h15
    refine ⟨IntKind.i64.wrap (1 + a), by rw [ea]; simp, ?_⟩
    rw [IntWalk.i64_in _ (by omega)]
    omega
  obtain ⟨va, eva, ec2⟩ := Option.bind_eq_some_iff.1 ec
  -- the row of ops
  have O0 : OwnT (.slice h.next 0 0 0 1 true) (h.alloc []) h.next [] := Own.lit 1 h [] 0 rfl true
  obtain ⟨o1, G1, f1, O1, K1⟩ := Own.app (bytes := 16) (zero := [.str []]) O0 ((Went.alloc h []).src S') (by omega) (by simp) (by simp; omega) (by simp; omega)
  have WK1 : Went h G1 := K1.went (Went.alloc h []) fun b hb => by cases hb; exact Nat.le_refl _
  obtain ⟨o2, G2, f2, O2, K2⟩ := Own.snoc (bytes := 16) (zero := [.str []]) (news := [.str [108, 97, 115, 116]]) O1 (by omega) rfl (by have := WK1.next; omega) (by simp; omega) (by simp; omega)
  have WK2 : Went h G2 := K2.went WK1 fun b hb => (O1.blk b hb).1
  obtain ⟨ops', hops⟩ : ∃ x, x = ops ++ [[108, 97, 115, 116]] := ⟨_, rfl⟩
  have S2 : SrcT o2 G2 ops' := by
    have := O2.src
    simp only [List.length_nil, Nat.zero_add, List.map_nil, List.nil_append] at this
    rw [hops]
    show Src 1 o2 G2 (ops ++ [[108, 97, 115, 116]]).length ((ops ++ [[108, 97, 115, 116]]).map .str)
    rw [List.length_append, List.map_append]
    exact this
  have hne : ops' ≠ [] := by rw [hops]; simp
  have hlen : ops'.length ≤ 10 := by rw [hops]; simp; omega
  have hl2 : ∀ o ∈ ops', o.length ≤ 281474976710656 := by
    rw [hops]
    intro o ho
    rcases List.mem_append.1 ho with h1 | h1
    · exact hm' o h1
    · rw [List.mem_singleton] at h1; subst h1; simp
  obtain ⟨v, H1, e1, R1, W1⟩ := chain_ok S2 (by omega) c
  have Y1 := (R.went WK2).went W1
  have hc : chainE ops' c = ops'.foldr .fault (.code c) := by simp only [chainE, hne, false_or]; rw [if_neg (by omega)]
  rw [hc] at R1
  have q1 := ch_code ops' c
  have q2 := ch_path ops' c
  have q5 := ch_t ops' c (by omega)
  have q6 := ch_ne ops' c
  have q7 := textOf_chain ops' c
  generalize hE : ops'.foldr Er.fault (.code c) = e at *
  have hce : codeI e = c := by
    have : codeI e = (codeOf e).getD 14 := by cases e <;> first | rfl | exact (q6 rfl).elim
    rw [this, q1]; rfl
  obtain ⟨w, H2, e2, R2, W2⟩ := wrap_ok op R1 (Nat.le_refl _)
  have R2 : Rep H2 H2.next (.fault op e) w := by
    have : wrapE op e = .fault op e := by cases e <;> first | rfl | exact (q6 rfl).elim
    rw [this] at R2; exact R2
  have Y2 := Y1.went W2
  have Re2 := R1.went (Nat.le_refl _) W2
  obtain ⟨H3, e3, W3⟩ := code_okW Y2 (Nat.le_refl _) R2
  have hcw : codeI (.fault op e) = c := by show (codeOf e).getD 14 = c; rw [q1]; rfl
  rw [hcw] at e3
  have Y3 := Y2.went W3
  obtain ⟨H4, e4, W4⟩ := code_okW Y3 W3.next ((Re2.mono (M := H2.next) W2.next (Nat.le_refl _) fun _ _ => rfl).went (Nat.le_refl _) W3)
  rw [hce] at e4
  have W24 := W3.trans W4
  have Y4 := Y3.went W4
  have Rw4 := R2.went (Nat.le_refl _) W24
  have Re2' : Rep H2 H2.next e v := Re2.mono (M := H2.next) W2.next (Nat.le_refl _) fun _ _ => rfl
  have Re4 := Re2'.went (Nat.le_refl _) W24
  obtain ⟨p, H5, e5, P5, W5⟩ := path_okW Y4 W24.next Re4 (by rw [q2]; omega)
  rw [q2] at P5
  have Y5 := Y4.went W5
  have W25 := W24.trans W5
  have Rw5 := Rw4.went W24.next W5
  have hpw : pathOf (.fault op e) = op :: ops' := by show op :: pathOf e = _; rw [q2]
  obtain ⟨q, H6, e6, Q6, W6⟩ := path_okW Y5 W25.next Rw5 (by rw [hpw]; simp; omega)
  rw [hpw] at Q6
  have Y6 := Y5.went W6
  have W26 := W25.trans W6
  have Rw6 := Rw5.went W25.next W6
  have Re6 := (Re4.went W24.next W5).went W25.next W6
  obtain ⟨u, e7, Ru6⟩ := unwrapE_ok Rw6
  have lq : aLen false q = some (.int .i64 ((op :: ops').length : Nat)) := Q6.src.len
  have P6 := W6.own P5
  have lp : aLen false p = some (.int .i64 (ops'.length : Nat)) := P6.src.len
  obtain ⟨p0, b1, b2⟩ := Src.str (L := op :: ops') Q6.src 0 (by simp)
  have b1' : aIaddr 1 q (.int .i64 0) = some p0 := b1
  have b2' : aLoad H6 1 p0 = some [.str op] := b2
  obtain ⟨q', eq', Q'⟩ := SrcT.from (l := op :: ops') Q6.src Q6.room 1 (by simp)
  have eq'' : aSliceSl 1 q (some (.int .i64 1)) none none = some q' := eq'
  have e8 := ssame_ok Q' P6.src (by simp; omega)
  simp only [List.drop_succ_cons, List.drop_zero, decide_true] at e8
  obtain ⟨tu, xu, rfl⟩ := Ru6.iface q6
  have hN6 : H2.next ≤ H6.next := W26.next
  obtain ⟨o3, H7, e9, P7, W7⟩ := path_okW Y6 hN6 Ru6 (by rw [q2]; omega)
  rw [q2] at P7
  have e10 := ssame_ok P7.src (W7.own P6).src (by omega)
  simp only [decide_true] at e10
  have Y7 := Y6.went W7
  have Rw7 := Rw6.went hN6 W7
  have Re7 := Re6.went hN6 W7
  have hN7 : H2.next ≤ H7.next := Nat.le_trans hN6 W7.next
  have htl := textC_len (ops := ops') c hl2
  have hel := errnoT_len c (by omega)
  have htx : (textOf e).length ≤ 281474976710658 * 20 := by
    rw [q7]
    have : ops'.length * 281474976710658 ≤ 10 * 281474976710658 := Nat.mul_le_mul_right _ hlen
    omega
  obtain ⟨f, x, H8, m8, e11, W8⟩ := text_ok Rw7 hN7 (by simp) q5 (by simp [textOf]; omega)
  have Re8 := Re7.went hN7 W8
  obtain ⟨f', x', H9, m9, e12, W9⟩ := text_ok Re8 (Nat.le_trans hN7 W8.next) q6 q5 (by omega)
  obtain ⟨H10, e13, W10⟩ := known_ok ((Y7.went W8).went W9)
  have t1 : aBin .add .plain (.str op) (.str [58, 32]) = some (.str (op ++ [58, 32])) := str_add _ _ (by simp; omega)
  have t2 : aBin .add .plain (.str (op ++ [58, 32])) (.str (textOf e)) = some (.str (op ++ [58, 32] ++ textOf e)) := str_add _ _ (by simp; omega)
  have t3 : textOf (.fault op e) = op ++ [58, 32] ++ textOf e := rfl
  rw [t3] at e11
  generalize op ++ [58, 32] ++ textOf e = tt at e11 t2
  generalize op ++ [58, 32] = oo at t1 t2
  obtain ⟨tv, xv, rfl⟩ := R1.iface q6
  obtain ⟨tw, xw, rfl⟩ := R2.iface (by simp)
  simp only [errTbl] at m8 m9
  have wl : IntKind.i64.wrap ((ops'.length : Int) + 1) = (ops'.length : Int) + 1 := by rw [IntWalk.i64_in _ (by omega)]
  have lq' : aLen false q = some (.int .i64 ((ops'.length : Int) + 1)) := by rw [lq]; simp
  refine ⟨H10, ?_⟩
  rw [c5]
  by_cases hg : (l.length : Int) > 9
  · rw [if_pos hg] at hs
    have hd : decide ((9 : Int) < (l.length : Int)) = true := by simpa using hg
    simp [S5, el, hd, hs, eva, ec2, f1, f2, e1, e2, e3, e4, e5, e6, e7, lq', lp, wl, b1', b2', eq'', e8, e9, e10, m8, e11, t1, m9, e12, t2, e13, beq_dec]
  · rw [if_neg hg] at hs
    cases hs
    have hd : decide ((9 : Int) < (l.length : Int)) = false := by simpa using hg
    simp [S5, el, hd, eva, ec2, f1, f2, e1, e2, e3, e4, e5, e6, e7, lq', lp, wl, b1', b2', eq'', e8, e9, e10, m8, e11, t1, m9, e12, t2, e13, beq_dec]

end Go.Proofs.YtkbchgbpglamcaaDoor.Code
