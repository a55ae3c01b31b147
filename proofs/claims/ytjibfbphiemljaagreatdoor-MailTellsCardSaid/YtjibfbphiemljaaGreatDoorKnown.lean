/- YtjibfbphiemljaaGreatDoorKnown -/
import Derived.Test.YtjibfbphiemljaaGreatDoorTape
set_option linter.unusedSimpArgs false
set_option linter.unusedVariables false
namespace Go.Proofs.YtjibfbphiemljaaGreatDoor.Code
open Go.Fw
theorem nn_eq : aBin .eql (.iface true []) .nilIface .nilIface = some (.bool true) := rfl
theorem cell_str (s : List UInt8) : aCells 1 (.str s) = some [.str s] := rfl
theorem Rep.faultV {h : Heap} {N : Nat} {op : List UInt8} {e : Er} {v : AVal} (r : Rep h N (.fault op e) v) : ∃ b, v = .iface 98 (.ptr b 0) := by
  obtain ⟨b, u, rw, h1, _⟩ := r
  exact ⟨b, h1⟩
theorem reps_two (z : List AVal) : reps z 2 = z ++ z := by simp [reps]
noncomputable def whyT (call : Go.Fw.Call) (v k w : AVal) (h : Heap) : Option J :=
 (aBin .neq (.iface true []) v (.nilIface)).bind fun v7 =>
 (guardV v7 true
 ((call 45 [v] h).bind fun r8 =>
 (aBin .eql .plain r8.1 k).bind fun v9 =>
 some (0, [v9], r8.2))
 (some (0, [skipV], h))).bind fun g10 =>
 (aPick v7 (g10.2.1.getD 0 .undef) (.bool false)).bind fun v11 =>
 (guardV v11 true
 ((call 47 [v] g10.2.2).bind fun r12 =>
 (call 46 [r12.1, w] r12.2).bind fun r13 =>
 some (0, [r13.1], r13.2))
 (some (0, [skipV], g10.2.2))).bind fun g14 =>
 (aPick v11 (g14.2.1.getD 0 .undef) (.bool false)).bind fun v15 =>
 some (0, [v15], g14.2.2)
theorem whyT_ok {h : Heap} (R : Rdy h) {op0 : List UInt8} {e : Er} {v w : AVal} {ws : List (List UInt8)} (hr : Rep h h.next (.fault op0 e) v) (hp : (pathOf e).length ≤ 900) (S : SrcT w h ws) (k : Int) :
    ∃ H, whyT (E tbl) v (.int .i64 k) w h = some (0, [.bool ((codeI (.fault op0 e) == k) && decide (pathOf (.fault op0 e) = ws))], H) ∧ Went h H := by
  have plen : (pathOf (.fault op0 e)).length ≤ 1000 := by simp only [pathOf, List.length_cons]; omega
  obtain ⟨b0, rfl⟩ := hr.faultV
  obtain ⟨H1, e1, W1⟩ := code_okW R (Nat.le_refl _) hr
  cases hk : (codeI (.fault op0 e) == k) with
  | false =>
    refine ⟨H1, ?_, W1⟩
    simp [whyT, e1, hk]
  | true =>
    obtain ⟨o, H2, e2, O2, W2⟩ := path_okW (R.went W1) (Nat.le_refl _) ((hr.went (Nat.le_refl _) W1).mono W1.next (Nat.le_refl _) fun _ _ => rfl) plen
    have e3 := ssame_ok O2.src ((W1.trans W2).src S) (by omega)
    refine ⟨H2, ?_, W1.trans W2⟩
    simp [whyT, e1, hk, e2, e3]
def wantOf (outer op : List UInt8) : List (List UInt8) := if outer = [] then [op] else [outer, op]
theorem why_ok {h : Heap} (R : Rdy h) {op0 : List UInt8} {e : Er} {v : AVal} (hr : Rep h h.next (.fault op0 e) v) (hp : (pathOf e).length ≤ 900) (outer op : List UInt8) (k : Int) (hk : k ≠ 0) :
    ∃ H, E tbl 21 [v, .str outer, .str op, .int .i64 k] h = some (.bool ((codeI (.fault op0 e) == k) && decide (pathOf (.fault op0 e) = wantOf outer op)), H) ∧ Went h H := by
  have k0 : (k == 0) = false := by simpa using hk
  have up : ∀ {G : Heap}, Went h G → Rep G G.next (.fault op0 e) v := fun W => (hr.went (Nat.le_refl _) W).mono W.next (Nat.le_refl _) fun _ _ => rfl
  by_cases ho : outer = []
  · subst ho
    have W0 := Went.alloc h [.str op]
    obtain ⟨H, e1, W1⟩ := whyT_ok (R.went W0) (up W0) hp (w := .slice h.next 0 1 1 1 true) (ws := [op]) ((Own.lit 1 h ([op].map .str) 1 rfl true).src) k
    refine ⟨H, ?_, W0.trans W1⟩
    have n0 : aBin .neq .plain (.str []) (.str []) = some (.bool false) := rfl
    have hw : wantOf [] op = [op] := rfl
    rw [hw, c21]
    have : S21 (E tbl) v (.str []) (.str op) (.int .i64 k) h = whyT (E tbl) v (.int .i64 k) (.slice h.next 0 1 1 1 true) (h.alloc [.str op]) := by
      simp only [S21, List.getD_cons_zero, List.getD_cons_succ, Option.bind_some, cond_bool, cond_true, cond_false, fill_cons, fill_nil, cell_str, ble_dec, decide_true, spl_z, spl_c, reps_one, List.length_cons, List.length_nil, Nat.zero_add, Nat.reduceAdd, Nat.le_refl, bin_eql, nat_beq0, k0, n0]
      rfl
    rw [this, e1]
    rfl
  · have W0 := Went.alloc h [.str op]
    have W1 := Went.alloc (h.alloc [.str op]) [.str outer, .str op]
    obtain ⟨H, e1, W2⟩ := whyT_ok (R.went (W0.trans W1)) (up (W0.trans W1)) hp (w := .slice (h.alloc [.str op]).next 0 2 2 1 true) (ws := [outer, op]) ((Own.lit 1 (h.alloc [.str op]) ([outer, op].map .str) 2 rfl true).src) k
    refine ⟨H, ?_, (W0.trans W1).trans W2⟩
    have n0 : aBin .neq .plain (.str outer) (.str []) = some (.bool true) := by rw [bin_str_neq]; simp [ho]
    have hw : wantOf outer op = [outer, op] := by unfold wantOf; rw [if_neg ho]
    rw [hw, c21]
    have : S21 (E tbl) v (.str outer) (.str op) (.int .i64 k) h = whyT (E tbl) v (.int .i64 k) (.slice (h.alloc [.str op]).next 0 2 2 1 true) ((h.alloc [.str op]).alloc [.str outer, .str op]) := by
      simp only [S21, Option.bind_some, cond_bool, cond_true, cond_false, fill_cons, fill_nil, cell_str, ble_dec, decide_true, spl_z, spl_c, reps_one, List.length_cons, List.length_nil, Nat.zero_add, Nat.reduceAdd, Nat.le_refl, bin_eql, k0, n0, reps_two]
      rfl
    rw [this, e1]
    rfl
theorem why_nil {h : Heap} (outer op : List UInt8) : E tbl 21 [.nilIface, .str outer, .str op, .int .i64 0] h = some (.bool true, h) := by
  rw [c21]
  rfl
theorem pull_bytes : bytesM (noM 5) = [5, 0] := by decide
theorem pull_right : RightM (noM 5) := ⟨by decide, by decide, by decide, by decide, by decide, by simp [noM]⟩
theorem pull_wf : (noM 5).Wf := ⟨by decide, by decide, by decide, by decide, by decide, by decide, by decide, by decide, by simp [noM]⟩
theorem zero_why (k : Int) (h : k < 1 ∨ 5 < k) : whyM (noM k) = (tKind, 12) := by unfold whyM noM; rw [if_pos h]
theorem codeI_two (a b : List UInt8) (k : Int) : codeI (.fault a (.fault b (.code k))) = k := rfl
theorem codeI_one (b : List UInt8) (k : Int) : codeI (.fault b (.code k)) = k := rfl
theorem known_ok {h : Heap} (R : Rdy h) : ∃ H, E tbl 12 [] h = some (.bool true, H) ∧ Went h H := by
  obtain ⟨v1, e1, H1, c1, W1, R1, y1, _⟩ := bytes_ok (msAt_no 5 h) (by decide)
  obtain ⟨rfl, O1⟩ := y1 (right_mk pull_right)
  obtain ⟨m2, sc2, sk2, e2, H2, c2, K2⟩ := read_ok O1.src (by rw [pull_bytes]; decide)
  obtain ⟨rfl, rfl⟩ := K2.ok _ (read_back _ pull_right pull_wf)
  obtain ⟨v3, e3, H3, c1003, W3, R3, _, y3⟩ := bytes_ok (msAt_no 9 H2) (by decide)
  obtain rfl := y3 (by rw [zero_why 9 (by decide)]; decide)
  rw [zero_why 9 (by decide)] at R3
  obtain ⟨m4, sc4, sk4, e4, H4, c1004, K4⟩ := read_ok (Bs.nil H3) (by simp)
  obtain ⟨rfl, _, R4⟩ := K4.no (tBytes, 12) (by decide)
  have W24 := W3.trans K4.went
  have W04 := (W1.trans K2.went).trans W24
  have s5 := same_ok (K2.at'.went W24) (msAt_no 5 H4) (by simp [noM]) (by simp [noM])
  rw [decide_eq_true rfl] at s5
  have R3' : Rep H4 H4.next (.fault tWrite (.fault tKind (.code 12))) e3 := (Rep.went (e := .fault tWrite (.fault tKind (.code 12))) R3 (Nat.le_refl _) K4.went).mono K4.went.next (Nat.le_refl _) fun _ _ => rfl
  obtain ⟨H5, c1005, W5⟩ := why_ok (R.went W04) R3' (by simp [pathOf]) tWrite tKind 12 (by decide)
  rw [codeI_two] at c1005
  have R4' := (R4.went (Nat.le_refl _) W5).mono W5.next (Nat.le_refl _) fun _ _ => rfl
  obtain ⟨H6, c6, W6⟩ := why_ok ((R.went W04).went W5) R4' (by simp [pathOf]) tRead tBytes 12 (by decide)
  rw [codeI_two] at c6
  have W46 := W5.trans W6
  obtain ⟨v7, H7, c20, R7, W7⟩ := right_ok (msAt_no 5 H6)
  rw [right_iff.1 (right_mk pull_right)] at R7
  obtain rfl : v7 = .nilIface := R7
  obtain ⟨v8, H8, c27, R8, W8⟩ := right_ok (msAt_no 0 H7)
  rw [zero_why 0 (by decide)] at R8
  obtain ⟨H9, c15, W9⟩ := why_ok (((((R.went W04).went W46).went W7)).went W8) R8 (by simp [pathOf]) [] tKind 12 (by decide)
  rw [codeI_one] at c15
  have p1 : decide (pathOf (.fault tWrite (.fault tKind (.code 12))) = wantOf tWrite tKind) = true := by decide
  have p2 : decide (pathOf (.fault tRead (.fault tBytes (.code 12))) = wantOf tRead tBytes) = true := by decide
  have p3 : decide (pathOf (.fault tKind (.code 12)) = wantOf [] tKind) = true := by decide
  have k12 : ((12 : Int) == 12) = true := rfl
  rw [p1, k12] at c1005
  rw [p2, k12] at c6
  rw [p3, k12] at c15
  refine ⟨H9, ?_, (((W04.trans W46).trans W7).trans W8).trans W9⟩
  have gt : ∀ (a b : Option J), guardV (.bool true) true a b = a := fun _ _ => rfl
  have pt : ∀ (a b : AVal), aPick (.bool true) a b = some a := fun _ _ => rfl
  simp only [Ms.cells, noM] at c1 c2 c1003 c1004 s5 c20 c27
  rw [c12]
  simp only [S12, gt, pt, List.getD_cons_zero, Option.bind_some, cond_true, fill_cons, fill_nil, aCells_agg, aCells_int, ble_dec, decide_true, spl_z, spl_c, List.length_cons, List.length_nil, Nat.zero_add, Nat.reduceAdd, Nat.le_refl, Nat.reduceLeDiff, rdL_z, rdL_t, Option.map_some, from_agg, ans_one, Bool.and_self, ext_0, ext_1, nn_eq, c1, c2, c1003, c1004, s5, c1005, c6, c20, c27, c15]
end Go.Proofs.YtjibfbphiemljaaGreatDoor.Code
