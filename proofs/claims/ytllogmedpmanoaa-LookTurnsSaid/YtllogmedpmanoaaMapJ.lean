/- LookTurns: the range over the map. -/
import Derived.Test.YtllogmedpmanoaaMapI
namespace Go.Fw
set_option linter.unusedSimpArgs false
set_option linter.unusedVariables false
open Go.Proofs.Ytllogmedpmanoaa.Code
open Go.ChangeMaps (setBlock)

section
variable {N : Nat} {w0 : World} {φ : Phi} {h : Heap} {vs : List (Nat × AVal)} {a : Act} {w : World} {r : Nat} {L : List (Tx2 × Int)}

theorem not_cells_iter (m : Option Nat) (s : Nat) (seen : Array Nat) (c : Nat) : ¬ isCells (.mapIter m s seen c) := fun h => h

theorem range_map (S : Sta N 78 w0 φ h vs a w) (M : MapAt w r L) (v7 : look vs 7 = .mapv r) (h63 : look vs 63 = .undef) (h64 : look vs 64 = .undef) {Q : Exit → Act → World → Prop}
    (hQ : ∀ a' w', Sta N 78 w0 φ h vs a' w' → MapAt w' r L → a'.tmps.getD 64 undef = .pointer (some ⟨w.heap.size, 0, none⟩) → w'.heap[w.heap.size]? = some (.mapIter (some r) L.length #[] L.length) → Q .normal a' w') : kd12.wp PP Q a w := by
  rw [kd12_eq]
  refine wp_region ?_
  have hsz : (cOps kd12).size = 2 := by kernel_rfl
  rw [hsz]
  obtain ⟨o0, p0, d0, g0, e0⟩ := op_at ops12 (i := 0) rfl
  obtain ⟨o1, p1, d1, g1, e1⟩ := op_at ops12 (i := 1) rfl
  have l7 : a.tmps.getD 7 undef = .map (some r) := by have := S.vals 7; rwa [v7, vrel_mapv] at this
  refine ops_value (rest := [1]) (u := .map (some r)) (w' := w) p0 g0 (by unfold execOp; rw [e0]; exact congrArg (fun x => Result.ok (Next.value x) w) l7) ?_
  rw [d0]
  have S1 := S.skip (d := 63) (by omega) h63 (.map (some r))
  have t63 : (a.put (some 63) (.map (some r))).tmps.getD 63 undef = .map (some r) := by rw [put_get a 63 63 _ (by rw [S.size]; omega), if_pos rfl]
  refine ops_value (rest := []) p1 g1 (exec_v (sem := Instr.range 34 ((a.put (some 63) (.map (some r))).tmps.getD 63 undef)) (by unfold execOp; rw [e1]; rfl) (by rw [t63]; exact range_run M)) ?_
  rw [d1]
  have S2 := (S1.alloc (.mapIter (some r) L.length #[] L.length)).skip (d := 64) (by omega) h64 (.pointer (some ⟨w.heap.size, 0, none⟩))
  refine hQ _ _ S2 ?_ ?_ (walloc_at w _)
  · have hk : r < w.heap.size := by
      unfold MapAt at M
      rcases Nat.lt_or_ge r w.heap.size with h | h
      · exact h
      · rw [Array.getElem?_eq_none h] at M; cases M
    show (w.alloc _).heap[r]? = _
    rw [Go.RowKit.Below.heap_alloc w _ r hk]
    exact M
  · rw [put_get _ 64 64 _ (by rw [S1.size]; omega), if_pos rfl]

def Head2 (N : Nat) (w0 : World) (r : Nat) (L : List (Tx2 × Int)) (it : Nat) (φ : Phi) (h : Heap) (vs : List (Nat × AVal)) (m : Nat) (a : Act) (w : World) : Prop :=
  ∃ seen, m = (leftOf (ents L) seen).size ∧ Sta N 78 w0 φ h vs a w ∧ MapAt w r L ∧ a.tmps.getD 64 undef = .pointer (some ⟨it, 0, none⟩) ∧ w.heap[it]? = some (.mapIter (some r) L.length seen L.length)

theorem ents_mem {e : MapEntry} (he : e ∈ (ents L).toList) : ∃ i p, L[i]? = some p ∧ e = ent (p, i) := by
  obtain ⟨i, hi⟩ := List.mem_iff_getElem?.1 he
  rw [Array.getElem?_toList, ents_get] at hi
  cases hp : L[i]? with
  | none => rw [hp] at hi; cases hi
  | some p => rw [hp] at hi; cases hi; exact ⟨i, p, hp, rfl⟩
theorem ents_born (L : List (Tx2 × Int)) : ((ents L).toList.map (·.born)).Nodup := by
  have : (ents L).toList.map (·.born) = List.range L.length := by
    apply List.ext_getElem?
    intro i
    rw [List.getElem?_map, Array.getElem?_toList, ents_get]
    by_cases h : i < L.length
    · rw [List.getElem?_eq_getElem h, List.getElem?_range h]; rfl
    · rw [List.getElem?_eq_none (by omega), List.getElem?_eq_none (by simpa using h)]; rfl
  rw [this]
  exact List.nodup_range

theorem round2 (hf : ∀ d, 13 ≤ d → d < 71 → look vs d = .undef) {it : Nat} (hN : N ≤ it) (h3 : ∀ e ∈ L, e.2 = 3) {m : Nat} (hI : Head2 N w0 r L it φ h vs m a w) {Q : Exit → Act → World → Prop}
    (hQ : ∀ a w, Sta N 78 w0 φ h vs a w → MapAt w r L → Q (.exit 2) a w) :
    loop2.wp PP (Exit.then (fun a' w' => ∃ m', m' < m ∧ Head2 N w0 r L it φ h vs m' a' w') Q) a w := by
  obtain ⟨seen, rfl, S, M, t64, hit⟩ := hI
  rw [loop2_eq]
  refine wp_seq ?_
  rw [kd13_eq]
  refine wp_region ?_
  have hsz : (cOps kd13).size = 2 := by kernel_rfl
  rw [hsz]
  obtain ⟨o0, p0, d0, g0, e0⟩ := op_at ops13 (i := 0) rfl
  obtain ⟨o1, p1, d1, g1, e1⟩ := op_at ops13 (i := 1) rfl
  have hM := M
  unfold MapAt at hM
  have hold : ∀ x ∈ (ents L).toList, x.born < L.length := fun x hx => by
    obtain ⟨i, p, hp, rfl⟩ := ents_mem hx
    exact (List.getElem?_eq_some_iff.1 hp).1
  rcases run_next_at (P := PP) w o0.type it r L.length L.length seen (ents L) L.length hit hM hold (Nat.le_refl _) with ⟨hz, hrun⟩ | ⟨e, he, w1, hw1, hrun⟩
  · refine ops_value (rest := [1]) (u := .tuple #[.bool false]) (w' := w) p0 g0 (exec_v (sem := Instr.next (a.tmps.getD 64 undef) false o0.type) (by unfold execOp; rw [e0]; rfl) (by rw [t64]; exact hrun)) ?_
    rw [d0]
    have S1 := S.skip (d := 65) (by omega) (hf 65 (by omega) (by omega)) (.tuple #[.bool false])
    have t65 : (a.put (some 65) (.tuple #[.bool false])).tmps.getD 65 undef = .tuple #[.bool false] := by rw [put_get a 65 65 _ (by rw [S.size]; omega), if_pos rfl]
    refine ops_value (rest := []) (u := .bool false) (w' := w) p1 g1 (exec_v (sem := Instr.extract ((a.put (some 65) (.tuple #[.bool false])).tmps.getD 65 undef) 0) (by unfold execOp; rw [e1]; rfl) (by rw [t65]; kernel_rfl)) ?_
    rw [d1]
    have S2 := S1.skip (d := 66) (by omega) (hf 66 (by omega) (by omega)) (.bool false)
    have t66 : ((a.put (some 65) (.tuple #[.bool false])).put (some 66) (.bool false)).tmps.getD 66 undef = .bool false := by rw [put_get _ 66 66 _ (by rw [S1.size]; omega), if_pos rfl]
    exact wp_seq (wp_cond_false t66 (wp_exit (hQ _ _ S2 M)))
  · have hw : w1.heap = w.heap ∧ w1.os = w.os ∧ w1.tape = w.tape ∧ w1.output = w.output := by rcases hw1 with rfl | rfl <;> exact ⟨rfl, rfl, rfl, rfl⟩
    have Sw : Sta N 78 w0 φ h vs a w1 := S.other (by rw [hw.1]; exact Nat.le_refl _) (fun k x hx _ => by rw [hw.1]; exact hx) (fun k _ => by rw [hw.1]) hw.2.1 hw.2.2.1 hw.2.2.2
    have hit1 : w1.heap[it]? = some (.mapIter (some r) L.length seen L.length) := by rw [hw.1]; exact hit
    have S0 := Sw.setBlock (o' := .mapIter (some r) L.length (seen.push e.born) L.length) hit1 (not_cells_iter _ _ _ _) hN
    have hne : it ≠ r := fun q => by rw [q, hM] at hit; cases hit
    have M1 : MapAt (setBlock w1 it (.mapIter (some r) L.length (seen.push e.born) L.length)) r L := by
      show (setBlock _ _ _).heap[r]? = _
      rw [setBlock_ne _ hne, hw.1]; exact hM
    have I1 := setBlock_at (o' := .mapIter (some r) L.length (seen.push e.born) L.length) hit1
    generalize setBlock w1 it (.mapIter (some r) L.length (seen.push e.born) L.length) = w2 at *
    refine ops_value (rest := [1]) (u := .tuple #[.bool true, e.key, e.val]) (w' := w2) p0 g0 (exec_v (sem := Instr.next (a.tmps.getD 64 undef) false o0.type) (by unfold execOp; rw [e0]; rfl) (by rw [t64]; exact hrun)) ?_
    rw [d0]
    have S1 := S0.skip (d := 65) (by omega) (hf 65 (by omega) (by omega)) (.tuple #[.bool true, e.key, e.val])
    have t65 : (a.put (some 65) (.tuple #[.bool true, e.key, e.val])).tmps.getD 65 undef = .tuple #[.bool true, e.key, e.val] := by rw [put_get a 65 65 _ (by rw [S.size]; omega), if_pos rfl]
    have t64a : (a.put (some 65) (.tuple #[.bool true, e.key, e.val])).tmps.getD 64 undef = .pointer (some ⟨it, 0, none⟩) := by rw [put_get a 65 64 _ (by rw [S.size]; omega), if_neg (by omega)]; exact t64
    generalize a.put (some 65) (.tuple #[.bool true, e.key, e.val]) = a1 at *
    refine ops_value (rest := []) (u := .bool true) (w' := w2) p1 g1 (exec_v (sem := Instr.extract (a1.tmps.getD 65 undef) 0) (by unfold execOp; rw [e1]; rfl) (by rw [t65]; kernel_rfl)) ?_
    rw [d1]
    have S2 := S1.skip (d := 66) (by omega) (hf 66 (by omega) (by omega)) (.bool true)
    have t66 : (a1.put (some 66) (.bool true)).tmps.getD 66 undef = .bool true := by rw [put_get _ 66 66 _ (by rw [S1.size]; omega), if_pos rfl]
    have t64b : (a1.put (some 66) (.bool true)).tmps.getD 64 undef = .pointer (some ⟨it, 0, none⟩) := by rw [put_get a1 66 64 _ (by rw [S1.size]; omega), if_neg (by omega)]; exact t64a
    generalize a1.put (some 66) (.bool true) = a2 at *
    refine wp_seq (wp_cond_true t66 (wp_skip (wp_block ?_)))
    rw [in2_eq]
    refine wp_seq ?_
    rw [kd14_eq]
    refine wp_region ?_
    have hsz : (cOps kd14).size = 3 := by kernel_rfl
    rw [hsz]
    obtain ⟨q0, r0, dd0, gg0, ee0⟩ := op_at ops14 (i := 0) rfl
    obtain ⟨q1, r1, dd1, gg1, ee1⟩ := op_at ops14 (i := 1) rfl
    obtain ⟨q2, r2, dd2, gg2, ee2⟩ := op_at ops14 (i := 2) rfl
    obtain ⟨hem, _⟩ := mem_left he
    have hM1 := M1
    unfold MapAt at hM1
    have hent := run_entry_at (P := PP) w2 it r L.length seen (ents L) L.length e I1 hM1 hem (ents_born L)
    refine ops_value (rest := [1, 2]) (u := .tuple #[e.key, e.val]) (w' := w2) r0 gg0 (exec_v (sem := Instr.entry (a2.tmps.getD 64 undef)) (by unfold execOp; rw [ee0]; rfl) (by rw [t64b]; exact hent)) ?_
    rw [dd0]
    have S3 := S2.skip (d := 67) (by omega) (hf 67 (by omega) (by omega)) (.tuple #[e.key, e.val])
    have t67 : (a2.put (some 67) (.tuple #[e.key, e.val])).tmps.getD 67 undef = .tuple #[e.key, e.val] := by rw [put_get _ 67 67 _ (by rw [S2.size]; omega), if_pos rfl]
    have t64c : (a2.put (some 67) (.tuple #[e.key, e.val])).tmps.getD 64 undef = .pointer (some ⟨it, 0, none⟩) := by rw [put_get a2 67 64 _ (by rw [S2.size]; omega), if_neg (by omega)]; exact t64b
    generalize a2.put (some 67) (.tuple #[e.key, e.val]) = a3 at *
    have hval : e.val = .int .i64 3 := by
      obtain ⟨i, p, hp, rfl⟩ := ents_mem hem
      have := h3 p (List.mem_iff_getElem?.2 ⟨i, hp⟩)
      simp only [ent, this]
    refine ops_value (rest := [2]) (u := e.val) (w' := w2) r1 gg1 (exec_v (sem := Instr.extract (a3.tmps.getD 67 undef) 1) (by unfold execOp; rw [ee1]; rfl) (by rw [t67]; exact extract_run _ _ _)) ?_
    rw [dd1]
    have S4 := S3.skip (d := 68) (by omega) (hf 68 (by omega) (by omega)) e.val
    have t68 : (a3.put (some 68) e.val).tmps.getD 68 undef = e.val := by rw [put_get _ 68 68 _ (by rw [S3.size]; omega), if_pos rfl]
    have t64d : (a3.put (some 68) e.val).tmps.getD 64 undef = .pointer (some ⟨it, 0, none⟩) := by rw [put_get a3 68 64 _ (by rw [S3.size]; omega), if_neg (by omega)]; exact t64c
    generalize a3.put (some 68) e.val = a4 at *
    refine ops_value (rest := []) (u := e.val) (w' := w2) r2 gg2 (by unfold execOp; rw [ee2]; exact congrArg (fun x => Result.ok (Next.value x) w2) t68) ?_
    rw [dd2]
    have S5 := S4.skip (d := 13) (by omega) (hf 13 (by omega) (by omega)) e.val
    have t13 : (a4.put (some 13) e.val).tmps.getD 13 undef = .int .i64 3 := by rw [put_get _ 13 13 _ (by rw [S4.size]; omega), if_pos rfl, hval]
    have t64e : (a4.put (some 13) e.val).tmps.getD 64 undef = .pointer (some ⟨it, 0, none⟩) := by rw [put_get a4 13 64 _ (by rw [S4.size]; omega), if_neg (by omega)]; exact t64d
    generalize a4.put (some 13) e.val = a5 at *
    show kd15.wp PP _ a5 w2
    rw [kd15_eq]
    refine wp_seq ?_
    rw [kd15a_eq]
    refine wp_region ?_
    have hsz : (cOps kd15a).size = 2 := by kernel_rfl
    rw [hsz]
    obtain ⟨y0, z0, dy0, gy0, ey0⟩ := op_at ops15 (i := 0) rfl
    obtain ⟨y1, z1, dy1, gy1, ey1⟩ := op_at ops15 (i := 1) rfl
    refine ops_value (rest := [1]) (u := .int .i64 3) (w' := w2) z0 gy0 (by unfold execOp; rw [ey0]; exact congrArg (fun x => Result.ok (Next.value x) w2) t13) ?_
    rw [dy0]
    have S6 := S5.skip (d := 69) (by omega) (hf 69 (by omega) (by omega)) (.int .i64 3)
    have t69 : (a5.put (some 69) (.int .i64 3)).tmps.getD 69 undef = .int .i64 3 := by rw [put_get _ 69 69 _ (by rw [S5.size]; omega), if_pos rfl]
    have t64f : (a5.put (some 69) (.int .i64 3)).tmps.getD 64 undef = .pointer (some ⟨it, 0, none⟩) := by rw [put_get a5 69 64 _ (by rw [S5.size]; omega), if_neg (by omega)]; exact t64e
    generalize a5.put (some 69) (.int .i64 3) = a6 at *
    obtain ⟨z, hz, hr'⟩ := run_bin (P := PP) w2 neq_tag (a := .int .i64 3) (b := .int .i64 3) (op := .neq) (bin_neq _ _ _) (φ := φ) (u := .int .i64 3) (v := .int .i64 3) (vrel_int.2 rfl) (vrel_int.2 rfl)
    rw [vrel_bool] at hr'
    subst hr'
    refine ops_value (rest := []) (w' := w2) z1 gy1 (exec_v (sem := do eqGuard .neq 3 (.tmp 69) (.const (.int .i64 3)) (a6.tmps.getD 69 undef) (.int .i64 3); binOp .neq 3 (a6.tmps.getD 69 undef) (.int .i64 3)) (by unfold execOp; rw [ey1]; rfl) (by rw [t69]; exact hz)) ?_
    rw [dy1]
    have S7 := S6.skip (d := 70) (by omega) (hf 70 (by omega) (by omega)) (.bool ((3 : Int) != 3))
    have t70 : (a6.put (some 70) (.bool ((3 : Int) != 3))).tmps.getD 70 undef = .bool false := by rw [put_get _ 70 70 _ (by rw [S6.size]; omega), if_pos rfl]; rfl
    have t64g : (a6.put (some 70) (.bool ((3 : Int) != 3))).tmps.getD 64 undef = .pointer (some ⟨it, 0, none⟩) := by rw [put_get a6 70 64 _ (by rw [S6.size]; omega), if_neg (by omega)]; exact t64f
    generalize a6.put (some 70) (.bool ((3 : Int) != 3)) = a7 at *
    refine wp_cond_false t70 (wp_skip ?_)
    exact ⟨_, left_shrinks (ents L) seen e he, seen.push e.born, rfl, S7, M1, t64g, I1⟩
end
end Go.Fw
