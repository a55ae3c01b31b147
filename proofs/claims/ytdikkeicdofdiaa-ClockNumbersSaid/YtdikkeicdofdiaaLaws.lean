/- Chapter 7: the laws. -/
import Derived.Test.YtdikkeicdofdiaaPlay
namespace Go.Proofs.Ytdikkeicdofdiaa.Code
open Go.Fw

theorem play_nil (nodes : Int) (sa sn : AVal) (h : Heap) {la ln : List Int} (Ia : Ints .i64 sa h la) (In : Ints .i64 sn h ln) (A : List AVal) :
    loop (L7_0 (E tbl)) [.int .i64 nodes, sa, sn, .nilPtr, .int .i64 0, .agg A] h = some (1, [], h) := by
  have nn : aBin .neq .ptr .nilPtr .nilPtr = some (.bool false) := rfl
  refine loop_done (i := 0) ?_
  by_cases q1 : 0 < la.length <;> by_cases q2 : 0 < ln.length <;> simp [L7_0, Ia.len, In.len, q1, q2, nn]

theorem play_eq (h0 : Heap) (nodes : Int) {sa sn : AVal} {la ln : List Int} (Ia : Ints .i64 sa h0 la) (In : Ints .i64 sn h0 ln) (ba : ∀ c, slBlk sa = some c → c < h0.next) (bn : ∀ c, slBlk sn = some c → c < h0.next) :
    ∃ H, E tbl 7 [.int .i64 nodes, sa, sn] h0 = some (.bool true, H) ∧ h0.next ≤ H.next ∧ ∀ c, c < h0.next → H.blk c = h0.blk c := by
  by_cases hn : nodes < 1 ∨ 6 < nodes
  · refine ⟨h0, ?_, Nat.le_refl _, fun _ _ => rfl⟩
    rw [c7]
    have e1 := new_bad nodes hn h0
    have e2 := play_nil nodes sa sn h0 Ia In [.int .i64 0, .int .i64 0, .int .i64 0, .int .i64 0, .int .i64 0, .int .i64 0]
    have nn : aBin .eql .ptr .nilPtr .nilPtr = some (.bool true) := rfl
    by_cases a1 : nodes < 1
    · simp [S7, e1, nn, a1, e2]
    · have a2 : 6 < nodes := by omega
      simp [S7, e1, nn, a1, a2, e2]
  · obtain ⟨h1, e1, C, n1, o1⟩ := new_ok nodes (by omega) (by omega) h0
    have hl : (List.replicate nodes.toNat (0 : Int)).length = nodes.toNat := by simp
    have hz : ((nodes.toNat : Nat) : Int) = nodes := by omega
    have R : AR (List.replicate nodes.toNat 0) [0, 0, 0, 0, 0, 0] := by
      refine ⟨rfl, by rw [hl]; omega, by rw [hl]; omega, ?_⟩
      intro k hk
      rw [hl] at hk
      have : k < 6 := by omega
      have h2 : (List.replicate nodes.toNat (0 : Int)).getD k 0 = 0 := by simp [List.getD_eq_getElem?_getD, List.getElem?_replicate, hk]
      rw [h2]
      match k, this with
      | 0, _ | 1, _ | 2, _ | 3, _ | 4, _ | 5, _ => rfl
    obtain ⟨r, e2, h', hr, hn', ho'⟩ := loop_ok (f := L7_0 (E tbl)) (fun n xs h => ∃ (i : Nat) (l A : List Int), i + n = min (min la.length ln.length) 60 ∧ l.length = nodes.toNat ∧ Ck h0.next l h ∧ AR l A ∧ h0.next + 1 < h.next ∧ (∀ c, c < h0.next → h.blk c = h0.blk c) ∧
        xs = [.int .i64 nodes, sa, sn, .ptr (h0.next + 1) 0, .int .i64 i, .agg (A.map (.int .i64))]) (fun r => ∃ H, r = (1, [], H) ∧ h0.next ≤ H.next ∧ ∀ c, c < h0.next → H.blk c = h0.blk c) (by
      rintro n xs h ⟨i, l, A, hi, hll, C, R, hn', ho, rfl⟩
      have Ia' := Ia.mono (h' := h) fun c hc => ho c (ba c hc)
      have In' := In.mono (h' := h) fun c hc => ho c (bn c hc)
      by_cases q : i < min (min la.length ln.length) 60
      · left
        obtain ⟨l', A', h', C', R', ll', n', o', e⟩ := round_eq C R Ia' In' ba bn (Nat.le_refl _) hn' ho i (by omega) (by omega) (by omega)
        rw [hll, hz] at e
        exact ⟨_, _, e, n - 1, by omega, i + 1, l', A', by omega, by rw [ll', hll], C', R', by omega, o', rfl⟩
      · right
        refine ⟨0, [], h, ?_, h, rfl, by omega, ho⟩
        by_cases q1 : (i : Int) < la.length
        · by_cases q2 : (i : Int) < ln.length
          · have q3 : ¬ (i : Int) < 60 := by omega
            simp [L7_0, Ia'.len, In'.len, q1, q2, q3]
          · simp [L7_0, Ia'.len, In'.len, q1, q2]
        · simp [L7_0, Ia'.len, In'.len, q1]) (min (min la.length ln.length) 60) _ h1 ⟨0, _, _, by omega, hl, C, R, by omega, o1, rfl⟩
    subst hr
    refine ⟨h', ?_, hn', ho'⟩
    rw [c7]
    have a1 : ¬ nodes < 1 := by omega
    have a2 : ¬ 6 < nodes := by omega
    have z : ((0 : Nat) : Int) = 0 := rfl
    simp only [List.map_cons, List.map_nil, z] at e2
    simp [S7, e1, a1, a2, e2]

theorem known_eq (h : Heap) : ∃ h', E tbl 8 [] h = some (.bool true, h') := by
  obtain ⟨h1, e1, C, n1, o1⟩ := new_ok 2 (by omega) (by omega) h
  have C0 : Ck h.next [0, 0] h1 := C
  have e2 := new_bad 0 (by omega) h1
  have e3 := new_bad 7 (by omega) h1
  have e4 := tick_ok C0 0 5 rfl (by omega) (by omega)
  have w : IntKind.i64.wrap (([0, 0] : List Int).getD (Int.toNat 0) 0 + 5) = 5 := by decide
  rw [w] at e4
  have C1 : Ck h.next [5, 0] (h1.setBlk h.next (rowB [5, 0])) := C0.set [5, 0] rfl
  have e5 := tick_arg C1 0 0 rfl (by omega)
  have e6 := tick_range C1 2 1 rfl
  have e7 := apart_eq C1 (by simp) (by simp)
  have e8 := now_eq C1 0
  have e9 := now_eq C1 (-1)
  have a1 : apart [5, 0] = 5 := by decide
  have a2 : now [5, 0] 0 = 5 := by decide
  have a3 : now [5, 0] (-1) = 0 := by decide
  rw [a1] at e7
  rw [a2] at e8
  rw [a3] at e9
  have e4' : E tbl 11 [.ptr (h.next + 1) 0, .int .i64 0, .int .i64 5] h1 = some (.int .i64 0, h1.setBlk h.next (rowB [5, 0])) := e4
  refine ⟨h1.setBlk h.next (rowB [5, 0]), ?_⟩
  rw [c8]
  generalize h1.setBlk h.next (rowB [5, 0]) = H at *
  have nn : aBin .neq .ptr .nilPtr .nilPtr = some (.bool false) := rfl
  simp [S8, e1, e2, e3, nn, e4', e5, e6, e7, e8, e9]

theorem clockRefuses_law (h0 : Heap) (a0 : Int) (_ : (Lit.int .i64 a0).wf = true) (a1 : Int) (_ : (Lit.int .i64 a1).wf = true) : ∃ h', E tbl 6 [.int .i64 a0, .int .i64 a1] h0 = some (.bool true, h') := by
  obtain ⟨h1, e1, C, n1, o1⟩ := new_ok 3 (by omega) (by omega) h0
  have C0 : Ck h0.next [0, 0, 0] h1 := C
  have e2 : E tbl 11 [.ptr (h0.next + 1) 0, .int .i64 1, .int .i64 7] h1 = some (.int .i64 0, h1.setBlk h0.next (rowB [0, 7, 0])) := tick_ok C0 1 7 rfl (by omega) (by omega)
  have C1 : Ck h0.next [0, 7, 0] (h1.setBlk h0.next (rowB [0, 7, 0])) := C0.set [0, 7, 0] rfl
  generalize h1.setBlk h0.next (rowB [0, 7, 0]) = H at *
  have hv : have_ [0, 7, 0] a0 = (decide (0 ≤ a0) && decide (a0 < 3)) := rfl
  rw [c6]
  by_cases q : (0 ≤ a0 ∧ a0 < 3) ∧ (1 ≤ a1 ∧ a1 ≤ 1024)
  · obtain ⟨⟨q1, q2⟩, q3, q4⟩ := q
    have hk : have_ [0, 7, 0] a0 = true := by simp [hv, q1, q2]
    have e3 := tick_ok C1 a0 a1 hk q3 q4
    have hx : 0 ≤ ([0, 7, 0] : List Int).getD a0.toNat 0 ∧ ([0, 7, 0] : List Int).getD a0.toNat 0 ≤ 7 := by
      have : a0.toNat < 3 := by omega
      match a0.toNat, this with
      | 0, _ | 1, _ | 2, _ => decide
    have C2 := C1.set (([0, 7, 0] : List Int).set a0.toNat (IntKind.i64.wrap (([0, 7, 0] : List Int).getD a0.toNat 0 + a1))) (by simp)
    have e4 := now_eq C2 a0
    have hnow : now (([0, 7, 0] : List Int).set a0.toNat (IntKind.i64.wrap (([0, 7, 0] : List Int).getD a0.toNat 0 + a1))) a0 = ([0, 7, 0] : List Int).getD a0.toNat 0 + a1 := by
      have h2 : have_ (([0, 7, 0] : List Int).set a0.toNat (IntKind.i64.wrap (([0, 7, 0] : List Int).getD a0.toNat 0 + a1))) a0 = true := by simp [have_, q1, q2]
      rw [now, if_pos h2, getD_set' _ _ _ _ (by simp; omega), if_pos rfl]
      exact IntWalk.i64_in _ (by omega)
    rw [hnow] at e4
    generalize H.setBlk h0.next (rowB (([0, 7, 0] : List Int).set a0.toNat (IntKind.i64.wrap (([0, 7, 0] : List Int).getD a0.toNat 0 + a1)))) = H2 at *
    generalize ([0, 7, 0] : List Int).getD a0.toNat 0 = x at *
    obtain ⟨h3, kn⟩ := known_eq H2
    have hle : a1 ≤ x + a1 := by omega
    exact ⟨h3, by simp [S6, e1, e2, q1, q2, q3, q4, e3, e4, hle, kn]⟩
  · have e3 : ∃ c : Int, c ≠ 0 ∧ E tbl 11 [.ptr (h0.next + 1) 0, .int .i64 a0, .int .i64 a1] H = some (.int .i64 c, H) := by
      by_cases hk : have_ [0, 7, 0] a0 = true
      · refine ⟨1, by decide, tick_arg C1 a0 a1 hk ?_⟩
        simp only [hv, Bool.and_eq_true, decide_eq_true_eq] at hk
        omega
      · exact ⟨23, by decide, tick_range C1 a0 a1 (by simpa using hk)⟩
    obtain ⟨c, hc, e3⟩ := e3
    have hc' : (c != 0) = true := by simpa using hc
    have f0 := now_eq C1 0
    have f1 := now_eq C1 1
    have f2 := now_eq C1 2
    have f3 := apart_eq C1 (by simp) (by simp)
    have a1' : apart [0, 7, 0] = 7 := by decide
    have b0 : now [0, 7, 0] 0 = 0 := by decide
    have b1 : now [0, 7, 0] 1 = 7 := by decide
    have b2 : now [0, 7, 0] 2 = 0 := by decide
    rw [a1'] at f3
    rw [b0] at f0
    rw [b1] at f1
    rw [b2] at f2
    obtain ⟨h3, kn⟩ := known_eq H
    refine ⟨h3, ?_⟩
    by_cases q1 : 0 ≤ a0
    · by_cases q2 : a0 < 3
      · by_cases q3 : 1 ≤ a1
        · have q4 : ¬ a1 ≤ 1024 := by omega
          simp [S6, e1, e2, q1, q2, q3, q4, e3, hc', f0, f1, f2, f3, kn]
        · simp [S6, e1, e2, q1, q2, q3, e3, hc', f0, f1, f2, f3, kn]
      · simp [S6, e1, e2, q1, q2, e3, hc', f0, f1, f2, f3, kn]
    · simp [S6, e1, e2, q1, e3, hc', f0, f1, f2, f3, kn]

end Go.Proofs.Ytdikkeicdofdiaa.Code
