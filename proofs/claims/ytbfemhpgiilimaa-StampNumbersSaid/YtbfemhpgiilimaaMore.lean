/- Chapter 4: StampOrder, StampNumbers. -/
import Derived.Test.YtbfemhpgiilimaaLaws
import Derived.Test.YtbfemhpgiilimaaFwZi
namespace Go.Proofs.Ytbfemhpgiilimaa.Code
open Go.Fw

theorem mask (t k n : Int) : ∃ A : St, aBin .and .plain (.int .i64 t) (.int .i64 3) = some (.int .i64 A.t) ∧ aBin .and .plain (.int .i64 k) (.int .i64 1) = some (.int .i64 A.k) ∧ aBin .and .plain (.int .i64 n) (.int .i64 3) = some (.int .i64 A.n) ∧ 0 ≤ A.n ∧ A.n ≤ 3 := by
  obtain ⟨x1, f1, _, _⟩ := and_eq t 3 (by omega) (by omega)
  obtain ⟨x2, f2, _, _⟩ := and_eq k 1 (by omega) (by omega)
  obtain ⟨x3, f3, _, _⟩ := and_eq n 3 (by omega) (by omega)
  exact ⟨⟨x1, x2, x3⟩, f1, f2, f3, by assumption, by assumption⟩

theorem eq_st (A B : St) : aBin .eql (.cells [1, 1, 1]) (.agg [.int .i64 A.t, .int .i64 A.k, .int .i64 A.n]) (.agg [.int .i64 B.t, .int .i64 B.k, .int .i64 B.n]) = some (.bool (decide (A = B))) ∧
    aBin .neq (.cells [1, 1, 1]) (.agg [.int .i64 A.t, .int .i64 A.k, .int .i64 A.n]) (.agg [.int .i64 B.t, .int .i64 B.k, .int .i64 B.n]) = some (.bool (decide (¬ A = B))) := eq_cells _ _ _ _ _ _

noncomputable def kh (h : Heap) : Heap := Classical.choose (known_eq h)
theorem kh_eq (h : Heap) : E tbl 9 [] h = some (.bool true, kh h) := Classical.choose_spec (known_eq h)

/-- What a case of the order leans on. -/
structure Ord (at_ ak an bt bk bn ct ck cn now node : Int) (A B C N : St) : Prop where
  a1 : aBin .and .plain (.int .i64 at_) (.int .i64 3) = some (.int .i64 A.t)
  a2 : aBin .and .plain (.int .i64 ak) (.int .i64 1) = some (.int .i64 A.k)
  a3 : aBin .and .plain (.int .i64 an) (.int .i64 3) = some (.int .i64 A.n)
  b1 : aBin .and .plain (.int .i64 bt) (.int .i64 3) = some (.int .i64 B.t)
  b2 : aBin .and .plain (.int .i64 bk) (.int .i64 1) = some (.int .i64 B.k)
  b3 : aBin .and .plain (.int .i64 bn) (.int .i64 3) = some (.int .i64 B.n)
  d1 : aBin .and .plain (.int .i64 ct) (.int .i64 3) = some (.int .i64 C.t)
  d2 : aBin .and .plain (.int .i64 ck) (.int .i64 1) = some (.int .i64 C.k)
  d3 : aBin .and .plain (.int .i64 cn) (.int .i64 3) = some (.int .i64 C.n)
  e1 : ∀ h, E tbl 10 [.agg [.int .i64 A.t, .int .i64 A.k, .int .i64 A.n], .int .i64 now, .int .i64 node] h = some (.agg [.int .i64 N.t, .int .i64 N.k, .int .i64 N.n], h)
  hN : A.less N = true ∧ N.less A = false

theorem em (X Y : St) (h : Heap) : E tbl 12 [.agg [.int .i64 X.t, .int .i64 X.k, .int .i64 X.n], .agg [.int .i64 Y.t, .int .i64 Y.k, .int .i64 Y.n]] h = some (.agg [.int .i64 (X.max Y).t, .int .i64 (X.max Y).k, .int .i64 (X.max Y).n], lh Y X h) := max_eq X Y h

theorem order1 {at_ ak an bt bk bn ct ck cn now node : Int} {A B C N : St} (O : Ord at_ ak an bt bk bn ct ck cn now node A B C N) (h1 : A.less B = true) (h2 : B.less A = false) (h3 : ¬ A = B) (hbc : B.less C = true) (hac : A.less C = true) (h0 : Heap) : ∃ h', E tbl 5 [.agg [.int .i64 at_, .int .i64 ak, .int .i64 an], .agg [.int .i64 bt, .int .i64 bk, .int .i64 bn], .agg [.int .i64 ct, .int .i64 ck, .int .i64 cn], .int .i64 now, .int .i64 node] h0 = some (.bool true, h') := by
  have hc := max_comm B A
  have ha := (max_assoc A B C).symm
  rw [c5]
  refine ⟨?_, ?_⟩
  rotate_left
  · simp [S5, rd3, ble3, sp1, sp3, O.a1, O.a2, O.a3, O.b1, O.b2, O.b3, O.d1, O.d2, O.d3, O.e1, less_eq, O.hN, h1, h2, h3, hbc, hac, em, eq_st, hc, ha, checkPairs, kh_eq]
    exact rfl

theorem order2 {at_ ak an bt bk bn ct ck cn now node : Int} {A B C N : St} (O : Ord at_ ak an bt bk bn ct ck cn now node A B C N) (h1 : A.less B = true) (h2 : B.less A = false) (h3 : ¬ A = B) (hbc : B.less C = false) (h0 : Heap) : ∃ h', E tbl 5 [.agg [.int .i64 at_, .int .i64 ak, .int .i64 an], .agg [.int .i64 bt, .int .i64 bk, .int .i64 bn], .agg [.int .i64 ct, .int .i64 ck, .int .i64 cn], .int .i64 now, .int .i64 node] h0 = some (.bool true, h') := by
  have hc := max_comm B A
  have ha := (max_assoc A B C).symm
  rw [c5]
  refine ⟨?_, ?_⟩
  rotate_left
  · simp [S5, rd3, ble3, sp1, sp3, O.a1, O.a2, O.a3, O.b1, O.b2, O.b3, O.d1, O.d2, O.d3, O.e1, less_eq, O.hN, h1, h2, h3, hbc, em, eq_st, hc, ha, checkPairs, kh_eq]
    exact rfl

theorem order4 {at_ ak an bt bk bn ct ck cn now node : Int} {A B C N : St} (O : Ord at_ ak an bt bk bn ct ck cn now node A B C N) (h1 : A.less B = false) (h2 : B.less A = true) (h3 : ¬ A = B) (hbc : B.less C = true) (h0 : Heap) : ∃ h', E tbl 5 [.agg [.int .i64 at_, .int .i64 ak, .int .i64 an], .agg [.int .i64 bt, .int .i64 bk, .int .i64 bn], .agg [.int .i64 ct, .int .i64 ck, .int .i64 cn], .int .i64 now, .int .i64 node] h0 = some (.bool true, h') := by
  have hc := max_comm B A
  have ha := (max_assoc A B C).symm
  rw [c5]
  refine ⟨?_, ?_⟩
  rotate_left
  · simp [S5, rd3, ble3, sp1, sp3, O.a1, O.a2, O.a3, O.b1, O.b2, O.b3, O.d1, O.d2, O.d3, O.e1, less_eq, O.hN, h1, h2, h3, hbc, em, eq_st, hc, ha, checkPairs, kh_eq]
    exact rfl

theorem order5 {at_ ak an bt bk bn ct ck cn now node : Int} {A B C N : St} (O : Ord at_ ak an bt bk bn ct ck cn now node A B C N) (h1 : A.less B = false) (h2 : B.less A = true) (h3 : ¬ A = B) (hbc : B.less C = false) (h0 : Heap) : ∃ h', E tbl 5 [.agg [.int .i64 at_, .int .i64 ak, .int .i64 an], .agg [.int .i64 bt, .int .i64 bk, .int .i64 bn], .agg [.int .i64 ct, .int .i64 ck, .int .i64 cn], .int .i64 now, .int .i64 node] h0 = some (.bool true, h') := by
  have hc := max_comm B A
  have ha := (max_assoc A B C).symm
  rw [c5]
  refine ⟨?_, ?_⟩
  rotate_left
  · simp [S5, rd3, ble3, sp1, sp3, O.a1, O.a2, O.a3, O.b1, O.b2, O.b3, O.d1, O.d2, O.d3, O.e1, less_eq, O.hN, h1, h2, h3, hbc, em, eq_st, hc, ha, checkPairs, kh_eq]
    exact rfl

theorem order3 {at_ ak an bt bk bn ct ck cn now node : Int} {A C N : St} (O : Ord at_ ak an bt bk bn ct ck cn now node A A C N) (h1 : A.less A = false) (h0 : Heap) : ∃ h', E tbl 5 [.agg [.int .i64 at_, .int .i64 ak, .int .i64 an], .agg [.int .i64 bt, .int .i64 bk, .int .i64 bn], .agg [.int .i64 ct, .int .i64 ck, .int .i64 cn], .int .i64 now, .int .i64 node] h0 = some (.bool true, h') := by
  have ha := (max_assoc A A C).symm
  rw [c5]
  refine ⟨?_, ?_⟩
  rotate_left
  · cases hac : A.less C <;> simp [S5, rd3, ble3, sp1, sp3, O.a1, O.a2, O.a3, O.b1, O.b2, O.b3, O.d1, O.d2, O.d3, O.e1, less_eq, O.hN, h1, hac, em, eq_st, ha, checkPairs, kh_eq]
    all_goals exact rfl

theorem stampOrder_law (h0 : Heap) (at_ : Int) (_ : (Lit.int .i64 at_).wf = true) (ak : Int) (_ : (Lit.int .i64 ak).wf = true) (an : Int) (_ : (Lit.int .i64 an).wf = true)
    (bt : Int) (_ : (Lit.int .i64 bt).wf = true) (bk : Int) (_ : (Lit.int .i64 bk).wf = true) (bn : Int) (_ : (Lit.int .i64 bn).wf = true)
    (ct : Int) (_ : (Lit.int .i64 ct).wf = true) (ck : Int) (_ : (Lit.int .i64 ck).wf = true) (cn : Int) (_ : (Lit.int .i64 cn).wf = true) (now : Int) (_ : (Lit.int .i64 now).wf = true) (node : Int) (_ : (Lit.int .i64 node).wf = true) :
    ∃ h', E tbl 5 [.agg [.int .i64 at_, .int .i64 ak, .int .i64 an], .agg [.int .i64 bt, .int .i64 bk, .int .i64 bn], .agg [.int .i64 ct, .int .i64 ck, .int .i64 cn], .int .i64 now, .int .i64 node] h0 = some (.bool true, h') := by
  obtain ⟨A, a1, a2, a3, a4, a5⟩ := mask at_ ak an
  obtain ⟨B, b1, b2, b3, b4, b5⟩ := mask bt bk bn
  obtain ⟨C, d1, d2, d3, _, _⟩ := mask ct ck cn
  have O : Ord at_ ak an bt bk bn ct ck cn now node A B C (A.next now node) := ⟨a1, a2, a3, b1, b2, b3, d1, d2, d3, next_eq A (by omega) now node, next_less A (by omega) now node⟩
  rcases three A B with ⟨h1, h2, h3⟩ | ⟨h1, h2, h3⟩ | ⟨h1, h2, h3⟩
  · cases hbc : B.less C with
    | true => exact order1 O h1 h2 h3 hbc (less_trans h1 hbc) h0
    | false => exact order2 O h1 h2 h3 hbc h0
  · subst h3
    exact order3 O h1 h0
  · cases hbc : B.less C with
    | true => exact order4 O h1 h2 h3 hbc h0
    | false => exact order5 O h1 h2 h3 hbc h0

end Go.Proofs.Ytbfemhpgiilimaa.Code
