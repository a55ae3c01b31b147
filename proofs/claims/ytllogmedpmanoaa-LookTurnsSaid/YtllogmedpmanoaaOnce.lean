/- Of each key the last. -/
import Derived.Test.YtllogmedpmanoaaKnownT
namespace Go.Proofs.Ytllogmedpmanoaa.Code
set_option linter.unusedSimpArgs false
set_option linter.unusedVariables false
open Go.Fw

def sameK (a b : Cd) : Bool := a.a == b.a && a.i == b.i
def onceS (out : List Cd) (c : Cd) : List Cd := if decide (0 < out.length) && sameK (out.getD (out.length - 1) noCd) c then out.set (out.length - 1) c else out ++ [c]
def onceC (l : List Cd) : List Cd := l.foldl onceS []
theorem onceS_len (out : List Cd) (c : Cd) : (onceS out c).length ≤ out.length + 1 := by
  unfold onceS
  split <;> simp
theorem fold_len : ∀ (l out : List Cd), (l.foldl onceS out).length ≤ out.length + l.length
  | [], out => by simp
  | c :: l, out => by
    have h1 := fold_len l (onceS out c)
    have h2 := onceS_len out c
    rw [List.foldl_cons, List.length_cons]
    omega
theorem onceC_len (l : List Cd) : (onceC l).length ≤ l.length := by
  have := fold_len l []
  simpa [onceC] using this
theorem onceC_take (l : List Cd) (n : Nat) (h : n < l.length) : onceC (l.take (n + 1)) = onceS (onceC (l.take n)) l[n] := by
  rw [List.take_add_one, List.getElem?_eq_getElem h, onceC, List.foldl_append]
  rfl

theorem ft_eq : (false == true) = false := rfl
theorem keys_eql (a b : Cd) : aBin .eql (.cells [2, 2]) (.agg [.str a.a, .str a.i]) (.agg [.str b.a, .str b.i]) = some (.bool (sameK a b)) := by
  simp [aBin, aEq, cellsEq, sameK]

theorem onceLoop_ok {row : AVal} {G0 : Heap} {l : List Cd} (R : SrcC row G0 l) (hl : l.length ≤ 1000) :
    ∃ o G, loop (L9_0 (E tbl)) [.nilSlice, row, .int .i64 l.length, .int .i64 0] G0 = some (1, [o], G) ∧ BufC o G G0.next (onceC l) ∧ Went G0 G := by
  have key := loop_ok (f := L9_0 (E tbl)) (fun m xs G => ∃ (n : Nat) (o : AVal), m + n = l.length ∧ BufC o G G0.next (onceC (l.take n)) ∧ Went G0 G ∧ xs = [o, row, .int .i64 l.length, .int .i64 n])
    (fun r => ∃ G o, r = (1, [o], G) ∧ BufC o G G0.next (onceC l) ∧ Went G0 G) ?_ l.length _ G0 ⟨0, .nilSlice, rfl, Fw.Buf.nil _ _ _, Went.refl _, rfl⟩
  · obtain ⟨r, e, G, o, rfl, a, b⟩ := key
    simp only [Int.cast_ofNat_Int] at e
    exact ⟨o, G, e, a, b⟩
  · rintro m xs G ⟨n, o, m1, O, W, rfl⟩
    by_cases h1 : n < l.length
    · left
      have i1 : (n : Int) < (l.length : Int) := by omega
      obtain ⟨a, e1, e2⟩ := SrcC.card (W.src R) n h1
      have w1 : IntKind.i64.wrap ((n : Int) + 1) = ((n + 1 : Nat) : Int) := wrap_succ _ (by omega)
      have hf := onceC_take l n h1
      have h3 := onceC_len (l.take n)
      have h4 : (l.take n).length ≤ l.length := by rw [List.length_take]; omega
      have SO : SrcC o G (onceC (l.take n)) := Fw.Buf.src O
      have ln : aLen false o = some (.int .i64 (onceC (l.take n)).length) := SO.len
      have ob : ∀ b, slBlk o = some b → G0.next ≤ b := fun b hb => (Fw.Buf.blk O b hb).1
      obtain ⟨o', G2, e3, O2, K2⟩ := O.snoc l[n] (by have := W.next; omega) (by omega)
      generalize hc : l[n] = c at *
      generalize hout : onceC (l.take n) = out at *
      simp only [Cd.cells] at e2 e3
      by_cases h0 : 0 < out.length
      · have g0 : decide ((out.length : Int) > 0) = true := by simp; omega
        have w2 : IntKind.i64.wrap ((out.length : Int) - 1) = ((out.length - 1 : Nat) : Int) := by rw [IntWalk.i64_in _ (by omega)]; omega
        obtain ⟨q, q1, q2, q3⟩ := SrcC.keyAt SO (out.length - 1) (by omega)
        have hz : out.getD (out.length - 1) noCd = out[out.length - 1] := by rw [List.getD_eq_getElem?_getD, List.getElem?_eq_getElem (by omega)]; rfl
        have kk := keys_eql (out[out.length - 1]) c
        cases hs : sameK (out[out.length - 1]) c with
        | true =>
          obtain ⟨p, G3, s1, s2, O3, n3, k3⟩ := O.set (out.length - 1) (by omega) c
          rw [hs] at kk
          obtain rfl : q = p := by rw [q1] at s1; exact Option.some.inj s1
          simp only [cdE_f, Cd.cells] at s2
          refine ⟨_, G3, ?_, m - 1, by omega, n + 1, o, by omega, ?_, ⟨by rw [n3]; exact W.next, fun b hb => ?_⟩, rfl⟩
          · simp only [L9_0, List.getD_cons_zero, List.getD_cons_succ, bin_lss, i1, decide_true, Option.bind_some, cond_bool, cond_true, e1, e2, from_agg, aCells_agg, List.length_cons, List.length_nil, Nat.zero_add, Nat.reduceAdd, if_true, spl_s, spl_z, spl_c, ble_dec, Nat.le_refl, ln, bin_gtr, g0, guard_bool, BEq.rfl, bin_sub, w2, q1, q2, q3, rdL_t, rdL_z, rdL_s, Option.map_some, kk, pick_bool, s1, s2, nat_beq0, bin_add, w1]
          · rw [hf]
            unfold onceS
            rw [hz, hs, decide_eq_true h0]
            exact O3
          · rw [k3 b (fun e => by have := ob b e; omega), W.old b hb]
        | false =>
          rw [hs] at kk
          refine ⟨_, G2, ?_, m - 1, by omega, n + 1, o', by omega, ?_, K2.went W ob, rfl⟩
          · simp only [L9_0, List.getD_cons_zero, List.getD_cons_succ, bin_lss, i1, decide_true, Option.bind_some, cond_bool, cond_true, e1, e2, from_agg, aCells_agg, List.length_cons, List.length_nil, Nat.zero_add, Nat.reduceAdd, if_true, spl_s, spl_z, spl_c, ble_dec, Nat.le_refl, ln, bin_gtr, g0, guard_bool, BEq.rfl, bin_sub, w2, q1, q2, q3, rdL_t, rdL_z, rdL_s, Option.map_some, kk, pick_bool, cond_false, reps_one, fill_cons, fill_nil, e3, nat_beq0, bin_add, w1]
          · rw [hf]
            unfold onceS
            rw [hz, hs]
            simpa using O2
      · have g0 : decide ((out.length : Int) > 0) = false := decide_eq_false (by omega)
        refine ⟨_, G2, ?_, m - 1, by omega, n + 1, o', by omega, ?_, K2.went W ob, rfl⟩
        · simp only [L9_0, List.getD_cons_zero, List.getD_cons_succ, bin_lss, i1, decide_true, Option.bind_some, cond_bool, cond_true, e1, e2, from_agg, aCells_agg, List.length_cons, List.length_nil, Nat.zero_add, Nat.reduceAdd, if_true, spl_s, spl_z, spl_c, ble_dec, Nat.le_refl, ln, bin_gtr, g0, guard_bool, ft_eq, rdL_t, rdL_z, rdL_s, Option.map_some, pick_bool, cond_false, reps_one, fill_cons, fill_nil, e3, nat_beq0, bin_add, w1]
        · rw [hf]
          unfold onceS
          rw [decide_eq_false h0]
          simpa using O2
    · right
      obtain rfl : n = l.length := by omega
      rw [List.take_length] at O
      exact ⟨0, _, G, by simp [L9_0], G, o, rfl, O, W⟩

theorem once_ok {s : AVal} {h : Heap} {l : List Cd} (S : SrcC s h l) (hl : l.length ≤ 1000) :
    ∃ o H, E tbl 9 [s] h = some (o, H) ∧ SrcC o H (onceC (sortI lessC noCd l)) ∧ Went h H := by
  obtain ⟨o1, h1, e1, O1, W1⟩ := refSort_ok S hl
  have ln : aLen false o1 = some (.int .i64 (sortI lessC noCd l).length) := O1.src.len
  obtain ⟨o, H, e2, O, W2⟩ := onceLoop_ok O1.src (by rw [sortI_len]; omega)
  refine ⟨o, H, ?_, Fw.Buf.src O, W1.trans W2⟩
  rw [c9]
  simp only [S9, e1, Option.bind_some, ln, e2, nat_beq11, cond_true, List.getD_cons_zero, ans_one]

/-! The keys differ. -/
theorem sameK_iff {a b : Cd} : sameK a b = true ↔ a.key = b.key := by
  simp [sameK, Prod.ext_iff]
def strict (x y : Cd) : Prop := lessK x.key y.key = true
theorem onceS_strict {out : List Cd} {c : Cd} (h : out.Pairwise strict) (hle : ∀ x ∈ out, lessK c.key x.key = false) : (onceS out c).Pairwise strict ∧ ∀ x ∈ onceS out c, x = c ∨ x ∈ out := by
  rcases List.eq_nil_or_concat out with rfl | ⟨init, z, rfl⟩
  · simp [onceS]
  · have hz : (init.concat z).getD ((init.concat z).length - 1) noCd = z := by simp
    have hset : (init.concat z).set ((init.concat z).length - 1) c = init ++ [c] := by simp
    unfold onceS
    rw [hz, hset]
    rw [List.concat_eq_append] at *
    rw [List.pairwise_append] at h
    obtain ⟨h1, _, h3⟩ := h
    split
    · rename_i hs
      simp only [Bool.and_eq_true] at hs
      have hk := sameK_iff.1 hs.2
      refine ⟨List.pairwise_append.2 ⟨h1, by simp, fun x hx y hy => ?_⟩, fun x hx => ?_⟩
      · rw [List.mem_singleton.1 hy]
        have := h3 x hx z (by simp)
        unfold strict at *
        rwa [hk] at this
      · rcases List.mem_append.1 hx with hx | hx
        · exact .inr (List.mem_append_left _ hx)
        · exact .inl (List.mem_singleton.1 hx)
    · rename_i hs
      have hk : sameK z c = false := by simpa using hs
      refine ⟨List.pairwise_append.2 ⟨List.pairwise_append.2 ⟨h1, by simp, h3⟩, by simp, fun x hx y hy => ?_⟩, fun x hx => ?_⟩
      · rw [List.mem_singleton.1 hy]
        have l1 := hle x hx
        unfold strict
        cases hq : lessK x.key c.key with
        | true => rfl
        | false =>
          exfalso
          have e := lessK_total hq l1
          rcases List.mem_append.1 hx with hx | hx
          · have h5 := h3 x hx z (by simp)
            unfold strict at h5
            rw [e] at h5
            rw [hle z (by simp)] at h5
            cases h5
          · rw [List.mem_singleton.1 hx] at e
            rw [sameK_iff.2 e] at hk
            cases hk
      · rcases List.mem_append.1 hx with hx | hx
        · exact .inr hx
        · exact .inl (List.mem_singleton.1 hx)
theorem fold_strict : ∀ (l out : List Cd), out.Pairwise strict → (∀ x ∈ out, ∀ y ∈ l, lessK y.key x.key = false) → l.Pairwise leC → (l.foldl onceS out).Pairwise strict
  | [], out, h, _, _ => h
  | c :: l, out, h, hle, hs => by
    rw [List.pairwise_cons] at hs
    obtain ⟨h1, h2⟩ := onceS_strict h (fun x hx => hle x hx c (by simp))
    refine fold_strict l _ h1 (fun x hx y hy => ?_) hs.2
    rcases h2 x hx with rfl | hx
    · exact hs.1 y hy
    · exact hle x hx y (by simp [hy])
theorem onceC_strict (l : List Cd) : (onceC (sortI lessC noCd l)).Pairwise strict := fold_strict _ [] List.Pairwise.nil (fun x hx => by cases hx) (csorted l)
theorem found_nodup (l : List Cd) (app : Tx) : ((findC (onceC (sortI lessC noCd l)) app).map Cd.key).Nodup := by
  have h := onceC_strict l
  generalize onceC (sortI lessC noCd l) = m at *
  have h1 : (m.map Cd.key).Nodup := by
    rw [List.Nodup, List.pairwise_map]
    refine h.imp fun hxy e => ?_
    unfold strict at hxy
    rw [e, lessK_irrefl] at hxy
    cases hxy
  have h2 : ((sortI lessC noCd m).map Cd.key).Nodup := ((sortI_perm lessC noCd m).map _).nodup_iff.2 h1
  exact h2.sublist (List.Sublist.map _ List.filter_sublist)
end Go.Proofs.Ytllogmedpmanoaa.Code
