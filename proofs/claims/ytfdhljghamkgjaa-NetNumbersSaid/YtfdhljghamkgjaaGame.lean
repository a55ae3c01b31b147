/- Chapter 8: asks; NetNumbers. -/
import Derived.Test.YtfdhljghamkgjaaPlay
namespace Go.Proofs.Ytfdhljghamkgjaa.Code
set_option linter.unusedSimpArgs false
set_option linter.unusedVariables false
open Go.Fw

def TwoS (h0 : Heap) (p q : Nat) (H : Heap) (nodes : Int) : Prop := ∃ sl sw l ap, Two h0 p q sl sw H nodes l ap ∧ Short l

theorem TwoS.more {h0 : Heap} {p q : Nat} {H H' : Heap} {nodes : Int} (T : TwoS h0 p q H nodes) (W : Went H H') : TwoS h0 p q H' nodes := by
  obtain ⟨sl, sw, l, ap, T, S⟩ := T
  exact ⟨sl, sw, l, ap, T.more W, S⟩
theorem TwoS.went {h0 : Heap} {p q : Nat} {H : Heap} {nodes : Int} (T : TwoS h0 p q H nodes) : Went h0 H := by
  obtain ⟨sl, sw, l, ap, T, S⟩ := T
  exact T.net.went

theorem map_erase : ∀ (l : List Lt) (i : Nat), (l.map toR).eraseIdx i = (l.eraseIdx i).map toR
  | [], _ => rfl
  | x :: r, 0 => rfl
  | x :: r, i + 1 => by simp [map_erase r i]

theorem Short.erase {l : List Lt} (S : Short l) (i : Nat) : Short (l.eraseIdx i) := fun x hx => S x (List.mem_of_mem_eraseIdx hx)

theorem deliver2 {h0 : Heap} {p q : Nat} {H : Heap} {nodes : Int} (T : TwoS h0 p q H nodes) (i : Int) :
    ∃ f t s b e H1 H2, E tbl 8 [.ptr p 0, .int .i64 i] H = some (.tuple [.agg [.int .i64 f, .int .i64 t, s], .int .i64 e], H1) ∧ E tbl 23 [.ptr q 0, .int .i64 i] H1 = some (.tuple [.agg [.int .i64 f, .int .i64 t, .str b], .int .i64 e], H2) ∧ Src 1 s H2 b.length (byteCells b) ∧ TwoS h0 p q H2 nodes := by
  obtain ⟨sl, sw, l, ap, T, S⟩ := T
  by_cases hi : inN l.length i = true
  · have hi2 : 0 ≤ i ∧ i < l.length := by simpa [inN] using hi
    obtain ⟨j, rfl⟩ : ∃ j : Nat, i = (j : Int) := ⟨i.toNat, by omega⟩
    have hj : j < l.length := by omega
    have hj' : j < (l.map toR).length := by simpa using hj
    have hR : (l.map toR)[j] = toR l[j] := by simp
    by_cases hc : isP nodes ap l[j].f l[j].t = true
    · have e1 := deliver_cut T.net j hj hc
      have e2 := rdeliver_cut T.ref j hj' (by rw [hR]; exact hc)
      exact ⟨0, 0, .nilSlice, [], 26, H, H, e1, e2, ⟨rfl, .inl ⟨rfl, rfl⟩⟩, sl, sw, l, ap, T, S⟩
    · have hc' : isP nodes ap l[j].f l[j].t = false := by simpa using hc
      obtain ⟨sl', H1, e1, N1, F1, x1, b1⟩ := deliver_ok T.net T.few j hj hc'
      have few : (l.eraseIdx j).length ≤ 64 := by have := T.few; rw [List.length_eraseIdx_of_lt hj]; omega
      obtain ⟨R1, fin⟩ := T.step N1 F1 (fun c hc => .inl (b1 ▸ hc)) (fun x hx => .inl (List.mem_of_mem_eraseIdx hx)) few
      obtain ⟨sw', H2, e2, R2, O2, n2⟩ := rdeliver_ok R1 (by rw [List.length_map]; exact T.few) j hj' (by rw [hR]; exact hc')
      rw [map_erase] at R2
      have T2 := fin R2 O2 fun c hc => .inr (n2 c hc)
      have O := T.net.own l[j] (List.getElem_mem hj)
      have S1 := F1.src O.1 O.2
      rw [hR] at e2
      exact ⟨_, _, l[j].s, l[j].b, 0, H1, H2, e1, e2, S1.kept O2.next fun c hc => O2.old c (S1.blk c hc) (T.a3 _ (List.getElem_mem hj) c hc), sl', sw', _, _, T2, S.erase j⟩
  · have hi' : inN l.length i = false := by simpa using hi
    have e1 := deliver_no T.net i hi'
    have e2 := rdeliver_no T.ref i (by rw [List.length_map]; exact hi')
    exact ⟨0, 0, .nilSlice, [], 23, H, H, e1, e2, ⟨rfl, .inl ⟨rfl, rfl⟩⟩, sl, sw, l, ap, T, S⟩

theorem drop2 {h0 : Heap} {p q : Nat} {H : Heap} {nodes : Int} (T : TwoS h0 p q H nodes) (i : Int) :
    ∃ e H1 H2, E tbl 21 [.ptr p 0, .int .i64 i] H = some (.int .i64 e, H1) ∧ E tbl 24 [.ptr q 0, .int .i64 i] H1 = some (.int .i64 e, H2) ∧ TwoS h0 p q H2 nodes := by
  obtain ⟨sl, sw, l, ap, T, S⟩ := T
  by_cases hi : inN l.length i = true
  · have hi2 : 0 ≤ i ∧ i < l.length := by simpa [inN] using hi
    obtain ⟨j, rfl⟩ : ∃ j : Nat, i = (j : Int) := ⟨i.toNat, by omega⟩
    have hj : j < l.length := by omega
    have hj' : j < (l.map toR).length := by simpa using hj
    obtain ⟨sl', H1, e1, N1, F1, x1, b1⟩ := drop_ok T.net T.few j hj
    have few : (l.eraseIdx j).length ≤ 64 := by have := T.few; rw [List.length_eraseIdx_of_lt hj]; omega
    obtain ⟨R1, fin⟩ := T.step N1 F1 (fun c hc => .inl (b1 ▸ hc)) (fun x hx => .inl (List.mem_of_mem_eraseIdx hx)) few
    obtain ⟨sw', H2, e2, R2, O2, n2⟩ := rdrop_ok R1 (by rw [List.length_map]; exact T.few) j hj'
    rw [map_erase] at R2
    exact ⟨0, H1, H2, e1, e2, sl', sw', _, _, fin R2 O2 fun c hc => .inr (n2 c hc), S.erase j⟩
  · have hi' : inN l.length i = false := by simpa using hi
    have e1 := drop_no T.net i hi'
    have e2 := rdrop_no T.ref i (by rw [List.length_map]; exact hi')
    exact ⟨23, H, H, e1, e2, sl, sw, l, ap, T, S⟩

theorem set2 {h0 : Heap} {p q : Nat} {H : Heap} {nodes : Int} (T : TwoS h0 p q H nodes) (a b : Int) (v : Bool) :
    ∃ e H1 H2, E tbl 22 [.ptr p 0, .int .i64 a, .int .i64 b, .bool v] H = some (.int .i64 e, H1) ∧ E tbl 26 [.ptr q 0, .int .i64 a, .int .i64 b, .bool v] H1 = some (.int .i64 e, H2) ∧ TwoS h0 p q H2 nodes := by
  obtain ⟨sl, sw, l, ap, T, S⟩ := T
  by_cases h : inN nodes a = true ∧ inN nodes b = true ∧ a ≠ b
  · obtain ⟨ha, hb, hab⟩ := h
    obtain ⟨H1, e1, N1, F1, x1⟩ := set_ok T.net a b v ha hb hab
    obtain ⟨R1, fin⟩ := T.step N1 ⟨F1.next, fun c hc hp _ => F1.old c hc hp (by intro e; cases e)⟩ (fun c hc => .inl hc) (fun x hx => .inl hx) T.few
    obtain ⟨H2, e2, R2, O2⟩ := rset_ok R1 a b v ha hb hab
    exact ⟨0, H1, H2, e1, e2, sl, sw, _, _, fin R2 O2 fun c hc => .inl hc, S⟩
  · exact ⟨23, H, H, set_no T.net a b v h, rset_no T.ref a b v h, sl, sw, l, ap, T, S⟩

/-- One is sent in both. -/
theorem send1 {h0 : Heap} {p q : Nat} {sl sw : AVal} {H : Heap} {nodes : Int} {l : List Lt} {ap : Nat → Nat → Bool} (T : Two h0 p q sl sw H nodes l ap) (Sh : Short l) (f t : Int) {s : AVal} {b : List UInt8} (S : Src 1 s H b.length (byteCells b)) (hb : b.length ≤ 140737488355328) :
    ∃ e H1 H2 sl' sw' l', E tbl 7 [.ptr p 0, .agg [.int .i64 f, .int .i64 t, s]] H = some (.int .i64 e, H1) ∧ E tbl 27 [.ptr q 0, .agg [.int .i64 f, .int .i64 t, .str b]] H1 = some (.int .i64 e, H2) ∧ Two h0 p q sl' sw' H2 nodes l' ap ∧ Short l' ∧ RefAt h0 q sw H1 nodes (l.map toR) ap ∧ Went h0 H1 := by
  by_cases h : inN nodes f = true ∧ inN nodes t = true
  · obtain ⟨hf, ht⟩ := h
    by_cases hl : l.length < 64
    · obtain ⟨s', sl', H1, e1, N1, F1, b1, ns⟩ := send_ok T.net S hb hf ht hl
      -- the new letter's bytes are new
      have hnew : ∀ x ∈ l ++ [(⟨f, t, s', b⟩ : Lt)], x ∈ l ∨ ∀ c, slBlk x.s = some c → H.next ≤ c := by
        intro x hx
        rcases List.mem_append.1 hx with hx | hx
        · exact .inl hx
        · rw [List.mem_singleton.1 hx]; exact .inr ns
      obtain ⟨R1, fin⟩ := T.step N1 F1 b1 hnew (by simp; omega)
      obtain ⟨sw', H2, e2, R2, O2, n2⟩ := rsend_ok (b := b) R1 hf ht (by simpa using hl)
      refine ⟨0, H1, H2, sl', sw', _, e1, e2, fin (by rw [List.map_append]; exact R2) O2 fun c hc => .inr (n2 c hc), ?_, R1, N1.went⟩
      intro x hx
      rcases List.mem_append.1 hx with hx | hx
      · exact Sh x hx
      · rw [List.mem_singleton.1 hx]; exact hb
    · exact ⟨24, H, H, sl, sw, l, send_full T.net hf ht (by omega), rsend_full T.ref hf ht (by rw [List.length_map]; omega), T, Sh, T.ref, T.net.went⟩
  · exact ⟨23, H, H, sl, sw, l, send_no T.net h, rsend_no T.ref h, T, Sh, T.ref, T.net.went⟩

theorem send2 {h0 : Heap} {p q : Nat} {H : Heap} {nodes : Int} (T : TwoS h0 p q H nodes) (f t : Int) {s : AVal} {b : List UInt8} (S : Src 1 s H b.length (byteCells b)) (hb : b.length ≤ 140737488355328) :
    ∃ e H1 H2, E tbl 7 [.ptr p 0, .agg [.int .i64 f, .int .i64 t, s]] H = some (.int .i64 e, H1) ∧ E tbl 27 [.ptr q 0, .agg [.int .i64 f, .int .i64 t, .str b]] H1 = some (.int .i64 e, H2) ∧ TwoS h0 p q H2 nodes ∧ Went h0 H1 := by
  obtain ⟨sl, sw, l, ap, T, Sh⟩ := T
  obtain ⟨e, H1, H2, sl', sw', l', e1, e2, T2, Sh2, _, W⟩ := send1 T Sh f t S hb
  exact ⟨e, H1, H2, e1, e2, ⟨sl', sw', l', ap, T2, Sh2⟩, W⟩

theorem twice2 {h0 : Heap} {p q : Nat} {H : Heap} {nodes : Int} (T : TwoS h0 p q H nodes) (i : Int) :
    ∃ e H1 H2, E tbl 20 [.ptr p 0, .int .i64 i] H = some (.int .i64 e, H1) ∧ E tbl 25 [.ptr q 0, .int .i64 i] H1 = some (.int .i64 e, H2) ∧ TwoS h0 p q H2 nodes := by
  obtain ⟨sl, sw, l, ap, T, S⟩ := T
  by_cases hi : inN l.length i = true
  · have hi2 : 0 ≤ i ∧ i < l.length := by simpa [inN] using hi
    obtain ⟨j, rfl⟩ : ∃ j : Nat, i = (j : Int) := ⟨i.toNat, by omega⟩
    have hj : j < l.length := by omega
    have hj' : j < (l.map toR).length := by simpa using hj
    have hR : (l.map toR)[j] = toR l[j] := by simp
    obtain ⟨e, H1, H2, sl', sw', l', e1, e2, T2, Sh2, R1, _⟩ := send1 T S l[j].f l[j].t (T.net.own l[j] (List.getElem_mem hj)).1 (S _ (List.getElem_mem hj))
    exact ⟨e, H1, H2, twice_send T.net j hj e1, rtwice_send R1 j hj' (by rw [hR]; exact e2), sl', sw', l', ap, T2, Sh2⟩
  · have hi' : inN l.length i = false := by simpa using hi
    have e1 := twice_no T.net i hi'
    have e2 := rtwice_no T.ref i (by rw [List.length_map]; exact hi')
    exact ⟨23, H, H, e1, e2, sl, sw, l, ap, T, S⟩

theorem same2 {h0 : Heap} {p q : Nat} {H : Heap} {nodes : Int} (T : TwoS h0 p q H nodes) : ∃ H', E tbl 28 [.ptr p 0, .ptr q 0] H = some (.bool true, H') ∧ TwoS h0 p q H' nodes := by
  obtain ⟨sl, sw, l, ap, T, S⟩ := T
  obtain ⟨H', e, W⟩ := same_eq T S
  exact ⟨H', e, sl, sw, l, ap, T.more W, S⟩

structure Ak where
  k : Int
  a : Int
  b : Int
  i : Int
  s : AVal
  t : List UInt8

def acells : List Ak → List AVal
  | [] => []
  | x :: r => .int .i64 x.k :: .int .i64 x.a :: .int .i64 x.b :: .int .i64 x.i :: x.s :: acells r
@[simp] theorem acells_len : ∀ l : List Ak, (acells l).length = l.length * 5
  | [] => rfl
  | x :: r => by simp [acells, acells_len r]; omega
theorem acells_app : ∀ l m : List Ak, acells (l ++ m) = acells l ++ acells m
  | [], _ => rfl
  | x :: r, m => by simp [acells, acells_app r m]
theorem acells_drop : ∀ (l : List Ak) (i : Nat), (acells l).drop (i * 5) = acells (l.drop i)
  | l, 0 => by simp
  | [], i + 1 => by simp [acells]
  | x :: r, i + 1 => by
    rw [show (i + 1) * 5 = i * 5 + 1 + 1 + 1 + 1 + 1 by omega, acells, List.drop_succ_cons, List.drop_succ_cons, List.drop_succ_cons, List.drop_succ_cons, List.drop_succ_cons, acells_drop r i, List.drop_succ_cons]

structure Asks (s : AVal) (h : Heap) (L : List Ak) : Prop where
  src : Src 5 s h L.length (acells L)
  each : ∀ x ∈ L, Src 1 x.s h x.t.length (byteCells x.t) ∧ x.t.length ≤ 140737488355328

theorem Asks.went {s : AVal} {h h' : Heap} {L : List Ak} (A : Asks s h L) (W : Went h h') : Asks s h' L :=
  ⟨W.src A.src, fun x hx => ⟨W.src (A.each x hx).1, (A.each x hx).2⟩⟩

theorem Asks.at {s : AVal} {h : Heap} {L : List Ak} (A : Asks s h L) (i : Nat) (hi : i < L.length) : ∃ p, aIaddr 5 s (.int .i64 i) = some p ∧ aLoad h 5 p = some [.int .i64 L[i].k, .int .i64 L[i].a, .int .i64 L[i].b, .int .i64 L[i].i, L[i].s] := by
  obtain ⟨p, e1, e2⟩ := A.src.at i hi
  rw [acells_drop, List.drop_eq_getElem_cons hi] at e2
  exact ⟨p, e1, e2⟩

theorem new_none (h : Heap) (nodes : Int) (hn : ¬ (1 ≤ nodes ∧ nodes ≤ 6)) : E tbl 6 [.int .i64 nodes] h = some (.nilPtr, h) := by
  rw [c6]
  by_cases h1 : nodes < 1
  · simp [S6, h1]
  · have h2 : 6 < nodes := by omega
    simp [S6, h1, h2]

theorem log_bs {s : AVal} {h h' : Heap} {b : List UInt8} (S : Src 1 s h b.length (byteCells b)) (S' : Src 1 s h' b.length (byteCells b)) (β β' : List (Nat × List AVal)) : pairOk (logBs s) (some (.ef β h β' h')) = true := by
  obtain ⟨_, ⟨rfl, _⟩ | ⟨q, off, cap, ex, rfl, _, e1⟩⟩ := S
  · rfl
  · obtain ⟨_, ⟨h1, _⟩ | ⟨q', off', cap', ex', h1, _, e2⟩⟩ := S'
    · cases h1
    · cases h1
      rw [Nat.mul_one] at e1 e2
      simp [logBs, e1, e2]

set_option maxRecDepth 20000 in
theorem ask_step {h0 : Heap} {p q : Nat} {G : Heap} {nodes : Int} {s : AVal} {L : List Ak} (A : Asks s h0 L) (T : TwoS h0 p q G nodes) (j : Nat) (hj : j < L.length) (hj2 : j < 120) :
    ∃ G', L15_0 (E tbl) [s, .ptr p 0, .ptr q 0, .int .i64 j] G = some (0, [s, .ptr p 0, .ptr q 0, .int .i64 ((j : Int) + 1)], G') ∧ TwoS h0 p q G' nodes := by
  have AG := A.went T.went
  obtain ⟨pt, q1, q2⟩ := AG.at j hj
  have hmem : L[j] ∈ L := List.getElem_mem hj
  obtain ⟨St, hb⟩ := AG.each _ hmem
  generalize L[j] = x at q2 St hb hmem
  have ln := AG.src.len
  have i1 : ((j : Int) < (L.length : Int)) := by omega
  have i2 : ((j : Int) < 120) := by omega
  have w1 : IntKind.i64.wrap ((j : Int) + 1) = (j : Int) + 1 := IntWalk.i64_in _ (by omega)
  have cs := St.cell
  by_cases k2 : x.k = 2
  · obtain ⟨f, t, sx, b, e, H1, H2, e1, e2, S2, T2⟩ := deliver2 T x.i
    obtain ⟨H3, e3, T3⟩ := same2 T2
    refine ⟨H3, ?_, T3⟩
    simp [L15_0, ln, i1, i2, q1, q2, cs, k2, e1, e2, S2.cell, S2.text, e3, w1, beq_dec]
  · have b2 : (x.k == 2) = false := by simpa using k2
    by_cases k3 : x.k = 3
    · obtain ⟨e, H1, H2, e1, e2, T2⟩ := drop2 T x.i
      obtain ⟨H3, e3, T3⟩ := same2 T2
      refine ⟨H3, ?_, T3⟩
      simp [L15_0, ln, i1, i2, q1, q2, cs, b2, k3, e1, e2, e3, w1, beq_dec, checkPairs]
    · have b3 : (x.k == 3) = false := by simpa using k3
      by_cases k4 : x.k = 4
      · obtain ⟨e, H1, H2, e1, e2, T2⟩ := twice2 T x.i
        obtain ⟨H3, e3, T3⟩ := same2 T2
        refine ⟨H3, ?_, T3⟩
        simp [L15_0, ln, i1, i2, q1, q2, cs, b2, b3, k4, e1, e2, e3, w1, beq_dec, checkPairs]
      · have b4 : (x.k == 4) = false := by simpa using k4
        by_cases k5 : x.k = 5
        · obtain ⟨e, H1, H2, e1, e2, T2⟩ := set2 T x.a x.b true
          obtain ⟨H3, e3, T3⟩ := same2 T2
          refine ⟨H3, ?_, T3⟩
          simp [L15_0, ln, i1, i2, q1, q2, cs, b2, b3, b4, k5, cut_eq, e1, e2, e3, w1, beq_dec, checkPairs]
        · have b5 : (x.k == 5) = false := by simpa using k5
          by_cases k6 : x.k = 6
          · obtain ⟨e, H1, H2, e1, e2, T2⟩ := set2 T x.a x.b false
            obtain ⟨H3, e3, T3⟩ := same2 T2
            refine ⟨H3, ?_, T3⟩
            simp [L15_0, ln, i1, i2, q1, q2, cs, b2, b3, b4, b5, k6, heal_eq, e1, e2, e3, w1, beq_dec, checkPairs]
          · have b6 : (x.k == 6) = false := by simpa using k6
            obtain ⟨e, H1, H2, e1, e2, T2, W1⟩ := send2 T x.a x.b St hb
            obtain ⟨H3, e3, T3⟩ := same2 T2
            have SA := (A.went W1).each _ hmem
            have lb := log_bs St SA.1 [(8, [.int .i64 x.k, .int .i64 x.a, .int .i64 x.b, .int .i64 x.i, x.s])] [(8, [.int .i64 x.k, .int .i64 x.a, .int .i64 x.b, .int .i64 x.i, x.s])]
            refine ⟨H3, ?_, T3⟩
            simp [L15_0, ln, i1, i2, q1, q2, cs, b2, b3, b4, b5, b6, e1, SA.1.text, e2, e3, w1, beq_dec, checkPairs, lb]

theorem play_eq {s : AVal} {h : Heap} {L : List Ak} (A : Asks s h L) (nodes : Int) : ∃ H', E tbl 15 [.int .i64 nodes, s] h = some (.bool true, H') ∧ Went h H' := by
  by_cases hn : 1 ≤ nodes ∧ nodes ≤ 6
  · obtain ⟨H1, e1, N1, x1⟩ := new_eq h nodes hn
    have a1 : ¬ nodes < 1 := by omega
    have a2 : ¬ 6 < nodes := by omega
    have fl : aFill (.int .i64 0 :: .nilSlice :: grid 6 fun _ _ => false) [(0, 1, .int .i64 nodes)] = some (net0 nodes .nilSlice fun _ _ => false) := by
      simp [aFill_cons, splice_t, splice_n]
    have R1 : RefAt h H1.next .nilSlice (H1.alloc (net0 nodes .nilSlice fun _ _ => false)) nodes [] (fun _ _ => false) :=
      ⟨hn, by simp, N1.went.next, N1.went.trans (Went.alloc _ _), by simp, Own.nil _ _ _, (fun b hb => by cases hb)⟩
    have T1 : TwoS h h.next H1.next (H1.alloc (net0 nodes .nilSlice fun _ _ => false)) nodes :=
      ⟨.nilSlice, .nilSlice, [], _, ⟨N1.more (Went.alloc _ _), R1, by omega, (fun c hc => by cases hc), (fun c hc => by cases hc), (fun x hx => by cases hx), by simp⟩, fun x hx => by cases hx⟩
    have key : ∃ res, loop (L15_0 (E tbl)) [s, .ptr h.next 0, .ptr H1.next 0, .int .i64 0] (H1.alloc (net0 nodes .nilSlice fun _ _ => false)) = some res ∧ ∃ H', res = (1, [], H') ∧ Went h H' := by
      refine loop_ok (fun m xs G => ∃ j : Nat, m + j = 120 ∧ TwoS h h.next H1.next G nodes ∧ xs = [s, .ptr h.next 0, .ptr H1.next 0, .int .i64 j]) _ ?_ 120 _ _ ⟨0, rfl, T1, rfl⟩
      rintro m xs G ⟨j, hm, T, rfl⟩
      have ln := (A.went T.went).src.len
      by_cases h1 : j < L.length
      · by_cases h2 : j < 120
        · left
          obtain ⟨G', e, T'⟩ := ask_step A T j h1 h2
          exact ⟨_, G', e, m - 1, by omega, j + 1, by omega, T', by simp⟩
        · right
          have i1 : ((j : Int) < (L.length : Int)) := by omega
          have i2 : ¬ ((j : Int) < 120) := by omega
          exact ⟨0, _, G, by simp [L15_0, ln, i1, i2], G, rfl, T.went⟩
      · right
        have i1 : ¬ ((j : Int) < (L.length : Int)) := by omega
        exact ⟨0, _, G, by simp [L15_0, ln, i1], G, rfl, T.went⟩
    obtain ⟨_, e2, H', rfl, W⟩ := key
    refine ⟨H', ?_, W⟩
    have st : S15 (E tbl) (.int .i64 nodes) s h = (loop (L15_0 (E tbl)) [s, .ptr h.next 0, .ptr H1.next 0, .int .i64 0] (H1.alloc (net0 nodes .nilSlice fun _ _ => false))).bind fun x119 =>
        bif Nat.beq x119.1 1 then some (0, [(.bool true)], x119.2.2) else bif Nat.beq x119.1 2 then some (0, [(x119.2.1.getD 0 .undef)], x119.2.2) else none := by
      simp only [S15, e1, Option.bind_some, bin_lss, a1, decide_false, guard_bool, show (false == false) = true from rfl, cond_true, bin_gtr, gt_iff_lt, a2, pick_bool, cond_false, List.getD_cons_zero, cond_bool, aFill_cons, aFill_nil, aCells_int, List.length_cons, List.length_nil, Nat.zero_add, Nat.reduceAdd, Nat.reduceLeDiff, if_pos, splice_t, splice_n, cellsQ_agg]
      rfl
    rw [c15, st, e2]
    rfl
  · have e1 := new_none h nodes hn
    refine ⟨h, ?_, Went.refl h⟩
    have nn : aBin .eql .ptr .nilPtr .nilPtr = some (.bool true) := rfl
    rw [c15]
    by_cases h1 : nodes < 1
    · simp [S15, e1, h1, nn]
    · have h2 : 6 < nodes := by omega
      simp [S15, e1, h1, h2, nn]

/-- One more ask behind a row of asks. -/
theorem ask_snoc {o : AVal} {G : Heap} {n0 : Nat} {L : List Ak} (O : Own 5 o G n0 L.length (acells L)) (h0 : n0 ≤ G.next) (hL : ∀ x ∈ L, (Src 1 x.s G x.t.length (byteCells x.t) ∧ x.t.length ≤ 140737488355328) ∧ ∀ c, slBlk x.s = some c → slBlk o ≠ some c) (hlen : L.length ≤ 1000) (k a b i : Int) (u : UInt8) :
    ∃ o' G' s', aAppend 5 56 [.int .i64 0, .int .i64 0, .int .i64 0, .int .i64 0, .nilSlice] false o (.slice (G.alloc [.int .u8 u.toNat]).next 0 1 1 5 true) ((G.alloc [.int .u8 u.toNat]).alloc [.int .i64 k, .int .i64 a, .int .i64 b, .int .i64 i, .slice G.next 0 1 1 1 true]) = some (o', G') ∧ s' = AVal.slice G.next 0 1 1 1 true ∧
      Own 5 o' G' n0 (L ++ [(⟨k, a, b, i, s', [u]⟩ : Ak)]).length (acells (L ++ [⟨k, a, b, i, s', [u]⟩])) ∧ (∀ x ∈ L ++ [(⟨k, a, b, i, s', [u]⟩ : Ak)], (Src 1 x.s G' x.t.length (byteCells x.t) ∧ x.t.length ≤ 140737488355328) ∧ ∀ c, slBlk x.s = some c → slBlk o' ≠ some c) ∧ G.next ≤ G'.next ∧ ∀ c, c < n0 → G'.blk c = G.blk c := by
  have W1 := Went.alloc G [.int .u8 (u.toNat : Int)]
  have S1 := (Own.lit 1 G [.int .u8 (u.toNat : Int)] 1 rfl true).src
  have n1 : (G.alloc [.int .u8 (u.toNat : Int)]).next = G.next + 1 := rfl
  generalize G.alloc [.int .u8 (u.toNat : Int)] = G1 at W1 S1 n1
  obtain ⟨o', G', e, O', K⟩ := (W1.own O).snoc (bytes := 56) (zero := [.int .i64 0, .int .i64 0, .int .i64 0, .int .i64 0, .nilSlice]) (news := [.int .i64 k, .int .i64 a, .int .i64 b, .int .i64 i, .slice G.next 0 1 1 1 true]) (by omega) rfl (by omega) (by omega) (by omega)
  have hk := K.next
  refine ⟨o', G', _, e, rfl, by rw [acells_app, List.length_append]; exact O', ?_, by omega, fun c hc => ?_⟩
  · intro x hx
    rcases List.mem_append.1 hx with hx | hx
    · obtain ⟨⟨S, hb⟩, ne⟩ := hL x hx
      refine ⟨⟨S.kept (by omega) fun c hc => by rw [K.old c (by have := S.blk c hc; omega) (ne c hc), W1.old c (S.blk c hc)], hb⟩, fun c hc e2 => ?_⟩
      rcases K.blk c e2 with h | h
      · exact ne c hc h
      · have := S.blk c hc; omega
    · rw [List.mem_singleton.1 hx]
      have hno : slBlk o ≠ some G.next := fun e2 => by have := (O.blk _ e2).2; omega
      refine ⟨⟨S1.kept hk fun c hc => by cases hc; exact K.old _ (by omega) hno, by simp⟩, fun c hc e2 => ?_⟩
      cases hc
      rcases K.blk _ e2 with h | h
      · exact hno h
      · omega
  · have ho : slBlk o ≠ some c := fun e2 => by have := (O.blk _ e2).1; omega
    rw [K.old c (by omega) ho, W1.old c (by omega)]

theorem cell_slice (b off len cap es : Nat) (ex : Bool) : aCells 1 (.slice b off len cap es ex) = some [.slice b off len cap es ex] := rfl

theorem u8_nat (n : Int) : ∃ u : UInt8, IntKind.u8.wrap n = (u.toNat : Int) := by
  refine ⟨UInt8.ofNat (n % 256).toNat, ?_⟩
  rw [UInt8.toNat_ofNat', IntKind.wrap_u8]
  omega

theorem asks_loop (k : Int) (h : Heap) :
    ∃ o H L, loop (L5_1 (E tbl)) [.int .i64 k, .nilSlice, .int .i64 0] h = some (1, [.int .i64 k, o], H) ∧ Asks o H L := by
  have key : ∃ res, loop (L5_1 (E tbl)) [.int .i64 k, .nilSlice, .int .i64 0] h = some res ∧ ∃ o H L, res = (1, [.int .i64 k, o], H) ∧ Asks o H L := by
    refine loop_ok (fun q xs G => ∃ (i : Nat) (o : AVal) (L : List Ak), q + i = 70 ∧ h.next ≤ G.next ∧ L.length = i ∧ Own 5 o G h.next L.length (acells L) ∧ (∀ x ∈ L, (Src 1 x.s G x.t.length (byteCells x.t) ∧ x.t.length ≤ 140737488355328) ∧ ∀ c, slBlk x.s = some c → slBlk o ≠ some c) ∧ xs = [.int .i64 k, o, .int .i64 i]) _ ?_ 70 _ _ ⟨0, .nilSlice, [], rfl, Nat.le_refl _, rfl, Own.nil _ _ _, (fun x hx => by cases hx), rfl⟩
    rintro q xs G ⟨i, o, L, hi, hn, hL, O, hx, rfl⟩
    by_cases h1 : i < 70
    · left
      have i1 : ((i : Int) < 70) := by omega
      have w1 : IntKind.i64.wrap ((i : Int) + 1) = ((i + 1 : Nat) : Int) := wrap_succ _ (by omega)
      obtain ⟨u, hu⟩ := u8_nat (i : Int)
      obtain ⟨o', G', s', e, rfl, O', hx', hn', _⟩ := ask_snoc O hn hx (by omega) ((IntKind.i64.wrap (IntKind.i64.wrap ((i : Int) * i) + k)).tmod 7) ((IntKind.i64.wrap ((i : Int) + k)).tmod 5) ((IntKind.i64.wrap ((i : Int) * 3)).tmod 5) (IntKind.i64.wrap ((IntKind.i64.wrap ((i : Int) * k)).tmod 6 - 1)) u
      refine ⟨_, G', ?_, q - 1, by omega, i + 1, o', _, by omega, by omega, by simp [hL], O', hx', rfl⟩
      have e' := e
      simp only [alloc_next] at e'
      simp [L5_1, i1, bin_rem, hu, cell_slice, e', w1]
    · right
      obtain rfl : i = 70 := by omega
      exact ⟨0, _, G, by simp [L5_1], o, G, L, rfl, O.src, fun x hxx => (hx x hxx).1⟩
  obtain ⟨_, e, o, H, L, rfl, A⟩ := key
  exact ⟨o, H, L, e, A⟩

theorem full_loop (h : Heap) :
    ∃ o H L, loop (L5_2 (E tbl)) [.nilSlice, .int .i64 0] h = some (1, [o], H) ∧ L.length = 67 ∧ Own 5 o H h.next L.length (acells L) ∧ h.next ≤ H.next ∧ ∀ x ∈ L, (Src 1 x.s H x.t.length (byteCells x.t) ∧ x.t.length ≤ 140737488355328) ∧ ∀ c, slBlk x.s = some c → slBlk o ≠ some c := by
  have key : ∃ res, loop (L5_2 (E tbl)) [.nilSlice, .int .i64 0] h = some res ∧ ∃ o H L, res = (1, [o], H) ∧ L.length = 67 ∧ Own 5 o H h.next L.length (acells L) ∧ h.next ≤ H.next ∧ ∀ x ∈ L, (Src 1 x.s H x.t.length (byteCells x.t) ∧ x.t.length ≤ 140737488355328) ∧ ∀ c, slBlk x.s = some c → slBlk o ≠ some c := by
    refine loop_ok (fun q xs G => ∃ (i : Nat) (o : AVal) (L : List Ak), q + i = 67 ∧ h.next ≤ G.next ∧ L.length = i ∧ Own 5 o G h.next L.length (acells L) ∧ (∀ x ∈ L, (Src 1 x.s G x.t.length (byteCells x.t) ∧ x.t.length ≤ 140737488355328) ∧ ∀ c, slBlk x.s = some c → slBlk o ≠ some c) ∧ xs = [o, .int .i64 i]) _ ?_ 67 _ _ ⟨0, .nilSlice, [], rfl, Nat.le_refl _, rfl, Own.nil _ _ _, (fun x hx => by cases hx), rfl⟩
    rintro q xs G ⟨i, o, L, hi, hn, hL, O, hx, rfl⟩
    by_cases h1 : i < 67
    · left
      have i1 : ((i : Int) < 67) := by omega
      have w1 : IntKind.i64.wrap ((i : Int) + 1) = ((i + 1 : Nat) : Int) := wrap_succ _ (by omega)
      obtain ⟨u, hu⟩ := u8_nat (i : Int)
      obtain ⟨o', G', s', e, rfl, O', hx', hn', _⟩ := ask_snoc O hn hx (by omega) 0 0 1 0 u
      refine ⟨_, G', ?_, q - 1, by omega, i + 1, o', _, by omega, by omega, by simp [hL], O', hx', rfl⟩
      have e' := e
      simp only [alloc_next] at e'
      simp [L5_2, i1, hu, cell_slice, e', w1]
    · right
      obtain rfl : i = 67 := by omega
      exact ⟨0, _, G, by simp [L5_2], o, G, L, rfl, hL, O, hn, hx⟩
  obtain ⟨_, e, o, H, L, rfl, A⟩ := key
  exact ⟨o, H, L, e, A⟩

set_option maxRecDepth 20000 in
theorem netNumbers_law (h0 : Heap) : ∃ h', E tbl 5 [] h0 = some (.bool true, h') := by
  obtain ⟨H, e, _⟩ := loop_up (f := L5_0 (E tbl)) 30 (fun j : Nat => [.int .i64 (j : Int)]) [] (fun _ => True) (by
    intro j G hj _
    have i1 : ((j : Int) < 30) := by omega
    obtain ⟨o, H1, L, e1, A⟩ := asks_loop j G
    obtain ⟨H2, e2, _⟩ := play_eq A ((j : Int).tmod 8)
    have w1 : IntKind.i64.wrap ((j : Int) + 1) = ((j + 1 : Nat) : Int) := wrap_succ _ (by omega)
    refine ⟨H2, ?_, trivial⟩
    simp only [L5_0, List.getD_cons_succ, List.getD_cons_zero, bin_lss, Option.bind_some, i1, decide_true, cond_bool, cond_true, e1, show Nat.beq 1 1 = true from rfl, bin_rem, show ¬ ((8 : Int) = 0) by decide, if_false, e2, un_not, Bool.not_true, cond_false, bin_add, w1]) (by
    intro G _
    exact ⟨G, by simp [L5_0], trivial⟩) h0 trivial
  obtain ⟨o, H2, L, e2, hL, O, hn, hx⟩ := full_loop H
  let more : List Ak := [⟨4, 0, 0, 3, .nilSlice, []⟩, ⟨3, 0, 0, 3, .nilSlice, []⟩, ⟨4, 0, 0, 5, .nilSlice, []⟩, ⟨2, 0, 0, 60, .nilSlice, []⟩, ⟨2, 0, 0, 4611686018427387904, .nilSlice, []⟩, ⟨4, 0, 0, -9223372036854775808, .nilSlice, []⟩]
  have W := Went.alloc H2 (acells more)
  have Sm := (Own.lit 5 H2 (acells more) 6 rfl true).src
  obtain ⟨o', H3, e3, O3, K⟩ := (W.own O).app (bytes := 56) (zero := [.int .i64 0, .int .i64 0, .int .i64 0, .int .i64 0, .nilSlice]) Sm (by omega) (by simp; omega) (by omega) (by omega)
  have A : Asks o' H3 (L ++ more) := by
    refine ⟨?_, fun x hxx => ?_⟩
    · rw [acells_app, List.length_append]
      exact O3.src
    · rcases List.mem_append.1 hxx with hxx | hxx
      · obtain ⟨⟨S, hb⟩, ne⟩ := hx x hxx
        have hk := K.next
        refine ⟨S.kept (by simp at hk; omega) fun c hc => ?_, hb⟩
        rw [K.old c (by have := S.blk c hc; simp; omega) (ne c hc), W.old c (S.blk c hc)]
      · simp only [more, List.mem_cons, List.not_mem_nil, or_false] at hxx
        rcases hxx with rfl | rfl | rfl | rfl | rfl | rfl <;> exact ⟨⟨rfl, .inl ⟨rfl, rfl⟩⟩, by simp⟩
  obtain ⟨H4, e4, _⟩ := play_eq A 2
  obtain ⟨H5, e5, _⟩ := known_eq H4
  have cn : aCells 1 .nilSlice = some [.nilSlice] := rfl
  have e3' := e3
  simp only [acells, more] at e3'
  simp only [Int.cast_ofNat_Int] at e e2
  refine ⟨H5, ?_⟩
  rw [c5]
  simp [S5, e, e2, beq_dec, e3', e4, e5]
end Go.Proofs.Ytfdhljghamkgjaa.Code
