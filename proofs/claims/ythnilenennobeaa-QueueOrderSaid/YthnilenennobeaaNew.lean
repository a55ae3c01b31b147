/- Chapter 17: queues at their beginning; the document's own. -/
import Derived.Test.YthnilenennobeaaDoing
namespace Go.Proofs.Ythnilenennobeaa.Code
set_option linter.unusedSimpArgs false
set_option linter.unusedVariables false
open Go.Fw

def peer1 (acc : List Int) (x : Int) : List Int := if acc.length < 6 ∧ ¬ x ∈ acc then acc ++ [x] else acc
def peersOf (l : List Int) : List Int := l.foldl peer1 []
def Q.new (l : List Int) : Q := ⟨peersOf l, List.replicate (peersOf l).length [], 0⟩

theorem peer1_len {acc : List Int} {x : Int} (h : acc.length ≤ 6) : (peer1 acc x).length ≤ 6 := by
  unfold peer1
  split
  · rw [List.length_append, List.length_singleton]; omega
  · exact h
theorem peersOf_take (l : List Int) (i : Nat) (hi : i < l.length) : peersOf (l.take (i + 1)) = peer1 (peersOf (l.take i)) l[i] := by
  unfold peersOf
  rw [List.take_add_one, List.getElem?_eq_getElem hi, List.foldl_append]
  rfl
theorem foldl_len : ∀ (l : List Int) (acc : List Int), acc.length ≤ 6 → (l.foldl peer1 acc).length ≤ 6
  | [], _, h => h
  | _ :: r, _, h => foldl_len r _ (peer1_len h)
theorem peersOf_len (l : List Int) : (peersOf l).length ≤ 6 := foldl_len l [] (by simp)

theorem reps_rws : ∀ n, reps [.nilSlice] n = sE.rws (List.replicate n .nilSlice)
  | 0 => rfl
  | n + 1 => by rw [reps_s, reps_rws n]; rfl
theorem getD_repl (n i : Nat) : (List.replicate n AVal.nilSlice).getD i .nilSlice = .nilSlice := by
  rw [List.getD_eq_getElem?_getD, List.getElem?_replicate]; split <;> rfl
theorem getD_replR (n i : Nat) : (List.replicate n ([] : List Cd)).getD i [] = [] := by
  rw [List.getD_eq_getElem?_getD, List.getElem?_replicate]; split <;> rfl

/-- While peers are gathered. -/
structure Gath (h : Heap) (G : Heap) (ps : AVal) (acc : List Int) : Prop where
  went : Went h G
  lt : h.next < G.next
  blk : G.blk h.next = some ⟨[ps, .nilSlice, .int .i64 0], true⟩
  own : Own 1 ps G (h.next + 1) acc.length (acc.map (.int .i64))
  len : acc.length ≤ 6

theorem Gath.ints {h G : Heap} {ps : AVal} {acc : List Int} (X : Gath h G ps acc) : Ints .i64 ps G acc := X.own.src.ints
theorem Gath.snoc {h G : Heap} {ps : AVal} {acc : List Int} (X : Gath h G ps acc) (x : Int) (hl : acc.length < 6) :
    ∃ s' G1 G2, aAppend 1 8 [.int .i64 0] false ps (.slice G.next 0 1 1 1 true) (G.alloc [.int .i64 x]) = some (s', G1) ∧ G1.wr h.next 0 [s'] = some G2 ∧ Gath h G2 s' (acc ++ [x]) ∧ aCells 1 s' = some [s'] := by
  obtain ⟨s', G1, e1, O1, K1⟩ := Own.snoc (bytes := 8) (zero := [.int .i64 0]) (news := [.int .i64 x]) X.own (by omega) rfl (by have := X.lt; omega) (by omega) (by omega)
  have hne : ∀ b, slBlk ps = some b → b ≠ h.next := fun b hb e => by have := (X.own.blk b hb).1; omega
  have hb1 : G1.blk h.next = some ⟨[ps, .nilSlice, .int .i64 0], true⟩ := by rw [K1.old _ X.lt fun e => hne _ e rfl]; exact X.blk
  have hk := K1.next
  have hlt := X.lt
  have hno : ∀ b, slBlk s' = some b → b ≠ h.next := fun b hb e => by have := (O1.blk b hb).1; omega
  refine ⟨s', G1, G1.setBlk h.next (some ⟨[s', .nilSlice, .int .i64 0], true⟩), e1, ?_, ⟨⟨?_, fun i hi => ?_⟩, ?_, setBlk_same _ _ _, ?_, by simp; omega⟩, O1.cell⟩
  · rw [wr_of hb1 _ _ (by simp)]; rfl
  · show h.next ≤ G1.next; omega
  · rw [setBlk_ne _ _ (by omega), K1.old i (by omega) fun e => ?_, X.went.old i hi]
    have := (X.own.blk i e).1; omega
  · show h.next < G1.next; omega
  · have O2 := Own.kept O1 (h' := G1.setBlk h.next (some ⟨[s', .nilSlice, .int .i64 0], true⟩)) (Nat.le_refl _) fun b hb => setBlk_ne _ _ (hno b hb)
    simpa using O2

theorem Gath.fin {h G : Heap} {ps : AVal} {acc : List Int} (own : Bool) (X : Gath h G ps acc) :
    ∃ rs G1 G2 F, aMkSlice 1 24 [.nilSlice] (.int .i64 acc.length) (.int .i64 acc.length) G = some (rs, G1) ∧ aCells 1 rs = some [rs] ∧ G1.wr h.next 1 [rs] = some G2 ∧ QIn own h.next G2 ⟨acc, List.replicate acc.length [], 0⟩ F ps rs (List.replicate acc.length .nilSlice) ∧ Went h G2 ∧ ∀ b, F b → h.next ≤ b := by
  have hlt := X.lt
  have hl := X.len
  have hne : ∀ b, slBlk ps = some b → b ≠ h.next ∧ b < G.next ∧ h.next ≤ b := fun b hb => by have := X.own.blk b hb; omega
  have hb1 : (G.alloc (reps [.nilSlice] acc.length)).blk h.next = some ⟨[ps, .nilSlice, .int .i64 0], true⟩ := by rw [alloc_old _ _ (by omega)]; exact X.blk
  refine ⟨.slice G.next 0 acc.length acc.length 1 true, G.alloc (reps [.nilSlice] acc.length), (G.alloc (reps [.nilSlice] acc.length)).setBlk h.next (some ⟨[ps, .slice G.next 0 acc.length acc.length 1 true, .int .i64 0], true⟩), fun b => b = h.next ∨ slBlk ps = some b ∨ b = G.next, ?_, rfl, ?_, ?_, ⟨by show _ ≤ G.next + 1; omega, fun i hi => ?_⟩, ?_⟩
  · have h1 : (0 : Int) ≤ (acc.length : Int) ∧ (acc.length : Int) ≤ (acc.length : Int) ∧ (acc.length : Int) * (24 : Nat) ≤ 140737488355328 ∧ (acc.length : Int) ≤ 4611686018427387904 := by omega
    simp only [aMkSlice]
    rw [if_pos h1]
    simp
  · rw [wr_of hb1 _ _ (by simp)]; rfl
  · refine ⟨.inl rfl, ?_, setBlk_same _ _ _, ?_, hl, fun b hb => ⟨.inr (.inl hb), (hne b hb).1⟩, ?_, ?_, by simp, by simp, ?_, ?_, ?_, ?_⟩
    · rintro b (rfl | hb | rfl)
      · show _ < G.next + 1; omega
      · have := hne b hb; show _ < G.next + 1; omega
      · show _ < G.next + 1; omega
    · exact X.ints.mono fun b hb => by rw [setBlk_ne _ _ (hne b hb).1, alloc_old _ _ (by have := hne b hb; omega)]
    · refine ⟨by simp, .inr ⟨G.next, true, 0, [], by simp, Nat.zero_le _, by show _ < G.next + 1; omega, by simp, ?_⟩⟩
      rw [setBlk_ne _ _ (by omega), alloc_same, reps_rws]
      simp
    · intro b hb
      cases hb
      refine ⟨.inr (.inr rfl), by omega, fun e => ?_⟩
      have := hne _ e; omega
    · intro i hi
      show RowOk own _ _ ((List.replicate acc.length ([] : List Cd)).getD i [])
      rw [getD_repl, getD_replR]
      cases own with
      | true => exact Fw.Buf.nil _ _ _
      | false => exact ⟨⟨rfl, .inl ⟨rfl, rfl⟩⟩, by intro _ _ _ _ _ _ e; cases e⟩
    · intro i b hb; rw [getD_repl] at hb; cases hb
    · intro _ i j b hb; rw [getD_repl] at hb; cases hb
    · intro i
      show ((List.replicate acc.length ([] : List Cd)).getD i []).length ≤ 16
      rw [getD_replR]; simp
  · rw [setBlk_ne _ _ (by omega), alloc_old _ _ (by omega), X.went.old i hi]
  · rintro b (rfl | hb | rfl)
    · exact Nat.le_refl _
    · exact (hne b hb).2.2
    · omega

theorem new_ok {s : AVal} {h : Heap} {l : List Int} (I : Ints .i64 s h l) (hs : ∀ b, slBlk s = some b → b < h.next) (hl : l.length ≤ 20000000000000) :
    ∃ H F ps rs S, E tbl 12 [s] h = some (.ptr h.next 0, H) ∧ QIn true h.next H (Q.new l) F ps rs S ∧ Went h H ∧ ∀ b, F b → h.next ≤ b := by
  have key := loop_ok (f := L12_0 (E tbl)) (fun m xs G => ∃ (n : Nat) (ps : AVal), m + n = l.length ∧ Gath h G ps (peersOf (l.take n)) ∧ xs = [.ptr h.next 0, s, .int .i64 l.length, .int .i64 n])
    (fun r => ∃ G ps, r = (1, [.ptr h.next 0], G) ∧ Gath h G ps (peersOf l)) ?_ l.length _ (h.alloc [.nilSlice, .nilSlice, .int .i64 0]) ⟨0, .nilSlice, rfl, ⟨Went.alloc _ _, by simp, by simp, Own.nil _ _ _, by simp [peersOf]⟩, rfl⟩
  · obtain ⟨r, e, G, ps, rfl, X⟩ := key
    obtain ⟨rs, G1, G2, F, e1, e2, e3, Z, W, hF⟩ := X.fin true
    refine ⟨G2, F, ps, rs, _, ?_, Z, W, hF⟩
    have r0 : G.rd h.next 0 1 = some [ps] := by rw [rd_of X.blk 0 1 (by simp)]; rfl
    have hln : aLen false ps = some (.int .i64 (peersOf l).length) := by have := X.own.src.len; simpa using this
    have hsl := I.len
    simp only [Int.cast_ofNat_Int] at e
    rw [c12]
    simp [S12, hsl, e, r0, hln, e1, e2, e3, beq_dec]
  · rintro m xs G ⟨n, ps, m1, X, rfl⟩
    by_cases h1 : n < l.length
    · left
      have i1 : (n : Int) < (l.length : Int) := by omega
      have IG : Ints .i64 s G l := I.mono fun b hb => X.went.old b (hs b hb)
      obtain ⟨a, e1, e2⟩ := IG.at n h1
      rw [List.getD_eq_getElem?_getD, List.getElem?_eq_getElem h1, Option.getD_some] at e2
      have r0 : G.rd h.next 0 1 = some [ps] := by rw [rd_of X.blk 0 1 (by simp)]; rfl
      have hln : aLen false ps = some (.int .i64 (peersOf (l.take n)).length) := by have := X.own.src.len; simpa using this
      have w1 : IntKind.i64.wrap ((n : Int) + 1) = ((n + 1 : Nat) : Int) := wrap_succ _ (by omega)
      have hc := contains_eq X.ints (by have := X.len; omega) l[n]
      have hpt := peersOf_take l n h1
      by_cases h2 : (peersOf (l.take n)).length < 6
      · have i2 : ((peersOf (l.take n)).length : Int) < 6 := by omega
        by_cases h3 : l[n] ∈ peersOf (l.take n)
        · refine ⟨_, G, ?_, m - 1, by omega, n + 1, ps, by omega, ?_, rfl⟩
          · rw [decide_eq_true h3] at hc
            simp [L12_0, i1, e1, e2, r0, hln, i2, hc, w1, beq_dec]
          · rw [hpt]; unfold peer1; rw [if_neg (by simp [h3])]; exact X
        · obtain ⟨s', G1, G2, a1, a2, X2, a3⟩ := X.snoc l[n] h2
          refine ⟨_, G2, ?_, m - 1, by omega, n + 1, s', by omega, ?_, rfl⟩
          · rw [decide_eq_false h3] at hc
            simp [L12_0, i1, e1, e2, r0, hln, i2, hc, w1, beq_dec, a1, a2, a3]
          · rw [hpt]; unfold peer1; rw [if_pos ⟨h2, h3⟩]; exact X2
      · have i2 : ¬ ((peersOf (l.take n)).length : Int) < 6 := by omega
        refine ⟨_, G, ?_, m - 1, by omega, n + 1, ps, by omega, ?_, rfl⟩
        · simp [L12_0, i1, e1, e2, r0, hln, i2, w1, beq_dec]
        · rw [hpt]; unfold peer1; rw [if_neg (by omega)]; exact X
    · right
      obtain rfl : n = l.length := by omega
      rw [List.take_length] at X
      exact ⟨0, _, G, by simp [L12_0], G, ps, rfl, X⟩

/-- The document's own: where a peer is. -/
theorem at_loop {s : AVal} {h : Heap} {l : List Int} (S : Ints .i64 s h l) (hl : l.length ≤ 1000) (k : Int) :
    ∀ m xs H, (∃ i : Nat, H = h ∧ m + i = l.length ∧ (∀ j (hj : j < i) (hj2 : j < l.length), l[j] ≠ k) ∧ xs = [.int .i64 k, s, .int .i64 l.length, .int .i64 i]) →
      ∃ r, loop (L28_0 (E tbl)) xs H = some r ∧ ((∃ (i : Nat) (hi : i < l.length), r = (2, [.int .i64 i], h) ∧ l[i] = k ∧ ∀ j (hj : j < i), l[j] ≠ k) ∨ (r = (1, [], h) ∧ ¬ k ∈ l)) := by
  refine loop_ok _ _ ?_
  rintro m xs H ⟨i, rfl, hi, hno, rfl⟩
  by_cases h1 : i < l.length
  · have i1 : ((i : Int) < (l.length : Int)) := by omega
    obtain ⟨p, q1, q2⟩ := S.at i h1
    rw [List.getD_eq_getElem?_getD, List.getElem?_eq_getElem h1, Option.getD_some] at q2
    by_cases hk : l[i] = k
    · right
      refine ⟨1, [.int .i64 i], H, ?_, .inl ⟨i, h1, rfl, hk, fun j hj => hno j hj (by omega)⟩⟩
      simp [L28_0, i1, q1, q2, hk]
    · left
      have w1 : IntKind.i64.wrap ((i : Int) + 1) = ((i + 1 : Nat) : Int) := wrap_succ _ (by omega)
      have hk' : (l[i] == k) = false := by simpa using hk
      refine ⟨_, _, ?_, m - 1, by omega, i + 1, rfl, by omega, ?_, rfl⟩
      · simp only [L28_0, List.getD_cons_succ, List.getD_cons_zero, bin_lss, Option.bind_some, i1, decide_true, cond_bool, cond_true, q1, q2, from_one, bin_eql, hk', cond_false, bin_add, w1]
      · intro j hj hj2
        by_cases hji : j = i
        · subst hji; exact hk
        · exact hno j (by omega) hj2
  · right
    have i1 : ¬ ((i : Int) < (l.length : Int)) := by omega
    refine ⟨0, [], H, by simp [L28_0, i1], .inr ⟨rfl, ?_⟩⟩
    intro hm
    obtain ⟨j, hj, e⟩ := List.getElem_of_mem hm
    exact hno j (by omega) hj e

theorem at_eq {p : Nat} {ps : AVal} {rest : List AVal} {h : Heap} {l : List Int} (hb : h.blk p = some ⟨ps :: rest, true⟩) (S : Ints .i64 ps h l) (hl : l.length ≤ 1000) (k : Int) : E tbl 28 [.ptr p 0, .int .i64 k] h = some (.int .i64 (place l k), h) := by
  obtain ⟨r, e, hr⟩ := at_loop S hl k l.length _ h ⟨0, rfl, by omega, fun j hj => by omega, rfl⟩
  have r0 : h.rd p 0 1 = some [ps] := by rw [rd_of hb 0 1 (by simp)]; rfl
  rw [c28]
  simp only [Int.cast_ofNat_Int] at e
  rcases hr with ⟨i, hi, rfl, h1, h2⟩ | ⟨rfl, hk⟩
  · rw [place_some hi h1 h2]
    simp [S28, r0, S.len, e, beq_dec]
  · rw [place_none hk]
    simp [S28, r0, S.len, e, beq_dec]

theorem refNew_ok {s : AVal} {h : Heap} {l : List Int} (I : Ints .i64 s h l) (hs : ∀ b, slBlk s = some b → b < h.next) (hl : l.length ≤ 20000000000000) :
    ∃ H F ps rs S, E tbl 18 [s] h = some (.ptr h.next 0, H) ∧ QIn false h.next H (Q.new l) F ps rs S ∧ Went h H ∧ ∀ b, F b → h.next ≤ b := by
  have key := loop_ok (f := L18_0 (E tbl)) (fun m xs G => ∃ (n : Nat) (ps : AVal), m + n = l.length ∧ Gath h G ps (peersOf (l.take n)) ∧ xs = [.ptr h.next 0, s, .int .i64 l.length, .int .i64 n])
    (fun r => ∃ G ps, r = (1, [.ptr h.next 0], G) ∧ Gath h G ps (peersOf l)) ?_ l.length _ (h.alloc [.nilSlice, .nilSlice, .int .i64 0]) ⟨0, .nilSlice, rfl, ⟨Went.alloc _ _, by simp, by simp, Own.nil _ _ _, by simp [peersOf]⟩, rfl⟩
  · obtain ⟨r, e, G, ps, rfl, X⟩ := key
    obtain ⟨rs, G1, G2, F, e1, e2, e3, Z, W, hF⟩ := X.fin false
    refine ⟨G2, F, ps, rs, _, ?_, Z, W, hF⟩
    have r0 : G.rd h.next 0 1 = some [ps] := by rw [rd_of X.blk 0 1 (by simp)]; rfl
    have hln : aLen false ps = some (.int .i64 (peersOf l).length) := by have := X.own.src.len; simpa using this
    have hsl := I.len
    simp only [Int.cast_ofNat_Int] at e
    rw [c18]
    simp [S18, hsl, e, r0, hln, e1, e2, e3, beq_dec]
  · rintro m xs G ⟨n, ps, m1, X, rfl⟩
    by_cases h1 : n < l.length
    · left
      have i1 : (n : Int) < (l.length : Int) := by omega
      have IG : Ints .i64 s G l := I.mono fun b hb => X.went.old b (hs b hb)
      obtain ⟨a, e1, e2⟩ := IG.at n h1
      rw [List.getD_eq_getElem?_getD, List.getElem?_eq_getElem h1, Option.getD_some] at e2
      have r0 : G.rd h.next 0 1 = some [ps] := by rw [rd_of X.blk 0 1 (by simp)]; rfl
      have hln : aLen false ps = some (.int .i64 (peersOf (l.take n)).length) := by have := X.own.src.len; simpa using this
      have w1 : IntKind.i64.wrap ((n : Int) + 1) = ((n + 1 : Nat) : Int) := wrap_succ _ (by omega)
      have hc := at_eq X.blk X.ints (by have := X.len; omega) l[n]
      have hpt := peersOf_take l n h1
      rcases place_cases (peersOf (l.take n)) l[n] with ⟨i, hi, h3, h4⟩ | ⟨h3, h4⟩
      · have hm : l[n] ∈ peersOf (l.take n) := h4 ▸ List.getElem_mem hi
        rw [h3] at hc
        have h0 : ¬ (i : Int) < 0 := by omega
        refine ⟨_, G, ?_, m - 1, by omega, n + 1, ps, by omega, ?_, rfl⟩
        · simp [L18_0, i1, e1, e2, hc, h0, w1, beq_dec]
        · rw [hpt]; unfold peer1; rw [if_neg (by simp [hm])]; exact X
      · rw [h3] at hc
        by_cases h2 : (peersOf (l.take n)).length < 6
        · have i2 : ((peersOf (l.take n)).length : Int) < 6 := by omega
          obtain ⟨s', G1, G2, a1, a2, X2, a3⟩ := X.snoc l[n] h2
          refine ⟨_, G2, ?_, m - 1, by omega, n + 1, s', by omega, ?_, rfl⟩
          · simp [L18_0, i1, e1, e2, r0, hln, i2, hc, w1, beq_dec, a1, a2, a3]
          · rw [hpt]; unfold peer1; rw [if_pos ⟨h2, h4⟩]; exact X2
        · have i2 : ¬ ((peersOf (l.take n)).length : Int) < 6 := by omega
          refine ⟨_, G, ?_, m - 1, by omega, n + 1, ps, by omega, ?_, rfl⟩
          · simp [L18_0, i1, e1, e2, r0, hln, i2, hc, w1, beq_dec]
          · rw [hpt]; unfold peer1; rw [if_neg (by omega)]; exact X
    · right
      obtain rfl : n = l.length := by omega
      rw [List.take_length] at X
      exact ⟨0, _, G, by simp [L18_0], G, ps, rfl, X⟩
end Go.Proofs.Ythnilenennobeaa.Code
