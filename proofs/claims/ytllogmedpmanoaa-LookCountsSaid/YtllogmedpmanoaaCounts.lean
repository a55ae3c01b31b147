/- LookCounts. -/
import Derived.Test.YtllogmedpmanoaaPdqG
import Derived.Test.YtllogmedpmanoaaKnown
namespace Go.Proofs.Ytllogmedpmanoaa.Code
set_option linter.unusedSimpArgs false
set_option linter.unusedVariables false
open Go.Fw

def Cd.Shown (c : Cd) : Prop := 0 ≤ c.shows ∧ c.shows ≤ 3
theorem cards_ok2 {p : Nat} {s : AVal} {ts : List Int} {h : Heap} (T : Fw.Tape p s ts h) (most : Nat) (hm : most ≤ 1000) :
    ∃ o l H, E tbl 6 [.ptr p 0, .int .i64 most] h = some (o, H) ∧ OwnC o H h.next l ∧ l.length ≤ most ∧ (∀ c ∈ l, c.Shown) ∧ Fw.Tape p s ts H ∧ Only p h H := by
  obtain ⟨r, h1, e1, r0, r1, T1, O1, n1⟩ := next_ok T ((most : Int) + 1) (by omega)
  obtain ⟨n, rfl⟩ : ∃ n : Nat, r = (n : Int) := ⟨r.toNat, by omega⟩
  have w1 : IntKind.i64.wrap ((most : Int) + 1) = (most : Int) + 1 := IntWalk.i64_in _ (by omega)
  have key : ∃ res, loop (L6_0 (E tbl)) [.ptr p 0, .nilSlice, .int .i64 n] h1 = some res ∧ ∃ o l H, res = (1, [o], H) ∧ OwnC o H h.next l ∧ l.length ≤ most ∧ (∀ c ∈ l, c.Shown) ∧ Fw.Tape p s ts H ∧ Only p h H := by
    refine loop_ok (fun m xs G => ∃ (o : AVal) (l : List Cd), m + l.length ≤ most ∧ Fw.Tape p s ts G ∧ OwnC o G h.next l ∧ (∀ c ∈ l, c.Shown) ∧ Only p h G ∧ xs = [.ptr p 0, o, .int .i64 (m : Int)]) _ ?_ n _ _ ⟨.nilSlice, [], by simp; omega, T1, Own.nil _ _ _, by simp, O1, rfl⟩
    rintro m xs G ⟨o, l, hl, TG, OG, sh, Og, rfl⟩
    by_cases h0 : 0 < m
    · left
      have i1 : (0 : Int) < (m : Int) := by omega
      obtain ⟨a, i, st, ov, le, t, k, nn, g, G1, e2, may, T2, O2⟩ := card_ok TG
      have hlt := T.lt
      have hn := Og.next
      have hn2 := O2.next
      have Oa : OwnC o G1 h.next l := OG.kept hn2 fun b hb => O2.old b (OG.blk b hb).2 (by have := (OG.blk b hb).1; omega)
      obtain ⟨o', G2, e3, O3, K⟩ := OwnC.snoc Oa ⟨a, i, st, ov, le, t, k, nn, g⟩ (by omega) (by omega)
      have hk := K.next
      have hno : ∀ b, b < h.next → slBlk o ≠ some b := fun b hb e => by have := (OG.blk b e).1; omega
      have T3 : Fw.Tape p s ts G2 := by
        have hs : ∀ b, slBlk s = some b → b < h.next := fun b hb => (T.ne b hb).1
        refine ⟨by omega, ?_, T2.ints.mono fun b hb => K.old b (T2.ne b hb).1 (hno b (hs b hb)), fun b hb => ⟨by have := (T2.ne b hb).1; omega, (T2.ne b hb).2⟩, T2.sz⟩
        obtain ⟨q, hq, hb⟩ := T2.pos
        exact ⟨q, hq, by rw [K.old p T2.lt (hno p hlt), hb]⟩
      have wm : IntKind.i64.wrap ((m : Int) - 1) = ((m - 1 : Nat) : Int) := by rw [IntWalk.i64_in _ (by omega)]; omega
      refine ⟨_, G2, ?_, m - 1, by omega, o', l ++ [⟨a, i, st, ov, le, t, k, nn, g⟩], by simp; omega, T3, O3, ?_, ⟨by omega, fun b hb hp => ?_⟩, rfl⟩
      · simp [L6_0, h0, e2, e3, wm]
      · intro c hc
        rcases List.mem_append.1 hc with hc | hc
        · exact sh c hc
        · rw [List.mem_singleton.1 hc]
          have q1 := may.s
          have q2 := may.o
          unfold Cd.Shown Cd.shows
          dsimp only
          repeat' split
          all_goals omega
      · rw [K.old b (by omega) (hno b hb), O2.old b (by omega) hp, Og.old b hb hp]
    · right
      obtain rfl : m = 0 := by omega
      exact ⟨0, _, G, by simp [L6_0], o, l, G, rfl, OG, by omega, sh, TG, Og⟩
  obtain ⟨_, e, o, l, H, rfl, a1, a2, a5, a3, a4⟩ := key
  refine ⟨o, l, H, ?_, a1, a2, a5, a3, a4⟩
  rw [c6]
  simp [S6, w1, e1, e, beq_dec]


/-! What is counted. -/
theorem cnt_cons (c : Cd) (l : List Cd) (k : Int) : cnt (c :: l) k = (if c.shows = k then 1 else 0) + cnt l k := by
  unfold cnt
  rw [List.filter_cons]
  by_cases h : c.shows = k
  · simp only [h, BEq.rfl, if_true, List.length_cons]; omega
  · simp [h]
theorem cnt_all : ∀ l : List Cd, (∀ c ∈ l, c.Shown) → cnt l 0 + cnt l 1 + cnt l 2 + cnt l 3 = (l.length : Int)
  | [], _ => rfl
  | c :: l, h => by
    have ih := cnt_all l fun x hx => h x (List.mem_cons_of_mem _ hx)
    have hc := h c (List.mem_cons_self ..)
    unfold Cd.Shown at hc
    simp only [cnt_cons, List.length_cons]
    have : c.shows = 0 ∨ c.shows = 1 ∨ c.shows = 2 ∨ c.shows = 3 := by omega
    rcases this with e | e | e | e <;> simp only [e, if_true, Int.reduceEq, if_false] <;> omega
theorem dd_facts : ∀ (l acc : List Tx), (acc ++ l).Pairwise leT → acc.Pairwise (fun x y => lt x y = true) →
    (l.foldl ddS acc).Pairwise (fun x y => lt x y = true) ∧ ∀ x, x ∈ l.foldl ddS acc ↔ x ∈ acc ∨ x ∈ l
  | [], acc, _, h => ⟨h, fun x => by simp⟩
  | x :: l, acc, h1, h2 => by
    rw [List.foldl_cons]
    by_cases hx : acc.getLast? = some x
    · have e : ddS acc x = acc := by unfold ddS; rw [if_pos hx]
      have hm : x ∈ acc := List.mem_of_getLast? hx
      rw [e]
      have h3 : (acc ++ l).Pairwise leT := h1.sublist (List.Sublist.append (List.Sublist.refl _) (List.sublist_cons_self _ _))
      obtain ⟨a, b⟩ := dd_facts l acc h3 h2
      refine ⟨a, fun y => ?_⟩
      rw [b y, List.mem_cons]
      constructor
      · rintro (h | h)
        · exact .inl h
        · exact .inr (.inr h)
      · rintro (h | rfl | h)
        · exact .inl h
        · exact .inl hm
        · exact .inr h
    · have e : ddS acc x = acc ++ [x] := by unfold ddS; rw [if_neg hx]
      rw [e]
      have h3 : (acc ++ [x] ++ l).Pairwise leT := by simpa using h1
      have h4 : (acc ++ [x]).Pairwise (fun x y => lt x y = true) := by
        refine List.pairwise_append.2 ⟨h2, List.pairwise_singleton .., fun y hy z hz => ?_⟩
        rw [List.mem_singleton.1 hz]
        have q1 : leT y x := (List.pairwise_append.1 h1).2.2 y hy x (List.mem_cons_self ..)
        cases hq : lt y x with
        | true => rfl
        | false =>
          exfalso
          have hyx : y = x := lt_total hq q1
          subst hyx
          -- the last one lies between
          rcases List.eq_nil_or_concat acc with hn | ⟨ini, z0, rfl⟩
          · rw [hn] at hy; cases hy
          · rw [List.concat_eq_append] at *
            have hz0 : z0 ≠ y := fun e => hx (by simp [e])
            have q2 : leT z0 y := (List.pairwise_append.1 h1).2.2 z0 (by simp) y (List.mem_cons_self ..)
            rcases List.mem_append.1 hy with h | h
            · have q3 := (List.pairwise_append.1 h2).2.2 y h z0 (by simp)
              rw [q2] at q3
              cases q3
            · exact hz0 (List.mem_singleton.1 h).symm
      obtain ⟨a, b⟩ := dd_facts l (acc ++ [x]) h3 h4
      refine ⟨a, fun y => ?_⟩
      rw [b y, List.mem_append, List.mem_singleton, List.mem_cons, or_assoc]
theorem apps_nodup (l : List Cd) : (appsC l).Nodup ∧ ∀ x, x ∈ appsC l ↔ x ∈ appsRaw l := by
  obtain ⟨a, b⟩ := dd_facts (sortI lt [] (appsRaw l)) [] (by simpa using tsorted (appsRaw l)) List.Pairwise.nil
  refine ⟨List.Pairwise.imp (fun {x y} h e => ?_) a, fun x => ?_⟩
  · rw [e, lt_irrefl] at h; cases h
  · unfold appsC dd
    rw [b x]
    simp only [List.not_mem_nil, false_or]
    exact (sortI_perm lt [] (appsRaw l)).mem_iff
def sumF (l : List Cd) (A : List Tx) : Nat := (A.map fun x => (findC l x).length).sum
theorem findC_count (l : List Cd) (x : Tx) : (findC l x).length = l.countP (isUp x) := by
  unfold findC
  rw [← List.countP_eq_length_filter]
  exact (sortI_perm lessC noCd l).countP_eq _
theorem sum_count (l : List Cd) : ∀ A : List Tx, A.Nodup → sumF l A = l.countP fun c => decide (c.a ∈ A) && c.shows == 1
  | [], _ => by simp [sumF]
  | x :: A, h => by
    obtain ⟨h1, h2⟩ := List.nodup_cons.1 h
    have ih := sum_count l A h2
    have e : sumF l (x :: A) = (findC l x).length + sumF l A := by simp [sumF]
    rw [e, ih, findC_count]
    clear ih e
    induction l with
    | nil => rfl
    | cons c l ihl =>
      rw [List.countP_cons, List.countP_cons, List.countP_cons]
      have q : (if isUp x c = true then 1 else 0) + (if (decide (c.a ∈ A) && c.shows == 1) = true then 1 else 0) = if (decide (c.a ∈ x :: A) && c.shows == 1) = true then 1 else 0 := by
        unfold isUp
        by_cases h5 : c.shows = 1
        · by_cases h6 : c.a = x
          · have h7 : ¬ c.a ∈ A := by rw [h6]; exact h1
            simp [h5, h6, h1]
          · simp [h5, h6]
        · simp [h5]
      omega
theorem found_all (l : List Cd) : (sumF l (appsC l) : Int) = cnt l 1 := by
  obtain ⟨h1, h2⟩ := apps_nodup l
  rw [sum_count l _ h1]
  unfold cnt
  rw [← List.countP_eq_length_filter]
  congr 1
  refine List.countP_congr fun c hc => ?_
  rw [Bool.and_eq_true, decide_eq_true_eq, h2]
  constructor
  · exact fun h => h.2
  · intro h
    refine ⟨?_, h⟩
    unfold appsRaw
    refine List.mem_map.2 ⟨c, List.mem_filter.2 ⟨hc, ?_⟩, rfl⟩
    unfold isHere
    unfold Cd.shows at h
    cases hg : c.g with
    | false => rfl
    | true => rw [hg] at h; simp at h

theorem sumF_take (l : List Cd) (A : List Tx) (n : Nat) (hn : n < A.length) : sumF l (A.take (n + 1)) = sumF l (A.take n) + (findC l A[n]).length := by
  unfold sumF
  rw [List.take_add_one, List.getElem?_eq_getElem hn, List.map_append, List.sum_append]
  simp
theorem sumF_le (l : List Cd) (A : List Tx) : sumF l A ≤ A.length * l.length := by
  induction A with
  | nil => simp [sumF]
  | cons x A ih =>
    have e : sumF l (x :: A) = (findC l x).length + sumF l A := by simp [sumF]
    have := findC_len l x
    rw [e, List.length_cons, Nat.succ_mul]
    omega
theorem sumLoop_ok {o ap : AVal} {G : Heap} {l : List Cd} {A : List Tx} (S : SrcC o G l) (hl : l.length ≤ 14) (T : SrcT ap G A) (hA : A.length ≤ 14) (V : List AVal) :
    ∃ H, loop (L5_0 (E tbl)) [o, .int .i64 0, ap, .int .i64 A.length, .int .i64 0, .agg V] G = some (1, [o, .int .i64 (sumF l A : Nat), .agg V], H) ∧ Went G H := by
  have key := loop_ok (f := L5_0 (E tbl)) (fun m xs F => ∃ n : Nat, m + n = A.length ∧ Went G F ∧ xs = [o, .int .i64 (sumF l (A.take n) : Nat), ap, .int .i64 A.length, .int .i64 n, .agg V])
    (fun r => ∃ F, r = (1, [o, .int .i64 (sumF l A : Nat), .agg V], F) ∧ Went G F) ?_ A.length _ G ⟨0, rfl, Went.refl _, rfl⟩
  · obtain ⟨r, e, F, rfl, a⟩ := key
    exact ⟨F, e, a⟩
  · rintro m xs F ⟨n, m1, W, rfl⟩
    by_cases h1 : n < A.length
    · left
      have i1 : (n : Int) < (A.length : Int) := by omega
      obtain ⟨a, e1, e2⟩ := El.Src.el (E := txE) (W.src T) n h1
      obtain ⟨u, H, e3, U, W3⟩ := find_ok (W.src S) (by omega) A[n]
      have ln : aLen false u = some (.int .i64 (findC l A[n]).length) := U.len
      have w1 : IntKind.i64.wrap ((n : Int) + 1) = ((n + 1 : Nat) : Int) := wrap_succ _ (by omega)
      have hs := sumF_take l A n h1
      have hb := sumF_le l (A.take (n + 1))
      have hb2 : (A.take (n + 1)).length * l.length ≤ 14 * 14 := Nat.mul_le_mul (by rw [List.length_take]; omega) hl
      have w2 : IntKind.i64.wrap ((sumF l (A.take n) : Nat) + ((findC l A[n]).length : Int)) = ((sumF l (A.take (n + 1)) : Nat) : Int) := by rw [IntWalk.i64_in _ (by omega)]; omega
      simp only [txE_f] at e2
      refine ⟨_, H, ?_, m - 1, by omega, n + 1, by omega, W.trans W3, rfl⟩
      simp only [L5_0, List.getD_cons_zero, List.getD_cons_succ, bin_lss, i1, decide_true, Option.bind_some, cond_bool, cond_true, e1, e2, from_one, e3, ln, bin_add, w2, w1, aggCells_agg]
    · right
      obtain rfl : n = A.length := by omega
      rw [List.take_length]
      exact ⟨0, _, F, by simp [L5_0], F, rfl, W⟩

theorem lookCounts_true (h0 : Heap) {s : AVal} {l : List Int} (I : Ints .i64 s h0 l) (lt0 : ∀ b, slBlk s = some b → b < h0.next) (_ : ∀ x ∈ l, (Lit.int .i64 x).wf = true) (sz : l.length * 8 ≤ 140737488355328) : ∃ h', E tbl 5 [s] h0 = some (.bool true, h') := by
  have T0 : Fw.Tape h0.next s l (h0.alloc [s, .int .i64 0]) := Tape.make I lt0 (by omega)
  obtain ⟨o, lc, H2, e2, O2, l2, sh, _, _⟩ := cards_ok2 T0 14 (by omega)
  have e3 := count_ok O2.src (by omega)
  obtain ⟨ap, H4, e4, A4, W4⟩ := apps14 O2.src l2
  have hA : (appsC lc).length ≤ 14 := by
    have h8 := dd_len (sortI lt [] (appsRaw lc)) []
    have h9 := appsRaw_len lc
    rw [sortI_len] at h8
    simp only [List.length_nil] at h8
    unfold appsC dd
    omega
  obtain ⟨H5, e5, W5⟩ := sumLoop_ok (W4.src O2.src) l2 A4 hA (cntV lc)
  obtain ⟨H6, e6, W6⟩ := known_ok H5
  have cs : aCells 1 s = some [s] := I.cell
  have ft : aFill [.nilSlice, .int .i64 0] [(0, 1, s)] = some [s, .int .i64 0] := by
    simp only [fill_cons, fill_nil, cs, Option.bind_some, List.length_cons, List.length_nil, spl_c, spl_z]
    rfl
  have lnA : aLen false ap = some (.int .i64 (appsC lc).length) := A4.len
  have lnO : aLen false o = some (.int .i64 lc.length) := O2.src.len
  have hall := cnt_all lc sh
  have hf := found_all lc
  have nn : ∀ k, 0 ≤ cnt lc k := fun k => by unfold cnt; omega
  have n0 := nn 0
  have n1 := nn 1
  have n2 := nn 2
  have n3 := nn 3
  have s1 : IntKind.i64.wrap (cnt lc 0 + cnt lc 1) = cnt lc 0 + cnt lc 1 := IntWalk.i64_in _ (by omega)
  have s2 : IntKind.i64.wrap (cnt lc 0 + cnt lc 1 + cnt lc 2) = cnt lc 0 + cnt lc 1 + cnt lc 2 := IntWalk.i64_in _ (by omega)
  have s3 : IntKind.i64.wrap (cnt lc 0 + cnt lc 1 + cnt lc 2 + cnt lc 3) = (lc.length : Int) := by rw [IntWalk.i64_in _ (by omega)]; exact hall
  have x0 : aIdx 4 (.int .i64 0) = some 0 := rfl
  have x1 : aIdx 4 (.int .i64 1) = some 1 := rfl
  have x2 : aIdx 4 (.int .i64 2) = some 2 := rfl
  have x3 : aIdx 4 (.int .i64 3) = some 3 := rfl
  have q1 : (cnt lc 1 == cnt lc 1) = true := by simp
  have q2 : ((lc.length : Int) == (lc.length : Int)) = true := by simp
  rw [hf] at e5
  refine ⟨H6, ?_⟩
  simp only [Int.cast_ofNat_Int] at e2
  simp only [cntV] at e3 e5
  rw [c5]
  simp only [S5, ft, Option.bind_some, cellsQ_agg, e2, e3, aCells_agg, List.length_cons, List.length_nil, Nat.zero_add, Nat.reduceAdd, if_true, ble_dec, Nat.le_refl, decide_true, cond_true, e4, lnA, spl_c, spl_z, e5, nat_beq11, List.getD_cons_zero, List.getD_cons_succ, aggCells_agg, x0, x1, x2, x3, Nat.zero_mul, Nat.reduceMul, rdL_s, rdL_t, rdL_z, Option.map_some, from_one, bin_add, s1, s2, s3, lnO, bin_eql, q1, q2, guard_bool, BEq.rfl, pick_bool, e6, ans_one]
end Go.Proofs.Ytllogmedpmanoaa.Code
