/- YtjibfbphiemljaaGreatDoorReads -/
import Derived.Test.YtjibfbphiemljaaGreatDoorReader
set_option linter.unusedSimpArgs false
set_option linter.unusedVariables false
namespace Go.Proofs.YtjibfbphiemljaaGreatDoor.Code
open Go.Fw
abbrev zCd : List AVal := [.str [], .str [], .int .i64 0, .int .i64 0, .int .i64 0, .int .i64 0, .int .i64 0, .int .i64 0, .bool false]
theorem i64_nat {n : Nat} (h : n ≤ 255) : I64 (n : Int) := by unfold I64; omega
theorem spl_s (a : AVal) (l vs : List AVal) (n : Nat) : splice (a :: l) (n + 1) vs = a :: splice l n vs := by
  unfold splice
  rw [show n + 1 + vs.length = (n + vs.length) + 1 by omega]
  simp
theorem spl_z (l : List AVal) : splice l 0 [] = l := by simp [splice]
theorem spl_c (a v : AVal) (l vs : List AVal) : splice (a :: l) 0 (v :: vs) = v :: splice l 0 vs := by simp [splice]
theorem aCells_agg (cs : List AVal) (n : Nat) (h : cs.length = n) : aCells n (.agg cs) = some cs := by
  subst h
  simp [aCells, AVal.cells?]
theorem fill_nil (cs : List AVal) : aFill cs [] = some cs := rfl
theorem fill_cons (cs : List AVal) (off n : Nat) (v : AVal) (r : List (Nat × Nat × AVal)) : aFill cs ((off, n, v) :: r) = (aCells n v).bind fun vs => bif Nat.ble (off + n) cs.length then aFill (splice cs off vs) r else none := rfl
theorem cp_cons (log : List (Nat × Option Log)) (i q : Nat) (r : List (Nat × Nat)) : checkPairs log ((i, q) :: r) = ((match lookLog log i, lookLog log q with | some a, some e => pairOk a e | _, _ => false) && checkPairs log r) := rfl
theorem reps_one (z : List AVal) : reps z 1 = z := by simp [reps]
section
variable {N q r : Nat} {h : Heap} {st : Option (List UInt8)}
theorem MS.row {G G' : Heap} {st' : Option (List UInt8)} {out out' : AVal} (Q : MS N q r G st') (hN : N ≤ h.next) (ob : ∀ b, slBlk out = some b → h.next ≤ b) (hn : h.next ≤ G.next) (K : Kept G out G' out') : MS N q r G' st' :=
  Q.mono K.next fun b hb => K.old b (by omega) fun e => by have := ob b e; omega
theorem Only2.row {q r : Nat} {h G G' : Heap} {out out' : AVal} (O : Only2 q r h G) (ob : ∀ b, slBlk out = some b → h.next ≤ b) (K : Kept G out G' out') : Only2 q r h G' :=
  ⟨Nat.le_trans O.next K.next, fun b hb h1 h2 => by rw [K.old b (Nat.lt_of_lt_of_le hb O.next) fun e => by have := ob b e; omega, O.old b hb h1 h2]⟩
theorem rep_step {α : Type} {N q r : Nat} {p : Pr α} {st0 st : Option (List UInt8)} {xs : List α} {x : α} {h h' : Heap} {n i : Nat} (S : Step N q r p st x h h') (hi : i < n)
    (e : st0.bind (p.rep n) = (st.bind (p.rep (n - i))).map fun z => (xs ++ z.1, z.2)) : st0.bind (p.rep n) = ((left (st.bind p)).bind (p.rep (n - (i + 1)))).map fun z => ((xs ++ [x]) ++ z.1, z.2) := by
  rw [e]
  obtain ⟨k, hk⟩ : ∃ k, n - i = k + 1 := ⟨n - i - 1, by omega⟩
  have hk2 : n - (i + 1) = k := by omega
  rw [hk, hk2, Pr.rep, S.bind]
  cases left (st.bind p) with
  | none => rfl
  | some l =>
    show ((p.rep k l).bind _).map _ = (p.rep k l).map _
    cases p.rep k l with
    | none => rfl
    | some z => simp [Pr.ret]
theorem rep_end {α : Type} {N q r : Nat} {p : Pr α} {st0 st : Option (List UInt8)} {xs : List α} {h h' : Heap} {n : Nat} (ms : MS N q r h' st) (o : Only2 q r h h')
    (e : st0.bind (p.rep n) = (st.bind (p.rep (n - n))).map fun z => (xs ++ z.1, z.2)) : Step N q r (p.rep n) st0 xs h h' := by
  refine step_end ms ?_ o
  rw [e, Nat.sub_self]
  cases st with
  | none => rfl
  | some l => simp [Pr.rep, Pr.ret]
theorem step_then {α β : Type} {N q r : Nat} {p : Pr α} {f : α → Pr β} {st : Option (List UInt8)} {x : α} {y : β} {h h1 h2 : Heap} (S : Step N q r p st x h h1) (T : Step N q r (f x) (left (st.bind p)) y h1 h2) : Step N q r (p.then f) st y h h2 :=
  ⟨by rw [S.bind]; exact T.ms, fun z hz => T.val z (by rw [← S.bind]; exact hz), S.only.trans T.only⟩
theorem MS.hN (Q : MS N q r h st) : N ≤ h.next ∧ q < N ∧ r < N := by
  obtain ⟨l, b, o, Q, e⟩ := Q
  exact ⟨Q.hN, Q.hq, Q.hr⟩
theorem Only2.own {α : Type} {es : Nat} {E : El α es} {q r : Nat} {G G' : Heap} {out : AVal} {n0 : Nat} {xs : List α} (O : Only2 q r G G') (S : E.Own out G n0 xs) (hq : q < n0) (hr : r < n0) : E.Own out G' n0 xs :=
  Fw.Own.kept S O.next fun b hb => O.old b (S.blk b hb).2 (by have := (S.blk b hb).1; omega) (by have := (S.blk b hb).1; omega)
theorem mcards (Q : MS N q r h st) : ∃ (xs : List Cd) (sc : AVal) (h' : Heap), E tbl 79 [.ptr q 0] h = some (sc, h') ∧ OwnC sc h' h.next xs ∧ xs.length ≤ 255 ∧ (∀ c ∈ xs, c.Wf) ∧ Step N q r cardsP st xs h h' := by
  obtain ⟨hN, hq, hr⟩ := Q.hN
  obtain ⟨n, h1, e1, hn, S1, n1⟩ := mbyte Q
  have key : ∃ res, loop (L79_0 (E tbl)) [.ptr q 0, .nilSlice, .int .i64 n, .int .i64 0] h1 = some res ∧ ∃ xs sc H, res = (1, [sc], H) ∧ OwnC sc H h.next xs ∧ xs.length = n ∧ (∀ c ∈ xs, c.Wf) ∧ Step N q r (cardP.rep n) (left (st.bind byteP)) xs h1 H := by
    refine loop_ok (fun m ys G => ∃ (i : Nat) (si : Option (List UInt8)) (xs : List Cd) (out : AVal), i + m = n ∧ MS N q r G si ∧ OwnC out G h.next xs ∧ xs.length = i ∧ (∀ c ∈ xs, c.Wf) ∧ Only2 q r h1 G ∧
        (left (st.bind byteP)).bind (cardP.rep n) = (si.bind (cardP.rep (n - i))).map (fun z => (xs ++ z.1, z.2)) ∧ ys = [.ptr q 0, out, .int .i64 n, .int .i64 i]) _ ?_ n _ _
      ⟨0, left (st.bind byteP), [], .nilSlice, by omega, S1.ms, Own.nil _ _ _, rfl, by simp, Only2.refl _ _ _, by simp, rfl⟩
    rintro m ys G ⟨i, si, xs, out, hi, QG, O, hx, wf, OG, eq, rfl⟩
    by_cases c : i < n
    · left
      have i1 : (i : Int) < (n : Int) := by omega
      have ws := wrap_succ i (by omega)
      obtain ⟨k, g1, a1, _, T1, m1⟩ := mkey QG
      obtain ⟨s, g2, a2, b2, T2, m2⟩ := mbyte T1.ms
      obtain ⟨o, g3, a3, b3, T3, m3⟩ := mbyte T2.ms
      obtain ⟨l, g4, a4, b4, T4, m4⟩ := mint T3.ms
      obtain ⟨t, g5, a5, b5, T5, m5⟩ := mint T4.ms
      obtain ⟨d, g6, a6, b6, T6, m6⟩ := mbyte T5.ms
      obtain ⟨u, g7, a7, b7, T7, m7⟩ := mint T6.ms
      obtain ⟨g, g8, a8, T8, m8⟩ := mbit T7.ms
      have S : Step N q r cardP si ⟨k.1, k.2, s, o, l, t, d, u, g⟩ G g8 := by
        refine step_end T8.ms ?_ ((((((((T1.only.trans T2.only).trans T3.only).trans T4.only).trans T5.only).trans T6.only).trans T7.only)).trans T8.only)
        unfold cardP Pr.map
        rw [T1.bind, T2.bind, T3.bind, T4.bind, T5.bind, T6.bind, T7.bind, T8.bind]
      have r1 := T1.ms.ptr; have r2 := T2.ms.ptr; have r3 := T3.ms.ptr; have r4 := T4.ms.ptr; have r5 := T5.ms.ptr; have r6 := T6.ms.ptr
      have O8 : OwnC out g8 h.next xs := S.only.own O (by omega) (by omega)
      have ob : ∀ b, slBlk out = some b → h.next ≤ b := fun b hb => (O.blk b hb).1
      have hg : h.next ≤ g8.next := by have := S.only.next; have := OG.next; omega
      obtain ⟨out', H, ap, O9, K⟩ := El.Own.snoc (bytes := 88) (zero := zCd) O8 ⟨k.1, k.2, s, o, l, t, d, u, g⟩ hg (by omega) (by omega)
      rw [cdE_f] at ap
      refine ⟨[.ptr q 0, out', .int .i64 n, .int .i64 ((i + 1 : Nat) : Int)], H, ?_, m - 1, by omega, i + 1, left (si.bind cardP), xs ++ [⟨k.1, k.2, s, o, l, t, d, u, g⟩], out', by omega,
        S.ms.row hN ob hg K, O9, by simp [hx], ?_, (OG.trans S.only).row (fun b hb => by have := ob b hb; omega) K, rep_step S c eq, rfl⟩
      · have q1 : aCells 1 (.bool g) = some [.bool g] := rfl
        simp only [L79_0, List.getD_cons_zero, List.getD_cons_succ, bin_lss, Option.bind_some, i1, decide_true, cond_bool, cond_true, a1, fill_cons, fill_nil, aCells_agg, aCells_int, aCells_bool, ble_dec, decide_true, spl_s, spl_z, spl_c, reps_one,
          List.length_cons, List.length_nil, Nat.zero_add, Nat.reduceAdd, Nat.le_refl, Nat.reduceLeDiff, nilchk_ptr, faddr_ptr, load_ptr, r1, r2, r3, r4, r5, r6, from_one, a2, a3, a4, a5, a6, a7, a8, rdL_z, rdL_t, rdL_s, Option.map_some, from_agg, ap, bin_add, ws,
          cp_cons, pairOk_some, ↓reduceIte, lookLog_cons, logRd_ptr, stays_rd, beqO_same, checkPairs_nil, Bool.and_true, if_true, if_false, Nat.reduceEqDiff]
      · intro x hx
        rcases List.mem_append.1 hx with hx | hx
        · exact wf x hx
        · rw [List.mem_singleton] at hx
          subst hx
          exact ⟨i64_nat b2, i64_nat b3, b4, b5, i64_nat b6, b7⟩
    · right
      have hi' : i = n := by omega
      subst hi'
      refine ⟨0, [out], G, by simp [L79_0], xs, out, G, rfl, O, hx, wf, rep_end QG OG eq⟩
  obtain ⟨_, e2, xs, sc, H, rfl, O, hx, wf, T⟩ := key
  have r0 := Q.ptr
  refine ⟨xs, sc, H, ?_, O, by omega, wf, step_then S1 T⟩
  rw [c79]
  simp [S79, r0, e1, e2]
theorem mkeys (Q : MS N q r h st) : ∃ (xs : List Ky) (sc : AVal) (h' : Heap), E tbl 80 [.ptr q 0] h = some (sc, h') ∧ OwnK sc h' h.next xs ∧ xs.length ≤ 255 ∧ Step N q r keysP st xs h h' := by
  obtain ⟨hN, hq, hr⟩ := Q.hN
  obtain ⟨n, h1, e1, hn, S1, n1⟩ := mbyte Q
  have key : ∃ res, loop (L80_0 (E tbl)) [.ptr q 0, .nilSlice, .int .i64 n, .int .i64 0] h1 = some res ∧ ∃ xs sc H, res = (1, [sc], H) ∧ OwnK sc H h.next xs ∧ xs.length = n ∧ Step N q r (keyP.rep n) (left (st.bind byteP)) xs h1 H := by
    refine loop_ok (fun m ys G => ∃ (i : Nat) (si : Option (List UInt8)) (xs : List Ky) (out : AVal), i + m = n ∧ MS N q r G si ∧ OwnK out G h.next xs ∧ xs.length = i ∧ Only2 q r h1 G ∧
        (left (st.bind byteP)).bind (keyP.rep n) = (si.bind (keyP.rep (n - i))).map (fun z => (xs ++ z.1, z.2)) ∧ ys = [.ptr q 0, out, .int .i64 n, .int .i64 i]) _ ?_ n _ _
      ⟨0, left (st.bind byteP), [], .nilSlice, by omega, S1.ms, Own.nil _ _ _, rfl, Only2.refl _ _ _, by simp, rfl⟩
    rintro m ys G ⟨i, si, xs, out, hi, QG, O, hx, OG, eq, rfl⟩
    by_cases c : i < n
    · left
      have i1 : (i : Int) < (n : Int) := by omega
      have ws := wrap_succ i (by omega)
      obtain ⟨k, g8, a1, _, S, m1⟩ := mkey QG
      have O8 : OwnK out g8 h.next xs := S.only.own O (by omega) (by omega)
      have ob : ∀ b, slBlk out = some b → h.next ≤ b := fun b hb => (O.blk b hb).1
      have hg : h.next ≤ g8.next := by have := S.only.next; have := OG.next; omega
      obtain ⟨out', H, ap, O9, K⟩ := El.Own.snoc (bytes := 32) (zero := [.str [], .str []]) O8 k hg (by omega) (by omega)
      rw [kyE_f] at ap
      refine ⟨[.ptr q 0, out', .int .i64 n, .int .i64 ((i + 1 : Nat) : Int)], H, ?_, m - 1, by omega, i + 1, left (si.bind keyP), xs ++ [k], out', by omega,
        S.ms.row hN ob hg K, O9, by simp [hx], (OG.trans S.only).row (fun b hb => by have := ob b hb; omega) K, rep_step S c eq, rfl⟩
      simp [L80_0, i1, a1, ap, aFill, aCells, AVal.cells?, splice, reps, ws]
    · right
      have hi' : i = n := by omega
      subst hi'
      refine ⟨0, [out], G, by simp [L80_0], xs, out, G, rfl, O, hx, rep_end QG OG eq⟩
  obtain ⟨_, e2, xs, sc, H, rfl, O, hx, T⟩ := key
  have r0 := Q.ptr
  refine ⟨xs, sc, H, ?_, O, by omega, step_then S1 T⟩
  rw [c80]
  simp [S80, r0, e1, e2]
end
end Go.Proofs.YtjibfbphiemljaaGreatDoor.Code
