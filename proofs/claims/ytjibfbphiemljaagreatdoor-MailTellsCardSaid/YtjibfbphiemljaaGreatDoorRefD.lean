/- YtjibfbphiemljaaGreatDoorRefD -/
import Derived.Test.YtjibfbphiemljaaGreatDoorRefC
set_option linter.unusedSimpArgs false
set_option linter.unusedVariables false
namespace Go.Proofs.YtjibfbphiemljaaGreatDoor.Code
open Go.Fw
theorem repT_step {α : Type} {N r : Nat} {p : Pr α} {st0 st : Option (List UInt8)} {xs : List α} {x : α} {h h' : Heap} {m : Nat} {w : Option (List α × List UInt8)} (S : StepT N r p st x h h')
    (e : w = (st.bind (p.rep (m + 1))).map fun z => (xs ++ z.1, z.2)) : w = ((left (st.bind p)).bind (p.rep m)).map fun z => ((xs ++ [x]) ++ z.1, z.2) := by
  rw [e, Pr.rep, S.bind]
  cases left (st.bind p) with
  | none => rfl
  | some l =>
    show ((p.rep m l).bind _).map _ = (p.rep m l).map _
    cases p.rep m l with
    | none => rfl
    | some z => simp [Pr.ret]
theorem repT_end {α : Type} {N r : Nat} {p : Pr α} {st0 st : Option (List UInt8)} {xs : List α} {h h' : Heap} {n m : Nat} (ms : MT N r h' st) (o : Only r h h') (hm : m = 0 ∨ st = none)
    (e : st0.bind (p.rep n) = (st.bind (p.rep m)).map fun z => (xs ++ z.1, z.2)) : StepT N r (p.rep n) st0 xs h h' := by
  refine stepT_end ms ?_ o
  rw [e]
  cases st with
  | none => rfl
  | some l =>
    rcases hm with rfl | hm
    · simp [Pr.rep, Pr.ret]
    · cases hm
theorem MT.row {N r : Nat} {h G G' : Heap} {st' : Option (List UInt8)} {out out' : AVal} (Q : MT N r G st') (hN : N ≤ h.next) (ob : ∀ b, slBlk out = some b → h.next ≤ b) (hn : h.next ≤ G.next) (K : Kept G out G' out') : MT N r G' st' :=
  Q.mono K.next fun b hb => K.old b (by omega) fun e => by have := ob b e; omega
theorem Only.ownE {α : Type} {es : Nat} {E : El α es} {r : Nat} {G G' : Heap} {out : AVal} {n0 : Nat} {xs : List α} (O : Only r G G') (S : E.Own out G n0 xs) (hr : r < n0) : E.Own out G' n0 xs :=
  Fw.Own.kept S O.next fun b hb => O.old b (S.blk b hb).2 (by have := (S.blk b hb).1; omega)
theorem pk_t (a b : AVal) : aPick (.bool true) a b = some a := rfl
theorem pk_f (a b : AVal) : aPick (.bool false) a b = some b := rfl
theorem nsub (m : Nat) (h : m < 4611686018427387904) : IntKind.i64.wrap (((m + 1 : Nat) : Int) - 1) = (m : Int) := by rw [IntWalk.i64_in _ (by omega)]; omega
section
variable {N r : Nat} {h : Heap} {st : Option (List UInt8)}
theorem tcards (Q : MT N r h st) : ∃ (xs : List Cd) (sc : AVal) (h' : Heap), E tbl 85 [.ptr r 0] h = some (sc, h') ∧ OwnC sc h' h.next xs ∧ xs.length ≤ 255 ∧ (∀ c ∈ xs, c.a.length ≤ 255 ∧ c.i.length ≤ 255) ∧ StepT N r cardsP st xs h h' := by
  obtain ⟨hN, hr⟩ := Q.hN
  obtain ⟨n, h1, e1, hn, S1, n1⟩ := tbyte Q
  have key : ∃ res, loop (L85_0 (E tbl)) [.ptr r 0, .nilSlice, .int .i64 n] h1 = some res ∧ ∃ xs sc H, res = (1, [sc], H) ∧ OwnC sc H h.next xs ∧ xs.length ≤ n ∧ (∀ c ∈ xs, c.a.length ≤ 255 ∧ c.i.length ≤ 255) ∧ StepT N r (cardP.rep n) (left (st.bind byteP)) xs h1 H := by
    refine loop_ok (fun m ys G => ∃ (si : Option (List UInt8)) (xs : List Cd) (out : AVal), m + xs.length = n ∧ MT N r G si ∧ OwnC out G h.next xs ∧ (∀ c ∈ xs, c.a.length ≤ 255 ∧ c.i.length ≤ 255) ∧ Only r h1 G ∧
        (left (st.bind byteP)).bind (cardP.rep n) = (si.bind (cardP.rep m)).map (fun z => (xs ++ z.1, z.2)) ∧ ys = [.ptr r 0, out, .int .i64 m]) _ ?_ n _ _
      ⟨left (st.bind byteP), [], .nilSlice, by simp, S1.ms, Own.nil _ _ _, by simp, Only.refl _ _, by simp, rfl⟩
    rintro m ys G ⟨si, xs, out, hm, QG, O, wf, OG, eq, rfl⟩
    have fv := QG.fellV
    by_cases c : 0 < m ∧ si.isNone = false
    · left
      obtain ⟨m, rfl⟩ : ∃ k, m = k + 1 := ⟨m - 1, by omega⟩
      have i1 : decide (((m + 1 : Nat) : Int) > 0) = true := decide_eq_true (by omega)
      have ws := nsub m (by omega)
      obtain ⟨k, g1, a1, kl, T1, m1⟩ := tkey QG
      obtain ⟨s, g2, a2, b2, T2, m2⟩ := tbyte T1.ms
      obtain ⟨o, g3, a3, b3, T3, m3⟩ := tbyte T2.ms
      obtain ⟨l, g4, a4, b4, T4, m4⟩ := tint T3.ms
      obtain ⟨t, g5, a5, b5, T5, m5⟩ := tint T4.ms
      obtain ⟨d, g6, a6, b6, T6, m6⟩ := tbyte T5.ms
      obtain ⟨u, g7, a7, b7, T7, m7⟩ := tint T6.ms
      obtain ⟨g, g8, a8, T8, m8⟩ := tbit T7.ms
      have S : StepT N r cardP si ⟨k.1, k.2, s, o, l, t, d, u, g⟩ G g8 := by
        refine stepT_end T8.ms ?_ ((((((((T1.only.trans T2.only).trans T3.only).trans T4.only).trans T5.only).trans T6.only).trans T7.only)).trans T8.only)
        unfold cardP Pr.map
        rw [T1.bind, T2.bind, T3.bind, T4.bind, T5.bind, T6.bind, T7.bind, T8.bind]
      have O8 : OwnC out g8 h.next xs := Only.ownE S.only O (by omega)
      have ob : ∀ b, slBlk out = some b → h.next ≤ b := fun b hb => (O.blk b hb).1
      have hg : h.next ≤ g8.next := by have := S.only.next; have := OG.next; omega
      obtain ⟨out', H, ap, O9, K⟩ := El.Own.snoc (bytes := 88) (zero := zCd) O8 ⟨k.1, k.2, s, o, l, t, d, u, g⟩ hg (by omega) (by omega)
      rw [cdE_f] at ap
      refine ⟨[.ptr r 0, out', .int .i64 m], H, ?_, m, by omega, left (si.bind cardP), xs ++ [⟨k.1, k.2, s, o, l, t, d, u, g⟩], out', by simp; omega,
        S.ms.row hN ob hg K, O9, ?_, (OG.trans S.only).row (fun b hb => by have := ob b hb; omega) K, repT_step (st0 := si) S eq, rfl⟩
      · have fv' := fv
        rw [c.2] at fv'
        simp only [L85_0, i1, pk_t, fv', a1, a2, a3, a4, a5, a6, a7, a8, ap, ws, bin_sub, List.getD_cons_zero, List.getD_cons_succ, Option.bind_some, cond_bool, cond_true, fill_cons, fill_nil, aCells_agg, aCells_int, aCells_bool, ble_dec, decide_true, spl_s, spl_z, spl_c, reps_one, List.length_cons, List.length_nil, Nat.zero_add, Nat.reduceAdd, Nat.le_refl, Nat.reduceLeDiff, nilchk_ptr, faddr_ptr, load_ptr, from_one, rdL_z, rdL_t, Option.map_some, from_agg, bin_gtr, un_not, g_and, Bool.not_false]
      · intro x hx
        rcases List.mem_append.1 hx with hx | hx
        · exact wf x hx
        · rw [List.mem_singleton] at hx
          subst hx
          exact kl
    · right
      refine ⟨0, [out], G, ?_, xs, out, G, rfl, O, by omega, wf, repT_end QG OG (by
        by_cases h0 : 0 < m
        · right
          cases si with
          | none => rfl
          | some l => exact (c ⟨h0, rfl⟩).elim
        · left; omega) eq⟩
      by_cases h0 : 0 < m
      · have i1 : decide ((m : Int) > 0) = true := decide_eq_true (by omega)
        have hs : si.isNone = true := by
          cases hq : si.isNone with
          | true => rfl
          | false => exact (c ⟨h0, hq⟩).elim
        rw [hs] at fv
        simp only [L85_0, i1, pk_t, fv, List.getD_cons_zero, List.getD_cons_succ, Option.bind_some, cond_bool, cond_true, cond_false, fill_cons, fill_nil, ble_dec, decide_true, reps_one, List.length_cons, List.length_nil, Nat.zero_add, Nat.reduceAdd, Nat.le_refl, Nat.reduceLeDiff, nilchk_ptr, faddr_ptr, load_ptr, from_one, from_agg, bin_gtr, un_not, g_and, Bool.not_true]
      · have i1 : decide ((m : Int) > 0) = false := decide_eq_false (by omega)
        have gf : ∀ (a b : Option J), guardV (.bool false) true a b = b := fun _ _ => rfl
        have pf : ∀ (a b : AVal), aPick (.bool false) a b = some b := fun _ _ => rfl
        simp only [L85_0, i1, gf, pf, List.getD_cons_zero, List.getD_cons_succ, Option.bind_some, cond_bool, cond_true, cond_false, fill_cons, fill_nil, ble_dec, decide_true, reps_one, List.length_cons, List.length_nil, Nat.zero_add, Nat.reduceAdd, Nat.le_refl, Nat.reduceLeDiff, nilchk_ptr, faddr_ptr, load_ptr, from_agg, bin_gtr]
  obtain ⟨_, e2, xs, sc, H, rfl, O, hx, wf, T⟩ := key
  refine ⟨xs, sc, H, ?_, O, by omega, wf, stepT_then S1 T⟩
  rw [c85]
  simp [S85, e1, e2]
theorem tkeys_loop (Q : MT N r h st) (n : Nat) (hn : n ≤ 255) (k : Int) : ∃ (xs : List Ky) (sc : AVal) (h' : Heap), loop (L62_0 (E tbl)) [.ptr r 0, .int .i64 n, .agg zMs, .agg ((noM k).cells .nilSlice .nilSlice)] h = some (1, [.ptr r 0, .agg zMs, .agg (({ noM k with keys := xs } : Ms).cells .nilSlice sc)], h') ∧
    OwnK sc h' h.next xs ∧ xs.length ≤ 255 ∧ (∀ c ∈ xs, c.1.length ≤ 255 ∧ c.2.length ≤ 255) ∧ StepT N r (keyP.rep n) st xs h h' := by
  obtain ⟨hN, hr⟩ := Q.hN
  have key : ∃ res, loop (L62_0 (E tbl)) [.ptr r 0, .int .i64 n, .agg zMs, .agg ((noM k).cells .nilSlice .nilSlice)] h = some res ∧ ∃ xs sc H, res = (1, [.ptr r 0, .agg zMs, .agg (({ noM k with keys := xs } : Ms).cells .nilSlice sc)], H) ∧ OwnK sc H h.next xs ∧ xs.length ≤ n ∧ (∀ c ∈ xs, c.1.length ≤ 255 ∧ c.2.length ≤ 255) ∧ StepT N r (keyP.rep n) st xs h H := by
    refine loop_ok (fun m ys G => ∃ (si : Option (List UInt8)) (xs : List Ky) (out : AVal), m + xs.length = n ∧ MT N r G si ∧ OwnK out G h.next xs ∧ (∀ c ∈ xs, c.1.length ≤ 255 ∧ c.2.length ≤ 255) ∧ Only r h G ∧
        st.bind (keyP.rep n) = (si.bind (keyP.rep m)).map (fun z => (xs ++ z.1, z.2)) ∧ ys = [.ptr r 0, .int .i64 m, .agg zMs, .agg (({ noM k with keys := xs } : Ms).cells .nilSlice out)]) _ ?_ n _ _
      ⟨st, [], .nilSlice, by simp, Q, Own.nil _ _ _, by simp, Only.refl _ _, by simp, rfl⟩
    rintro m ys G ⟨si, xs, out, hm, QG, O, wf, OG, eq, rfl⟩
    have fv := QG.fellV
    by_cases c : 0 < m ∧ si.isNone = false
    · left
      obtain ⟨m, rfl⟩ : ∃ k, m = k + 1 := ⟨m - 1, by omega⟩
      have i1 : decide (((m + 1 : Nat) : Int) > 0) = true := decide_eq_true (by omega)
      have ws := nsub m (by omega)
      obtain ⟨ky, g8, a1, kl, S, m1⟩ := tkey QG
      have O8 : OwnK out g8 h.next xs := Only.ownE S.only O (by omega)
      have ob : ∀ b, slBlk out = some b → h.next ≤ b := fun b hb => (O.blk b hb).1
      have hg : h.next ≤ g8.next := by have := S.only.next; have := OG.next; omega
      obtain ⟨out', H, ap, O9, K⟩ := El.Own.snoc (bytes := 32) (zero := [.str [], .str []]) O8 ky hg (by omega) (by omega)
      rw [kyE_f] at ap
      have oc := own_cell O9
      refine ⟨[.ptr r 0, .int .i64 m, .agg zMs, .agg (({ noM k with keys := xs ++ [ky] } : Ms).cells .nilSlice out')], H, ?_, m, by omega, left (si.bind keyP), xs ++ [ky], out', by simp; omega,
        S.ms.row hN ob hg K, O9, ?_, (OG.trans S.only).row (fun b hb => by have := ob b hb; omega) K, repT_step (st0 := si) S eq, rfl⟩
      · have fv' := fv
        rw [c.2] at fv'
        simp only [L62_0, i1, pk_t, fv', a1, ap, oc, ws, bin_sub, Ms.cells, noM, stays_lrd, lrd_al, lookB_if, List.getD_cons_zero, List.getD_cons_succ, Option.bind_some, cond_bool, cond_true, fill_cons, fill_nil, aCells_agg, ble_dec, decide_true, spl_s, spl_z, spl_c, reps_one, List.length_cons, List.length_nil, Nat.zero_add, Nat.reduceAdd, Nat.le_refl, nilchk_ptr, faddr_ptr, load_ptr, from_one, rdL_z, rdL_t, rdL_s, Option.map_some, bin_gtr, aggCells_agg, cp_cons, pairOk_some, ↓reduceIte, lookLog_cons, beqO_same, checkPairs_nil, Bool.and_self, Nat.reduceEqDiff, un_not, g_and, Bool.not_false]
      · intro x hx
        rcases List.mem_append.1 hx with hx | hx
        · exact wf x hx
        · rw [List.mem_singleton] at hx
          subst hx
          exact kl
    · right
      refine ⟨0, _, G, ?_, xs, out, G, rfl, O, by omega, wf, repT_end QG OG (by
        by_cases h0 : 0 < m
        · right
          cases si with
          | none => rfl
          | some l => exact (c ⟨h0, rfl⟩).elim
        · left; omega) eq⟩
      by_cases h0 : 0 < m
      · have i1 : decide ((m : Int) > 0) = true := decide_eq_true (by omega)
        have hs : si.isNone = true := by
          cases hq : si.isNone with
          | true => rfl
          | false => exact (c ⟨h0, hq⟩).elim
        rw [hs] at fv
        simp only [L62_0, i1, pk_t, fv, List.getD_cons_zero, List.getD_cons_succ, Option.bind_some, cond_bool, cond_true, cond_false, fill_cons, fill_nil, ble_dec, decide_true, spl_s, reps_one, List.length_cons, List.length_nil, Nat.zero_add, Nat.reduceAdd, Nat.le_refl, nilchk_ptr, faddr_ptr, load_ptr, from_one, rdL_z, rdL_t, rdL_s, Option.map_some, bin_gtr, aggCells_agg, cp_cons, pairOk_some, ↓reduceIte, lookLog_cons, checkPairs_nil, Bool.and_true, Nat.reduceEqDiff, un_not, g_and, Bool.not_true]
      · have i1 : decide ((m : Int) > 0) = false := decide_eq_false (by omega)
        have gf : ∀ (a b : Option J), guardV (.bool false) true a b = b := fun _ _ => rfl
        have pf : ∀ (a b : AVal), aPick (.bool false) a b = some b := fun _ _ => rfl
        simp only [L62_0, i1, gf, pf, List.getD_cons_zero, List.getD_cons_succ, Option.bind_some, cond_bool, cond_true, cond_false, fill_cons, fill_nil, ble_dec, decide_true, spl_s, reps_one, List.length_cons, List.length_nil, Nat.zero_add, Nat.reduceAdd, Nat.le_refl, nilchk_ptr, faddr_ptr, load_ptr, from_one, rdL_z, rdL_t, rdL_s, Option.map_some, bin_gtr, aggCells_agg, cp_cons, pairOk_some, ↓reduceIte, lookLog_cons, checkPairs_nil, Bool.and_true, Nat.reduceEqDiff]
  obtain ⟨_, e2, xs, sc, H, rfl, O, hx, wf, T⟩ := key
  exact ⟨xs, sc, H, e2, O, by omega, wf, T⟩
end
theorem room_sub {a : AVal} {h : Heap} {l : List UInt8} (S : Go.Fw.Bs a h l) (R : El.Room a) : Sub a h l := by
  obtain ⟨hl, ⟨rfl, h0⟩ | ⟨b, off, cap, ex, rfl, h2, h3⟩⟩ := S
  · exact .inl ⟨rfl, by simpa using h0⟩
  · exact .inr ⟨b, off, cap, ex, rfl, R _ _ _ _ _ _ rfl, h2, by simpa using h3⟩
theorem bs_cell {a : AVal} {h : Heap} {l : List UInt8} (S : Go.Fw.Bs a h l) : aCells 1 a = some [a] := by
  obtain ⟨_, ⟨rfl, _⟩ | ⟨b, off, cap, ex, rfl, _⟩⟩ := S <;> rfl
theorem tdone {N r : Nat} {h : Heap} {st : Option (List UInt8)} (Q : MT N r h st) : E tbl 86 [.ptr r 0] h = some (.bool (decide (st = some [])), h) := by
  obtain ⟨l, b, Q, rfl⟩ := Q
  rw [(done_eq Q.rd).2]
  cases b with
  | true => simp
  | false =>
    have : decide (l.length = 0) = decide (l = []) := by rw [Bool.eq_iff_iff]; simp
    simp [this]
def TxSz (m : Ms) : Prop := (m.ka.length ≤ 255 ∧ m.ki.length ≤ 255) ∧ (∀ c ∈ m.cards, c.a.length ≤ 255 ∧ c.i.length ≤ 255) ∧ ∀ k ∈ m.keys, k.1.length ≤ 255 ∧ k.2.length ≤ 255
theorem TxSz.sz {m : Ms} (T : TxSz m) : m.Sz := by
  obtain ⟨h1, h2, h3⟩ := T
  exact ⟨⟨by simp only; omega, by simp only; omega⟩, fun c hc => ⟨by have := h2 c hc; omega, by have := h2 c hc; omega⟩, fun c hc => ⟨by have := h3 c hc; omega, by have := h3 c hc; omega⟩⟩
theorem noM_tx (k : Int) : TxSz (noM k) := by simp [TxSz, noM]
theorem tsum {N r : Nat} {h : Heap} {st : Option (List UInt8)} (Q : MT N r h st) : ∃ (n : Int) (h1 h2 : Heap) (b : Bool), E tbl 82 [.ptr r 0] h = some (.int .i64 n, h1) ∧ h1.rd r 1 1 = some [.bool b] ∧ h1.wr r 1 [.bool (b || decide (n < 0) || decide (n > 4294967295))] = some h2 ∧ StepT N r sumP st (IntKind.u32.wrap n) h h2 ∧ h2.next = h.next := by
  obtain ⟨n, h1, e1, hn, S1, n1⟩ := tint Q
  have r1 := S1.ms.fellV
  obtain ⟨l, bad, Q1, el⟩ := S1.ms
  obtain ⟨h2, w1, Q2, O2, n2⟩ := Q1.fell (bad || decide (n < 0) || decide (n > 4294967295))
  have hb0 : (left (st.bind intP)).isNone = bad := by rw [el]; cases bad <;> rfl
  rw [hb0] at r1
  refine ⟨n, h1, h2, bad, e1, r1, w1, ⟨⟨l, _, Q2, ?_⟩, ?_, S1.only.trans O2⟩, n2.trans n1⟩
  · unfold sumP
    rw [S1.bind, el]
    by_cases hg : n < 0 ∨ 4294967295 < n
    · have : (bad || decide (n < 0) || decide (n > 4294967295)) = true := by
        rcases hg with hg | hg
        · simp [hg]
        · simp [hg]
      rw [this]
      cases bad <;> simp [left, hg]
    · have : (bad || decide (n < 0) || decide (n > 4294967295)) = bad := by
        have h1 : decide (n < 0) = false := decide_eq_false (by omega)
        have h2 : decide (n > 4294967295) = false := decide_eq_false (by omega)
        rw [h1, h2]; simp
      rw [this]
      cases bad <;> simp [left, hg]
  · intro z hz
    unfold sumP at hz
    rw [S1.bind, el] at hz
    cases bad with
    | true => cases hz
    | false =>
      by_cases hg : n < 0 ∨ 4294967295 < n
      · simp [hg] at hz
      · simp [hg] at hz
        subst hz
        show n = _
        rw [IntWalk.u32_in _ (by omega)]
theorem read6 {a : AVal} {h : Heap} {l : List UInt8} (S : Go.Fw.Bs a h l) (Rm : El.Room a) : ∃ m sc sk ok H, E tbl 62 [a] h = some (.tuple [.agg (m.cells sc sk), .bool ok], H) ∧ Went h H ∧ MsAt H m sc sk ∧ TxSz m ∧ (m.cards.length ≤ 255 ∧ m.keys.length ≤ 255) ∧
    (ok = true → msgP l = some (m, [])) ∧ (ok = false → ∀ m', msgP l ≠ some (m', [])) := by
  have ac := bs_cell S
  obtain ⟨r, hr⟩ : ∃ r, r = h.next := ⟨_, rfl⟩
  have Q0 : MT (r + 1) r (h.alloc [a, .bool false]) (some l) := by
    refine ⟨l, false, ⟨by rw [hr]; simp, by omega, ⟨by rw [hr]; simp, a, by rw [hr]; exact alloc_same _ _, (room_sub S Rm).mono (by simp) fun b hb => alloc_old _ _ (by have := (room_sub S Rm).blk b hb; omega), fun e => by have := (room_sub S Rm).blk _ e; omega⟩, ?_⟩, rfl⟩
    intro s x hs c hc
    rw [hr, alloc_same] at hs
    simp only [Option.some.injEq, Blk.mk.injEq, List.cons.injEq] at hs
    obtain ⟨⟨rfl, _⟩, _⟩ := hs
    have := (room_sub S Rm).blk c hc
    omega
  obtain ⟨k, h1, e1, hk, S1, n1⟩ := tbyte Q0
  have went : ∀ {G : Heap}, Only r (h.alloc [a, .bool false]) G → Went h G := fun O => ⟨by have := O.next; simp at this; omega, fun b hb => by rw [O.old b (by simp; omega) (by omega), alloc_old _ _ (by omega)]⟩
  have done : ∀ {m : Ms} {G : Heap} {st : Option (List UInt8)}, (some l).bind msgP = st.bind (Pr.ret m) → MT (r + 1) r G st → (decide (st = some []) = true → msgP l = some (m, [])) ∧ (decide (st = some []) = false → ∀ m', msgP l ≠ some (m', [])) := by
    intro m G st e Q
    have e' : msgP l = st.bind (Pr.ret m) := e
    constructor
    · intro hd
      rw [decide_eq_true_eq] at hd
      rw [e', hd]
      rfl
    · intro hd m' hm
      rw [decide_eq_false_iff_not] at hd
      rw [e'] at hm
      cases st with
      | none => cases hm
      | some l' => cases hm; exact hd rfl
  have fin : ∀ {m : Ms} {sc sk : AVal} {G : Heap} {st : Option (List UInt8)}, (some l).bind msgP = st.bind (Pr.ret m) → MT (r + 1) r G st → Only r (h.alloc [a, .bool false]) G → E tbl 62 [a] h = some (.tuple [.agg (m.cells sc sk), .bool (decide (st = some []))], G) → MsAt G m sc sk → TxSz m → (m.cards.length ≤ 255 ∧ m.keys.length ≤ 255) →
      ∃ m sc sk ok H, E tbl 62 [a] h = some (.tuple [.agg (m.cells sc sk), .bool ok], H) ∧ Went h H ∧ MsAt H m sc sk ∧ TxSz m ∧ (m.cards.length ≤ 255 ∧ m.keys.length ≤ 255) ∧ (ok = true → msgP l = some (m, [])) ∧ (ok = false → ∀ m', msgP l ≠ some (m', [])) := by
    intro m sc sk G st e Q O ee A T L
    exact ⟨m, sc, sk, _, G, ee, went O, A, T, L, done e Q⟩
  rw [hr] at e1
  by_cases k1 : k = 1
  · have b1 : ((k : Int) == 1) = true := by simp [k1]
    obtain ⟨tag, g2, a2, b2, T2, _⟩ := tint S1.ms
    obtain ⟨op, g3, a3, b3, T3, _⟩ := tbyte T2.ms
    obtain ⟨key, g4, a4, b4, T4, _⟩ := tkey T3.ms
    obtain ⟨n, g5, a5, b5, T5, _⟩ := tint T4.ms
    obtain ⟨sta, g6, a6, b6, T6, _⟩ := tbyte T5.ms
    obtain ⟨seq, g7, a7, b7, T7, _⟩ := tint T6.ms
    have dn := tdone T7.ms
    refine fin (m := { noM k with tag := tag, op := op, ka := key.1, ki := key.2, n := n, st := sta, seq := seq }) (sc := .nilSlice) (sk := .nilSlice) ?_ T7.ms ((((((S1.only.trans T2.only).trans T3.only).trans T4.only).trans T5.only).trans T6.only).trans T7.only) ?_ ⟨srcC_nil _, srcK_nil _⟩ ⟨b4, by simp [noM], by simp [noM]⟩ (by simp [noM])
    · unfold msgP
      rw [S1.bind]
      subst k1
      show (left ((some l).bind byteP)).bind askP = _
      unfold askP Pr.map
      rw [T2.bind, T3.bind, T4.bind, T5.bind, T6.bind, T7.bind]
      rfl
    · rw [hr] at a2 a3 a4 a5 a6 a7 dn
      rw [c62]
      simp only [S62, pk_t, ac, List.getD_cons_zero, List.getD_cons_succ, Option.bind_some, cond_bool, cond_true, fill_cons, fill_nil, aCells_agg, aCells_int, cellsQ_agg, ble_dec, decide_true, spl_s, spl_z, spl_c, List.length_cons, List.length_nil, Nat.zero_add, Nat.reduceAdd, Nat.le_refl, Nat.reduceLeDiff, nilchk_ptr, faddr_ptr, load_ptr, from_one, rdL_z, rdL_t, Option.map_some, from_agg, bin_eql, aggCells_agg, nat_beq0, ans_one, cp_cons, pairOk_some, ↓reduceIte, lookLog_cons, beqO_same, checkPairs_nil, Bool.and_true, Nat.reduceEqDiff, oneOr_two, g_or, e1, b1, a2, a3, a4, a5, a6, a7, dn, Ms.cells, noM, stays_lrd, lookB_if]
  · have b1 : ((k : Int) == 1) = false := by simp only [beq_eq_false_iff_ne, ne_eq]; omega
    by_cases k2 : k = 2
    · have b1' : ((k : Int) == 2) = true := by simp [k2]
      obtain ⟨tag, g2, a2, b2, T2, _⟩ := tint S1.ms
      obtain ⟨op, g3, a3, b3, T3, _⟩ := tbyte T2.ms
      obtain ⟨key, g4, a4, b4, T4, _⟩ := tkey T3.ms
      obtain ⟨code, g5, a5, b5, T5, _⟩ := tbyte T4.ms
      obtain ⟨full, g6, a6, T6, _⟩ := tbit T5.ms
      obtain ⟨seq, g7, a7, b7, T7, _⟩ := tint T6.ms
      obtain ⟨sum, g8, g8', bs, a8, r8, w8, T8, _⟩ := tsum T7.ms
      obtain ⟨cs, sc, g9, a9, O9, l9, f9, T9⟩ := tcards T8.ms
      have o9 := own_cell O9
      have dn := tdone T9.ms
      refine fin (m := { noM k with tag := tag, op := op, ka := key.1, ki := key.2, code := code, full := full, seq := seq, sum := IntKind.u32.wrap sum, cards := cs }) (sc := sc) (sk := .nilSlice) ?_ T9.ms ((((((((S1.only.trans T2.only).trans T3.only).trans T4.only).trans T5.only).trans T6.only).trans T7.only).trans T8.only).trans T9.only) ?_ ⟨O9.src, srcK_nil _⟩ ⟨b4, f9, by simp [noM]⟩ ⟨l9, by simp [noM]⟩
      · unfold msgP
        rw [S1.bind]
        subst k2
        show (left ((some l).bind byteP)).bind ansP = _
        unfold ansP Pr.map
        rw [T2.bind, T3.bind, T4.bind, T5.bind, T6.bind, T7.bind, T8.bind, T9.bind]
        rfl
      · rw [hr] at a2 a3 a4 a5 a6 a7 a8 r8 w8 a9 dn
        rw [c62]
        simp only [S62, pk_f, ac, store_ptr, List.getD_cons_zero, List.getD_cons_succ, Option.bind_some, cond_bool, cond_true, cond_false, fill_cons, fill_nil, aCells_agg, aCells_int, aCells_bool, cellsQ_agg, ble_dec, decide_true, spl_s, spl_z, spl_c, List.length_cons, List.length_nil, Nat.zero_add, Nat.reduceAdd, Nat.le_refl, Nat.reduceLeDiff, nilchk_ptr, faddr_ptr, load_ptr, from_one, rdL_z, rdL_t, Option.map_some, from_agg, bin_eql, bin_lss, bin_gtr, conv_int, aggCells_agg, nat_beq0, ans_one, cp_cons, pairOk_some, ↓reduceIte, lookLog_cons, beqO_same, checkPairs_nil, Bool.and_true, Nat.reduceEqDiff, oneOr_two, g_or, p_or, e1, b1, b1', a2, a3, a4, a5, a6, a7, a8, r8, w8, a9, o9, dn, Ms.cells, noM, stays_lrd, lookB_if]
    · have b2 : ((k : Int) == 2) = false := by simp only [beq_eq_false_iff_ne, ne_eq]; omega
      by_cases k3 : k = 3 ∨ k = 4
      · obtain ⟨cs, sc, g9, a9, O9, l9, f9, T9⟩ := tcards S1.ms
        have o9 := own_cell O9
        have dn := tdone T9.ms
        refine fin (m := { noM k with cards := cs }) (sc := sc) (sk := .nilSlice) ?_ T9.ms (S1.only.trans T9.only) ?_ ⟨O9.src, srcK_nil _⟩ ⟨by simp [noM], f9, by simp [noM]⟩ ⟨l9, by simp [noM]⟩
        · unfold msgP
          rw [S1.bind]
          have : bodyP k = cardsP.map fun cards => { noM k with cards := cards } := by
            unfold bodyP; rw [if_neg k1, if_neg k2, if_pos k3]
          rw [this]
          unfold Pr.map
          rw [T9.bind]
        · rw [hr] at a9 dn
          rw [c62]
          by_cases k3' : k = 3
          · have b3 : ((k : Int) == 3) = true := by simp [k3']
            simp only [S62, pff, ac, List.getD_cons_zero, List.getD_cons_succ, Option.bind_some, cond_bool, cond_true, cond_false, fill_cons, fill_nil, aCells_agg, aCells_int, cellsQ_agg, ble_dec, decide_true, spl_s, spl_z, spl_c, List.length_cons, List.length_nil, Nat.zero_add, Nat.reduceAdd, Nat.le_refl, Nat.reduceLeDiff, nilchk_ptr, faddr_ptr, load_ptr, from_one, rdL_z, rdL_t, Option.map_some, from_agg, bin_eql, aggCells_agg, nat_beq0, ans_one, cp_cons, pairOk_some, ↓reduceIte, lookLog_cons, beqO_same, checkPairs_nil, Bool.and_true, Nat.reduceEqDiff, oneOr_two, g_or, e1, b1, b2, b3, a9, o9, dn, Ms.cells, noM, stays_lrd, lookB_if]
          · have b3 : ((k : Int) == 3) = false := by simp only [beq_eq_false_iff_ne, ne_eq]; omega
            have b4 : ((k : Int) == 4) = true := by simp; omega
            simp only [S62, pff, ac, List.getD_cons_zero, List.getD_cons_succ, Option.bind_some, cond_bool, cond_true, cond_false, fill_cons, fill_nil, aCells_agg, aCells_int, cellsQ_agg, ble_dec, decide_true, spl_s, spl_z, spl_c, List.length_cons, List.length_nil, Nat.zero_add, Nat.reduceAdd, Nat.le_refl, Nat.reduceLeDiff, nilchk_ptr, faddr_ptr, load_ptr, from_one, rdL_z, rdL_t, Option.map_some, from_agg, bin_eql, aggCells_agg, nat_beq0, ans_one, cp_cons, pairOk_some, ↓reduceIte, lookLog_cons, beqO_same, checkPairs_nil, Bool.and_true, Nat.reduceEqDiff, oneOr_two, g_or, e1, b1, b2, b3, b4, a9, o9, dn, Ms.cells, noM, stays_lrd, lookB_if]
      · have b3 : ((k : Int) == 3) = false := by simp only [beq_eq_false_iff_ne, ne_eq]; omega
        have b4 : ((k : Int) == 4) = false := by simp only [beq_eq_false_iff_ne, ne_eq]; omega
        by_cases k5 : k = 5
        · have b5 : ((k : Int) == 5) = true := by simp [k5]
          obtain ⟨n, g8, a8, hn8, T8, _⟩ := tbyte S1.ms
          obtain ⟨cs, sc, g9, a9, O9, l9, f9, T9⟩ := tkeys_loop T8.ms n hn8 (k : Int)
          have o9 := own_cell O9
          have dn := tdone T9.ms
          refine fin (m := { noM k with keys := cs }) (sc := .nilSlice) (sk := sc) ?_ T9.ms ((S1.only.trans T8.only).trans T9.only) ?_ ⟨srcC_nil _, O9.src⟩ ⟨by simp [noM], by simp [noM], f9⟩ ⟨by simp [noM], l9⟩
          · unfold msgP
            rw [S1.bind]
            have : bodyP k = keysP.map fun keys => { noM k with keys := keys } := by
              unfold bodyP; rw [if_neg k1, if_neg k2, if_neg k3, if_pos k5]
            rw [this]
            unfold Pr.map
            rw [(stepT_then T8 T9).bind (p := keysP)]
            unfold keysP
            rw [T8.bind]
          · rw [hr] at a8 a9 dn
            simp only [Ms.cells, noM] at a9
            rw [c62]
            simp only [S62, pff, ac, List.getD_cons_zero, List.getD_cons_succ, Option.bind_some, cond_bool, cond_true, cond_false, fill_cons, fill_nil, aCells_agg, aCells_int, cellsQ_agg, ble_dec, decide_true, spl_s, spl_z, spl_c, List.length_cons, List.length_nil, Nat.zero_add, Nat.reduceAdd, Nat.le_refl, Nat.reduceLeDiff, nilchk_ptr, faddr_ptr, load_ptr, from_one, rdL_z, rdL_t, Option.map_some, from_agg, bin_eql, aggCells_agg, nat_beq0, nat_beq11, ans_one, cp_cons, pairOk_some, ↓reduceIte, lookLog_cons, beqO_same, checkPairs_nil, Bool.and_true, Nat.reduceEqDiff, oneOr_two, g_or, e1, b1, b2, b3, b4, b5, a8, a9, dn, Ms.cells, noM, stays_lrd, lookB_if]
        · have b5 : ((k : Int) == 5) = false := by simp only [beq_eq_false_iff_ne, ne_eq]; omega
          have dn := tdone S1.ms
          refine fin (m := noM k) (sc := .nilSlice) (sk := .nilSlice) ?_ S1.ms S1.only ?_ (msAt_no k h1) (noM_tx k) (by simp [noM])
          · unfold msgP
            rw [S1.bind]
            have : bodyP k = Pr.ret (noM k) := by
              unfold bodyP; rw [if_neg k1, if_neg k2, if_neg k3, if_neg k5]
            rw [this]
          · rw [hr] at dn
            rw [c62]
            simp only [S62, pff, ac, List.getD_cons_zero, List.getD_cons_succ, Option.bind_some, cond_bool, cond_true, cond_false, fill_cons, fill_nil, aCells_agg, aCells_int, cellsQ_agg, ble_dec, decide_true, spl_s, spl_z, spl_c, List.length_cons, List.length_nil, Nat.zero_add, Nat.reduceAdd, Nat.le_refl, Nat.reduceLeDiff, nilchk_ptr, faddr_ptr, load_ptr, from_one, rdL_z, rdL_t, Option.map_some, from_agg, bin_eql, aggCells_agg, nat_beq0, nat_beq11, ans_one, cp_cons, pairOk_some, ↓reduceIte, lookLog_cons, beqO_same, checkPairs_nil, Bool.and_true, Nat.reduceEqDiff, oneOr_two, g_or, e1, b1, b2, b3, b4, b5, nat_beq10, dn, Ms.cells, noM, stays_lrd, lookB_if]
theorem read6_ok {a : AVal} {h : Heap} {l : List UInt8} (S : Go.Fw.Bs a h l) (Rm : El.Room a) : ∃ m sc sk t k H, E tbl 28 [a] h = some (.tuple [.agg (m.cells sc sk), .str t, .int .i64 k], H) ∧ Went h H ∧ MsAt H m sc sk ∧ (m.cards.length ≤ 255 ∧ m.keys.length ≤ 255) ∧
    (∀ m', readM l = .inl m' → m = m' ∧ t = [] ∧ k = 0) ∧ (∀ p, readM l = .inr p → m = noM 0 ∧ t = p.1 ∧ k = p.2) := by
  obtain ⟨m, sc, sk, ok, H, e1, W1, A1, T1, L1, y1, n1⟩ := read6 S Rm
  cases ok with
  | false =>
    have hr : readM l = .inr (tBytes, 12) := by
      unfold readM
      cases hq : msgP l with
      | none => rfl
      | some z =>
        obtain ⟨x, r⟩ := z
        cases r with
        | cons c r => rfl
        | nil => exact (n1 rfl _ hq).elim
    refine ⟨noM 0, .nilSlice, .nilSlice, tBytes, 12, H, ?_, W1, msAt_no 0 H, by simp [noM], fun m' hm => (by rw [hr] at hm; cases hm), fun p hp => (by rw [hr] at hp; cases hp; exact ⟨rfl, rfl, rfl⟩)⟩
    rw [c28]
    simp only [S28, e1, Option.bind_some, cond_bool, cond_true, fill_nil, aCells_agg, ble_dec, decide_true, spl_z, spl_c, List.length_cons, List.length_nil, Nat.zero_add, Nat.reduceAdd, Nat.le_refl, rdL_z, rdL_t, Option.map_some, from_agg, ans_one, ext_0, ext_1, oneOr_two, un_not, Bool.not_false, Ms.cells, noM]
  | true =>
    have hm := y1 rfl
    have e2 := why6_ok A1 T1.sz
    by_cases hw : (whyM m).2 = 0
    · have hr : readM l = .inl m := by simp [readM, hm, hw]
      have hk : ((whyM m).2 != 0) = false := by simp [hw]
      refine ⟨m, sc, sk, [], 0, H, ?_, W1, A1, L1, fun m' h' => (by rw [hr] at h'; cases h'; exact ⟨rfl, rfl, rfl⟩), fun p hp => (by rw [hr] at hp; cases hp)⟩
      simp only [Ms.cells] at e2
      rw [c28]
      simp only [S28, e1, Option.bind_some, cond_bool, cond_true, cond_false, fill_nil, aCells_agg, ble_dec, decide_true, spl_z, spl_c, List.length_cons, List.length_nil, Nat.zero_add, Nat.reduceAdd, Nat.le_refl, rdL_z, rdL_t, Option.map_some, from_agg, bin_neq, ans_one, ext_0, ext_1, oneOr_two, un_not, Bool.not_true, Ms.cells, e2, hk]
    · have hr : readM l = .inr (whyM m) := by simp [readM, hm, hw]
      have hk : ((whyM m).2 != 0) = true := by simpa using hw
      refine ⟨noM 0, .nilSlice, .nilSlice, (whyM m).1, (whyM m).2, H, ?_, W1, msAt_no 0 H, by simp [noM], fun m' h' => (by rw [hr] at h'; cases h'), fun p hp => (by rw [hr] at hp; cases hp; exact ⟨rfl, rfl, rfl⟩)⟩
      simp only [Ms.cells] at e2
      rw [c28]
      simp only [S28, e1, Option.bind_some, cond_bool, cond_true, cond_false, fill_nil, aCells_agg, ble_dec, decide_true, spl_z, spl_c, List.length_cons, List.length_nil, Nat.zero_add, Nat.reduceAdd, Nat.le_refl, rdL_z, rdL_t, Option.map_some, from_agg, bin_neq, ans_one, ext_0, ext_1, oneOr_two, un_not, Bool.not_true, Ms.cells, noM, e2, hk]
end Go.Proofs.YtjibfbphiemljaaGreatDoor.Code
