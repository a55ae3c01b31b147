/- YtjibfbphiemljaaGreatDoorTape -/
import Derived.Test.YtjibfbphiemljaaGreatDoorMessage
set_option linter.unusedSimpArgs false
set_option linter.unusedVariables false
namespace Go.Proofs.YtjibfbphiemljaaGreatDoor.Code
open Go.Fw
theorem bwithin_ok : WithinOk (E tbl) 13 := by
  intro a lo hi h h0 h1 h2
  rw [c13]
  rw [show S13 = withinS from rfl, withinS_eq _ a lo hi (by omega) h1 (by omega)]
  rfl
theorem tnext_ok : NextOk (E tbl) 16 := by
  intro p s l h T n hn
  obtain ⟨r, h', e, x⟩ := tapeNext bwithin_ok T n hn
  refine ⟨r, h', ?_, x⟩
  rw [c16, show S16 = tapeNextS 13 from rfl, e]
  rfl
theorem tkey_ok : KeyOk (E tbl) 17 := by
  intro p s l h T
  obtain ⟨a, i, h', e, x⟩ := tapeKey tnext_ok T
  refine ⟨a, i, h', ?_, x⟩
  rw [c17, show S17 = tapeKeyS 16 from rfl, e]
  rfl
theorem tstamp_ok : StampOk (E tbl) 63 := by
  intro p s l h T
  obtain ⟨t, k, n, h', e, x⟩ := tapeStamp tnext_ok T
  refine ⟨t, k, n, h', ?_, x⟩
  rw [c63, show S63 = tapeStampS 16 from rfl, e]
  rfl
theorem tcard_ok : CardOk (E tbl) 33 := by
  intro p s l h T
  obtain ⟨a, i, st, o, le, t, k, n, g, h', e, x⟩ := tapeCard tnext_ok tkey_ok tstamp_ok T
  refine ⟨a, i, st, o, le, t, k, n, g, h', ?_, x⟩
  rw [c33, show S33 = tapeCardS 17 16 63 from rfl, e]
  rfl
theorem app_name : ∀ a ∈ keyApps, nameB a = true := by decide
theorem id_name : ∀ a ∈ keyIds, nameB a = true := by decide
theorem may_right {a i : List UInt8} {s o l t k n : Int} (g : Bool) (M : CardMay a i s o l t k n) : cardB ⟨a, i, s, o, l, t, k, n, g⟩ = true ∧ Cd.Wf ⟨a, i, s, o, l, t, k, n, g⟩ := by
  obtain ⟨m1, m2, m3, m4, m5, m6, m7, m8⟩ := M
  constructor
  · unfold cardB stampB
    simp [app_name a m1, id_name i m2]
    omega
  · unfold Cd.Wf I64
    simp only
    omega
theorem _root_.Go.Fw.Tape.row {p : Nat} {s : AVal} {ts : List Int} {h G G' : Heap} {out out' : AVal} (T : Fw.Tape p s ts h) (TG : Fw.Tape p s ts G) (ob : ∀ b, slBlk out = some b → h.next ≤ b) (K : Kept G out G' out') : Fw.Tape p s ts G' := by
  have hno : ∀ b, b < h.next → slBlk out ≠ some b := fun b hb e => by have := ob b e; omega
  refine ⟨Nat.lt_of_lt_of_le TG.lt K.next, ?_, TG.ints.mono fun b hb => K.old b (TG.ne b hb).1 (hno b (T.ne b hb).1), fun b hb => ⟨Nat.lt_of_lt_of_le (TG.ne b hb).1 K.next, (TG.ne b hb).2⟩, TG.sz⟩
  obtain ⟨q, hq, hb⟩ := TG.pos
  exact ⟨q, hq, by rw [K.old p TG.lt (hno p T.lt), hb]⟩
theorem _root_.Go.Fw.Only.row {p : Nat} {h G G' : Heap} {out out' : AVal} (O : Only p h G) (ob : ∀ b, slBlk out = some b → h.next ≤ b) (K : Kept G out G' out') : Only p h G' :=
  ⟨Nat.le_trans O.next K.next, fun b hb h1 => by rw [K.old b (Nat.lt_of_lt_of_le hb O.next) fun e => by have := ob b e; omega, O.old b hb h1]⟩
theorem tcards_ok {p : Nat} {s : AVal} {ts : List Int} {h : Heap} (T : Fw.Tape p s ts h) (most : Nat) (hm : most ≤ 1000) :
    ∃ o l H, E tbl 18 [.ptr p 0, .int .i64 most] h = some (o, H) ∧ OwnC o H h.next l ∧ l.length ≤ most ∧ (∀ c ∈ l, cardB c = true ∧ c.Wf) ∧ Fw.Tape p s ts H ∧ Only p h H := by
  obtain ⟨r, h1, e1, r0, r1, T1, O1, n1⟩ := tnext_ok T ((most : Int) + 1) (by omega)
  obtain ⟨n, rfl⟩ : ∃ n : Nat, r = (n : Int) := ⟨r.toNat, by omega⟩
  have w1 : IntKind.i64.wrap ((most : Int) + 1) = (most : Int) + 1 := IntWalk.i64_in _ (by omega)
  have key : ∃ res, loop (L18_0 (E tbl)) [.ptr p 0, .nilSlice, .int .i64 n] h1 = some res ∧ ∃ o l H, res = (1, [o], H) ∧ OwnC o H h.next l ∧ l.length ≤ most ∧ (∀ c ∈ l, cardB c = true ∧ c.Wf) ∧ Fw.Tape p s ts H ∧ Only p h H := by
    refine loop_ok (fun m xs G => ∃ (o : AVal) (l : List Cd), m + l.length ≤ most ∧ Fw.Tape p s ts G ∧ OwnC o G h.next l ∧ (∀ c ∈ l, cardB c = true ∧ c.Wf) ∧ Only p h G ∧ xs = [.ptr p 0, o, .int .i64 (m : Int)]) _ ?_ n _ _ ⟨.nilSlice, [], by simp; omega, T1, Own.nil _ _ _, by simp, O1, rfl⟩
    rintro m xs G ⟨o, l, hl, TG, OG, wf, Og, rfl⟩
    by_cases h0 : 0 < m
    · left
      obtain ⟨a, i, st, ov, le, t, k, nn, g, G1, e2, M, T2, O2⟩ := tcard_ok TG
      have hn := Og.next
      have hn2 := O2.next
      have hlt := T.lt
      have Oa : OwnC o G1 h.next l := Fw.Own.kept OG hn2 fun b hb => O2.old b (OG.blk b hb).2 (by have := (OG.blk b hb).1; omega)
      obtain ⟨o', G2, e3, O3, K⟩ := El.Own.snoc (bytes := 88) (zero := zCd) Oa ⟨a, i, st, ov, le, t, k, nn, g⟩ (by omega) (by omega) (by omega)
      rw [cdE_f] at e3
      have ob : ∀ b, slBlk o = some b → h.next ≤ b := fun b hb => (OG.blk b hb).1
      have wm : IntKind.i64.wrap ((m : Int) - 1) = ((m - 1 : Nat) : Int) := by rw [IntWalk.i64_in _ (by omega)]; omega
      refine ⟨_, G2, ?_, m - 1, by omega, o', l ++ [⟨a, i, st, ov, le, t, k, nn, g⟩], by simp; omega, T.row T2 ob K, O3, fun c hc => ?_, (Og.trans O2).row ob K, rfl⟩
      · simp [L18_0, h0, e2, e3, wm]
      · rcases List.mem_append.1 hc with hc | hc
        · exact wf c hc
        · rw [List.mem_singleton] at hc
          subst hc
          exact may_right g M
    · right
      obtain rfl : m = 0 := by omega
      exact ⟨0, _, G, by simp [L18_0], o, l, G, rfl, OG, by omega, wf, TG, Og⟩
  obtain ⟨_, e, o, l, H, rfl, a1, a2, a3, a4, a5⟩ := key
  refine ⟨o, l, H, ?_, a1, a2, a3, a4, a5⟩
  rw [c18]
  simp [S18, w1, e1, e, beq_dec]
theorem right_mk {m : Ms} (R : RightM m) : (whyM m).2 = 0 := by
  obtain ⟨a, b, c, d, e, f⟩ := R
  unfold whyM
  have h1 : ¬ (m.kind < 1 ∨ 5 < m.kind) := by omega
  have h4 : numB m = true := by simp [numB, d.1, d.2.1, d.2.2]
  have h5 : ¬ (64 < m.cards.length ∨ 64 < m.keys.length) := by omega
  have h6 : m.cards.all cardB = true := List.all_eq_true.2 f.1
  have h7 : m.keys.all keyB = true := List.all_eq_true.2 f.2
  simp [h1, b, c, h4, h5, h6, h7]
theorem int_at {h : Heap} {b : Nat} {L : List Int} {n : Nat} (hn : n = L.length) (hb : h.blk b = some ⟨L.map (.int .i64), true⟩) (i : Int) (h0 : 0 ≤ i) (h1 : i < n) :
    ∃ t, t ∈ L ∧ aIaddr 1 (.slice b 0 n n 1 true) (.int .i64 i) = some (.ptr b i.toNat) ∧ h.rd b i.toNat 1 = some [.int .i64 t] := by
  subst hn
  have hi : i.toNat < L.length := by omega
  refine ⟨L[i.toNat], List.getElem_mem hi, by simp [aIaddr, aIdx_of _ _ _ h0 h1], ?_⟩
  rw [rd_of hb _ _ (by simp; omega)]
  simp only [Option.some.injEq]
  rw [List.drop_eq_getElem_cons (by simp [hi])]
  simp
theorem w1p (r : Int) (h0 : 0 ≤ r) (h1 : r < 1000) : IntKind.i64.wrap (1 + r) = 1 + r := IntWalk.i64_in _ (by omega)
theorem nat_beq11 : Nat.beq 1 1 = true := rfl
theorem lrd_al (l off n b : Nat) : stays (.lrd l off n) (.al b) = true := rfl
structure MsgOk (p : Nat) (s : AVal) (ts : List Int) (h : Heap) (m : Ms) (sc sk : AVal) (H : Heap) : Prop where
  at' : MsAt H m sc sk
  right : (whyM m).2 = 0
  wf : m.Wf
  tape : Fw.Tape p s ts H
  only : Only p h H
theorem tmsg_ok {p : Nat} {s : AVal} {ts : List Int} {h : Heap} (T : Fw.Tape p s ts h) : ∃ m sc sk H, E tbl 6 [.ptr p 0] h = some (.agg (m.cells sc sk), H) ∧ MsgOk p s ts h m sc sk H := by
  obtain ⟨r1, h1, e1, a1, b1, T1, O1, n1⟩ := tnext_ok T 5 (by omega)
  have w1 := w1p r1 a1 (by omega)
  have u0 : U32 0 := by decide
  have i0 : I64 0 := by decide
  have b0 : Byt 0 := by decide
  have s0 : (-1 : Int) ≤ 0 := by decide
  by_cases k12 : r1 = 0 ∨ r1 = 1
  · obtain ⟨tag, h2, e2, a2, b2, T2, O2, n2⟩ := tnext_ok T1 9 (by omega)
    obtain ⟨r3, h3, e3, a3, b3, T3, O3, n3⟩ := tnext_ok T2 5 (by omega)
    have w3 := w1p r3 a3 (by omega)
    obtain ⟨ka, ki, h4, hkey, T4, O4, hcall⟩ : ∃ ka ki h4, (if 1 + r3 = 5 then ka = [] ∧ ki = [] else keyB (ka, ki) = true) ∧ Fw.Tape p s ts h4 ∧ Only p h3 h4 ∧ (if 1 + r3 = 5 then ka = [] ∧ ki = [] ∧ h4 = h3 else E tbl 17 [.ptr p 0] h3 = some (.agg [.str ka, .str ki], h4)) := by
      by_cases h5 : 1 + r3 = 5
      · exact ⟨[], [], h3, by rw [if_pos h5]; exact ⟨rfl, rfl⟩, T3, Only.refl _ _, by rw [if_pos h5]; exact ⟨rfl, rfl, rfl⟩⟩
      · obtain ⟨a, i, h4, e4, ma, mi, T4, O4, _⟩ := tkey_ok T3
        exact ⟨a, i, h4, by rw [if_neg h5]; unfold keyB; rw [app_name a ma, id_name i mi]; rfl, T4, O4, by rw [if_neg h5]; exact e4⟩
    obtain ⟨r5, h5, e5, a5, b5, T5, O5, n5⟩ := tnext_ok T4 30 (by omega)
    have w5 : IntKind.i64.wrap (r5 - 1) = r5 - 1 := IntWalk.i64_in _ (by omega)
    have O15 := (((O1.trans O2).trans O3).trans O4).trans O5
    have hop : ∀ (kind n st code sum : Int) (full : Bool) (cards : List Cd), kind = 1 ∨ kind = 2 → opB ⟨kind, 1 + r3, st, code, tag, n, r5 - 1, ka, ki, full, sum, cards, []⟩ = true := by
      intro kind n st code sum full cards hk
      unfold opB
      simp only [if_pos hk]
      by_cases h5 : 1 + r3 = 5
      · rw [if_pos h5] at hkey ⊢
        simp [hkey.1, hkey.2]
      · rw [if_neg h5] at hkey ⊢
        simp only [hkey, Bool.and_true, Bool.and_eq_true, decide_eq_true_eq]
        omega
    by_cases k1 : r1 = 0
    · subst k1
      obtain ⟨n, h6, e6, a6, b6, T6, O6, n6⟩ := tnext_ok T5 70 (by omega)
      obtain ⟨st, h7, e7, a7, b7, T7, O7, n7⟩ := tnext_ok T6 5 (by omega)
      refine ⟨⟨1, 1 + r3, st, 0, tag, n, r5 - 1, ka, ki, false, 0, [], []⟩, .nilSlice, .nilSlice, h7, ?_, ⟨srcC_nil _, srcK_nil _⟩, right_mk ⟨⟨by simp, by simp⟩, by simp [zeroB], hop _ _ _ _ _ _ _ (.inl rfl), ⟨b0, ⟨by simp only; omega, by simp only; omega⟩, by simp only; omega⟩, by simp, by simp⟩,
        ⟨(by show I64 1; decide), by unfold I64; simp only; omega, by unfold I64; simp only; omega, i0, by unfold I64; simp only; omega, by unfold I64; simp only; omega, by unfold I64; simp only; omega, u0, by simp⟩, T7, (O15.trans O6).trans O7⟩
      have q1 : ((1 + 0 : Int) == 1) = true := rfl
      rw [c6]
      by_cases h5 : 1 + r3 = 5
      · rw [if_pos h5] at hcall
        obtain ⟨rfl, rfl, rfl⟩ := hcall
        have q5 : ((1 + r3 : Int) != 5) = false := by simp [h5]
        simp only [S6, List.getD_cons_zero, List.getD_cons_succ, Option.bind_some, cond_bool, cond_true, cond_false, fill_cons, fill_nil, aCells_agg, aCells_int, ble_dec, decide_true, spl_s, spl_z, spl_c, List.length_cons, List.length_nil, Nat.zero_add, Nat.reduceAdd, Nat.le_refl, Nat.reduceLeDiff, from_one, rdL_z, rdL_t, rdL_s, Option.map_some, from_agg, bin_eql, bin_add, bin_sub, bin_neq, aggCells_agg, nat_beq0, oneOr_one, ans_one, cp_cons, ↓reduceIte, lookLog_cons, checkPairs_nil, Bool.and_true, Nat.reduceEqDiff, e1, w1, q1, e2, e3, w3, q5, e5, w5, e6, e7, Ms.cells]
        rfl
      · rw [if_neg h5] at hcall
        have q5 : ((1 + r3 : Int) != 5) = true := by simp [h5]
        simp only [S6, List.getD_cons_zero, List.getD_cons_succ, Option.bind_some, cond_bool, cond_true, fill_cons, fill_nil, aCells_agg, aCells_int, ble_dec, decide_true, spl_s, spl_z, spl_c, List.length_cons, List.length_nil, Nat.zero_add, Nat.reduceAdd, Nat.le_refl, Nat.reduceLeDiff, from_one, rdL_z, rdL_t, rdL_s, Option.map_some, from_agg, bin_eql, bin_add, bin_sub, bin_neq, aggCells_agg, nat_beq0, oneOr_one, ans_one, cp_cons, ↓reduceIte, lookLog_cons, checkPairs_nil, Bool.and_true, Nat.reduceEqDiff, e1, w1, q1, e2, e3, w3, q5, hcall, e5, w5, e6, e7, Ms.cells]
        rfl
    · have k2 : r1 = 1 := by omega
      subst k2
      have T5' : Fw.Tape p s ts (h5.res 1) := T5.mono (by simp [Heap.res_next]) fun _ _ => rfl
      have l5 := T5.lt
      have s5 : ∀ b, slBlk s = some b → b < h5.next := fun b hb => (T5.ne b hb).1
      have T6 := T5'.fill (h0 := h5) (b := h5.next) (Nat.le_refl _) l5 s5 (some ⟨([0, 1, 22, 24, 255] : List Int).map (.int .i64), true⟩)
      obtain ⟨r6, h6, e6, a6, b6, T7, O7, n7⟩ := tnext_ok T6 5 (by omega)
      have n7' : h6.next = h5.next + 1 := n7
      have hb6 : h6.blk h5.next = some ⟨([0, 1, 22, 24, 255] : List Int).map (.int .i64), true⟩ := by
        rw [O7.old _ (by show _ < h5.next + 1; omega) (by omega)]
        exact setBlk_same _ _ _
      obtain ⟨code, mc, q6, d6⟩ := int_at (n := 5) rfl hb6 r6 a6 b6
      obtain ⟨r8, h8, e8, a8, b8, T8, O8, n8⟩ := tnext_ok T7 2 (by omega)
      obtain ⟨sum, h9, e9, a9, b9, T9, O9, n9⟩ := tnext_ok T8 1073741824 (by omega)
      obtain ⟨sc, cards, H, e10, O10, l10, f10, T10, P10⟩ := tcards_ok T9 5 (by omega)
      have d8 : h8.rd h5.next r6.toNat 1 = some [.int .i64 code] := by rw [rd_blk (O8.old _ (by omega) (by omega)), d6]
      have d9 : h9.rd h5.next r6.toNat 1 = some [.int .i64 code] := by rw [rd_blk (O9.old _ (by omega) (by omega)), d8]
      have d10 : H.rd h5.next r6.toNat 1 = some [.int .i64 code] := by rw [rd_blk (P10.old _ (by omega) (by omega)), d9]
      have wu : IntKind.u32.wrap sum = sum := IntWalk.u32_in _ (by omega)
      have hcode : Byt code := by
        have : ∀ x ∈ ([0, 1, 22, 24, 255] : List Int), Byt x := by decide
        exact this code mc
      have O56 : Only p h5 h6 := ⟨by omega, fun b hb hp => by
        rw [O7.old b (by show _ < h5.next + 1; omega) hp, setBlk_ne _ _ (by omega)]
        rfl⟩
      have oc := own_cell O10
      refine ⟨⟨2, 1 + r3, 0, code, tag, 0, r5 - 1, ka, ki, r8 == 0, sum, cards, []⟩, sc, .nilSlice, H, ?_, ⟨O10.src, srcK_nil _⟩, right_mk ⟨⟨by simp, by simp⟩, by simp [zeroB], hop _ _ _ _ _ _ _ (.inr rfl), ⟨hcode, b0, by simp only; omega⟩, ⟨by simp only; omega, by simp⟩, ⟨fun c hc => (f10 c hc).1, by simp⟩⟩,
        ⟨(by show I64 2; decide), by unfold I64; simp only; omega, i0, by unfold I64; unfold Byt at hcode; simp only; omega, by unfold I64; simp only; omega, i0, by unfold I64; simp only; omega, by unfold U32; simp only; omega, fun c hc => (f10 c hc).2⟩, T10, (((O15.trans O56).trans O8).trans O9).trans P10⟩
      have q1 : ((1 + 1 : Int) == 1) = false := rfl
      have q2 : ((1 + 1 : Int) == 2) = true := rfl
      have fl : aFill (reps [.int .i64 0] 5) [(0, 1, (.int .i64 0)), (1, 1, (.int .i64 1)), (2, 1, (.int .i64 22)), (3, 1, (.int .i64 24)), (4, 1, (.int .i64 255))] = some (([0, 1, 22, 24, 255] : List Int).map (.int .i64)) := rfl
      have e10' : E tbl 18 [.ptr p 0, .int .i64 5] h9 = some (sc, H) := e10
      rw [c6]
      by_cases h5 : 1 + r3 = 5
      · rw [if_pos h5] at hcall
        obtain ⟨rfl, rfl, rfl⟩ := hcall
        have q5 : ((1 + r3 : Int) != 5) = false := by simp [h5]
        simp only [S6, fl, Nat.add_zero, List.getD_cons_zero, List.getD_cons_succ, Option.bind_some, cond_bool, cond_true, cond_false, fill_cons, fill_nil, aCells_agg, aCells_int, aCells_bool, ble_dec, decide_true, spl_s, spl_z, spl_c, List.length_cons, List.length_nil, Nat.zero_add, Nat.reduceAdd, Nat.le_refl, Nat.reduceLeDiff, load_ptr, from_one, rdL_z, rdL_t, rdL_s, Option.map_some, from_agg, bin_eql, bin_add, bin_sub, bin_neq, conv_int, aggCells_agg, nat_beq0, oneOr_one, ans_one, cp_cons, pairOk_some, ↓reduceIte, lookLog_cons, logRd_ptr, stays_rd, beqO_same, checkPairs_nil, Bool.and_true, Nat.reduceEqDiff, e1, w1, q1, q2, e2, e3, w3, q5, e5, w5, e6, q6, d6, e8, e9, wu, e10', oc, d8, d9, d10, Ms.cells]
        rfl
      · rw [if_neg h5] at hcall
        have q5 : ((1 + r3 : Int) != 5) = true := by simp [h5]
        simp only [S6, fl, Nat.add_zero, List.getD_cons_zero, List.getD_cons_succ, Option.bind_some, cond_bool, cond_true, cond_false, fill_cons, fill_nil, aCells_agg, aCells_int, aCells_bool, ble_dec, decide_true, spl_s, spl_z, spl_c, List.length_cons, List.length_nil, Nat.zero_add, Nat.reduceAdd, Nat.le_refl, Nat.reduceLeDiff, load_ptr, from_one, rdL_z, rdL_t, rdL_s, Option.map_some, from_agg, bin_eql, bin_add, bin_sub, bin_neq, conv_int, aggCells_agg, nat_beq0, oneOr_one, ans_one, cp_cons, pairOk_some, ↓reduceIte, lookLog_cons, logRd_ptr, stays_rd, beqO_same, checkPairs_nil, Bool.and_true, Nat.reduceEqDiff, e1, w1, q1, q2, e2, e3, w3, q5, hcall, e5, w5, e6, q6, d6, e8, e9, wu, e10', oc, d8, d9, d10, Ms.cells]
        rfl
  · have q1 : ((1 + r1 : Int) == 1) = false := by simp only [beq_eq_false_iff_ne, ne_eq]; omega
    have q2 : ((1 + r1 : Int) == 2) = false := by simp only [beq_eq_false_iff_ne, ne_eq]; omega
    by_cases k5 : r1 = 4
    · subst k5
      obtain ⟨r2, h2, e2, a2, b2, T2, O2, n2⟩ := tnext_ok T1 6 (by omega)
      obtain ⟨n, rfl⟩ : ∃ n : Nat, r2 = (n : Int) := ⟨r2.toNat, by omega⟩
      have hlt := T.lt
      have key : ∃ res, loop (L6_0 (E tbl)) [.ptr p 0, .int .i64 n, .agg zMs, .agg ((noM 5).cells .nilSlice .nilSlice)] h2 = some res ∧ ∃ o l H, res = (1, [.agg zMs, .agg (({ noM 5 with keys := l } : Ms).cells .nilSlice o)], H) ∧ OwnK o H h.next l ∧ l.length ≤ 5 ∧ (∀ k ∈ l, keyB k = true) ∧ Fw.Tape p s ts H ∧ Only p h H := by
        refine loop_ok (fun m xs G => ∃ (o : AVal) (l : List Ky), m + l.length ≤ 5 ∧ Fw.Tape p s ts G ∧ OwnK o G h.next l ∧ (∀ k ∈ l, keyB k = true) ∧ Only p h G ∧ xs = [.ptr p 0, .int .i64 (m : Int), .agg zMs, .agg (({ noM 5 with keys := l } : Ms).cells .nilSlice o)]) _ ?_ n _ _ ⟨.nilSlice, [], by simp; omega, T2, Own.nil _ _ _, by simp, O1.trans O2, rfl⟩
        rintro m xs G ⟨o, l, hl, TG, OG, wf, Og, rfl⟩
        by_cases h0 : 0 < m
        · left
          obtain ⟨a, i, G1, e3, ma, mi, T3, O3, n3⟩ := tkey_ok TG
          have hn := Og.next
          have hn2 := O3.next
          have Oa : OwnK o G1 h.next l := Fw.Own.kept OG hn2 fun b hb => O3.old b (OG.blk b hb).2 (by have := (OG.blk b hb).1; omega)
          obtain ⟨o', G2, e4, O4, K⟩ := El.Own.snoc (bytes := 32) (zero := [.str [], .str []]) Oa (a, i) (by omega) (by omega) (by omega)
          rw [kyE_f] at e4
          have ob : ∀ b, slBlk o = some b → h.next ≤ b := fun b hb => (OG.blk b hb).1
          have wm : IntKind.i64.wrap ((m : Int) - 1) = ((m - 1 : Nat) : Int) := by rw [IntWalk.i64_in _ (by omega)]; omega
          have gm : decide ((m : Int) > 0) = true := by simp; omega
          have oc := own_cell O4
          refine ⟨[.ptr p 0, .int .i64 ((m - 1 : Nat) : Int), .agg zMs, .agg (({ noM 5 with keys := l ++ [(a, i)] } : Ms).cells .nilSlice o')], G2, ?_, m - 1, by omega, o', l ++ [(a, i)], by simp; omega, T.row T3 ob K, O4, fun c hc => ?_, (Og.trans O3).row ob K, rfl⟩
          · simp only [L6_0, bin_gtr, gm, List.getD_cons_zero, List.getD_cons_succ, Option.bind_some, cond_bool, cond_true, fill_cons, fill_nil, aCells_agg, ble_dec, decide_true, spl_s, spl_z, spl_c, reps_one, List.length_cons, List.length_nil, Nat.zero_add, Nat.reduceAdd, Nat.le_refl, from_one, rdL_z, rdL_t, rdL_s, Option.map_some, bin_sub, aggCells_agg, cp_cons, pairOk_some, ↓reduceIte, lookLog_cons, beqO_same, checkPairs_nil, Bool.and_true, Nat.reduceEqDiff, Ms.cells, noM, e3, e4, oc, wm, stays_lrd, lrd_al, lookB_if]
          · rcases List.mem_append.1 hc with hc | hc
            · exact wf c hc
            · rw [List.mem_singleton] at hc
              subst hc
              unfold keyB
              rw [app_name a ma, id_name i mi]
              rfl
        · right
          obtain rfl : m = 0 := by omega
          exact ⟨0, _, G, by simp [L6_0], o, l, G, rfl, OG, by omega, wf, TG, Og⟩
      obtain ⟨_, e3, o, l, H, rfl, O3, l3, f3, T3, P3⟩ := key
      refine ⟨{ noM 5 with keys := l }, .nilSlice, o, H, ?_, ⟨srcC_nil _, O3.src⟩, right_mk ⟨⟨by simp [noM], by simp [noM]⟩, by simp [zeroB, noM], by simp [opB, noM], ⟨b0, b0, s0⟩, ⟨by simp [noM], by simp only; omega⟩, ⟨by simp [noM], f3⟩⟩, ⟨(by show I64 5; decide), i0, i0, i0, i0, i0, i0, u0, by simp [noM]⟩, T3, P3⟩
      have q1 : ((5 : Int) == 1) = false := rfl
      have q2 : ((5 : Int) == 2) = false := rfl
      have q5 : ((5 : Int) == 5) = true := rfl
      have w5 : (1 + 4 : Int) = 5 := rfl
      have w1 : IntKind.i64.wrap 5 = 5 := rfl
      simp only [Ms.cells, noM] at e3
      rw [c6]
      simp only [S6, List.getD_cons_zero, List.getD_cons_succ, Option.bind_some, cond_bool, cond_true, cond_false, fill_cons, fill_nil, aCells_agg, aCells_int, ble_dec, decide_true, spl_s, spl_z, spl_c, List.length_cons, List.length_nil, Nat.zero_add, Nat.reduceAdd, Nat.le_refl, Nat.reduceLeDiff, from_one, rdL_z, rdL_t, rdL_s, Option.map_some, from_agg, bin_eql, bin_add, aggCells_agg, nat_beq0, oneOr_one, ans_one, cp_cons, ↓reduceIte, lookLog_cons, checkPairs_nil, Bool.and_true, Nat.reduceEqDiff, e1, w1, q1, q2, q5, w5, e2, e3, Ms.cells, noM, nat_beq11]
    · have q5 : ((1 + r1 : Int) == 5) = false := by simp only [beq_eq_false_iff_ne, ne_eq]; omega
      obtain ⟨sc, cards, H, e2, O2, l2, f2, T2, P2⟩ := tcards_ok T1 6 (by omega)
      have e2' : E tbl 18 [.ptr p 0, .int .i64 6] h1 = some (sc, H) := e2
      have oc := own_cell O2
      refine ⟨{ noM (1 + r1) with cards := cards }, sc, .nilSlice, H, ?_, ⟨O2.src, srcK_nil _⟩, right_mk ⟨⟨by simp only [noM]; omega, by simp only [noM]; omega⟩, ?_, ?_, ⟨b0, b0, s0⟩, ⟨by simp only; omega, by simp [noM]⟩, ⟨fun c hc => (f2 c hc).1, by simp [noM]⟩⟩,
        ⟨by unfold I64; simp only [noM]; omega, i0, i0, i0, i0, i0, i0, u0, fun c hc => (f2 c hc).2⟩, T2, O1.trans P2⟩
      · rw [c6]
        simp only [S6, List.getD_cons_zero, List.getD_cons_succ, Option.bind_some, cond_bool, cond_true, cond_false, fill_cons, fill_nil, aCells_agg, aCells_int, ble_dec, decide_true, spl_s, spl_z, spl_c, List.length_cons, List.length_nil, Nat.zero_add, Nat.reduceAdd, Nat.le_refl, Nat.reduceLeDiff, from_one, rdL_z, rdL_t, rdL_s, Option.map_some, from_agg, bin_eql, bin_add, aggCells_agg, nat_beq0, oneOr_one, ans_one, cp_cons, ↓reduceIte, lookLog_cons, checkPairs_nil, Bool.and_true, Nat.reduceEqDiff, e1, w1, q1, q2, q5, e2', oc, Ms.cells, noM]
      · have h1 : ¬ (1 + r1 = 1) := by omega
        have h2 : ¬ (1 + r1 = 2) := by omega
        have h5 : ¬ (1 + r1 = 5) := by omega
        simp [zeroB, noM, h1, h2, h5]
      · have h1 : ¬ (1 + r1 = 1 ∨ 1 + r1 = 2) := by omega
        simp [opB, noM, h1]
end Go.Proofs.YtjibfbphiemljaaGreatDoor.Code
