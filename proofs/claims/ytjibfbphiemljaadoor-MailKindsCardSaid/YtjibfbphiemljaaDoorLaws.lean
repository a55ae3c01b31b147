/- Chapter 6: MailBack, MailOnce, MailKinds. -/
import Derived.Test.YtjibfbphiemljaaDoorKnown
namespace Go.Proofs.YtjibfbphiemljaaDoor.Code
set_option linter.unusedSimpArgs false
set_option linter.unusedVariables false
open Go.Fw

theorem bin_iface_refl (v : AVal) : True := trivial
theorem reps_z (z : List AVal) : reps z 0 = [] := rfl
theorem ints_cell {s : AVal} {h : Heap} {l : List Int} (I : Ints .i64 s h l) : aCells 1 s = some [s] := by
  obtain ⟨rfl, rfl⟩ | ⟨b, off, cap, ex, rfl, _⟩ := I <;> rfl
theorem Rep.up {h H : Heap} {e : Er} {v : AVal} (r : Rep h h.next e v) (W : Went h H) : Rep H H.next e v := (r.went (Nat.le_refl _) W).mono W.next (Nat.le_refl _) fun _ _ => rfl
theorem Only.went {h H : Heap} (O : Only h.next (h.alloc []) H) : True := trivial

theorem own_kept_only {p : Nat} {G H : Heap} {sc sk : AVal} {m : Ms} (A : MsAt G m sc sk) (O : Only p G H) (hp : ∀ b, (slBlk sc = some b ∨ slBlk sk = some b) → b ≠ p) : MsAt H m sc sk :=
  ⟨Fw.Src.kept A.cards O.next fun b hb => O.old b (Fw.Src.blk A.cards b hb) (hp b (.inl hb)), Fw.Src.kept A.keys O.next fun b hb => O.old b (Fw.Src.blk A.keys b hb) (hp b (.inr hb))⟩

/-- A new tape, and its first message. -/
theorem new_tape {h : Heap} {s : AVal} {l : List Int} (I : Ints .i64 s h l) (lt : ∀ b, slBlk s = some b → b < h.next) (hl : l.length * 8 ≤ 140737488355328) :
    ∃ m sc sk H, E tbl 6 [.ptr h.next 0] (h.alloc [s, .int .i64 0]) = some (.agg (m.cells sc sk), H) ∧ MsgOk h.next s l (h.alloc [s, .int .i64 0]) m sc sk H ∧ Went h H := by
  obtain ⟨m, sc, sk, H, e, K⟩ := tmsg_ok (Tape.make I lt (by omega))
  refine ⟨m, sc, sk, H, e, K, by have := K.only.next; simp at this; omega, fun b hb => ?_⟩
  rw [K.only.old b (by simp; omega) (by omega), alloc_old _ _ (by omega)]

theorem bytes_small (m : Ms) (R : RightM m) : (bytesM m).length ≤ 100000 := by
  have hk := keyBs_len (m.ka, m.ki)
  have hc : ∀ l : List Cd, (cardsBs l).length ≤ 600 * l.length + 1 := by
    intro l
    have : (l.map cardBs).flatten.length ≤ 600 * l.length := by
      induction l with
      | nil => simp
      | cons x l ih => have := cardBs_len x; simp only [List.map_cons, List.flatten_cons, List.length_append, List.length_cons]; omega
    unfold cardsBs
    rw [List.length_append]
    simp only [List.length_cons, List.length_nil]
    omega
  have hy : ∀ l : List Ky, (keysBs l).length ≤ 600 * l.length + 1 := by
    intro l
    have : (l.map keyBs).flatten.length ≤ 600 * l.length := by
      induction l with
      | nil => simp
      | cons x l ih => have := keyBs_len x; simp only [List.map_cons, List.flatten_cons, List.length_append, List.length_cons]; omega
    unfold keysBs
    rw [List.length_append]
    simp only [List.length_cons, List.length_nil]
    omega
  have h1 := hc m.cards
  have h2 := hy m.keys
  have h3 := R.len
  unfold bytesM bodyBs askBs ansBs
  split
  · simp only [List.length_append, be8_len, List.length_cons, List.length_nil]; omega
  · split
    · simp only [List.length_append, be8_len, List.length_cons, List.length_nil]; omega
    · split
      · simp only [List.length_append, List.length_cons, List.length_nil]; omega
      · simp only [List.length_append, List.length_cons, List.length_nil]; omega

theorem mailBackL {h : Heap} (R : Rdy h) {s : AVal} {l : List Int} (I : Ints .i64 s h l) (lt : ∀ b, slBlk s = some b → b < h.next) (_ : ∀ x ∈ l, (Lit.int .i64 x).wf = true) (hl : l.length * 8 ≤ 140737488355328) (_ : El.Room s) (cut : Int) (_ : (Lit.int .i64 cut).wf = true) :
    ∃ h', E tbl 3 [s, .int .i64 cut] h = some (.bool true, h') := by
  obtain ⟨m, sc, sk, H1, e1, K1, W1⟩ := new_tape I lt hl
  have RM := right_of K1.right
  have A1 := K1.at'
  obtain ⟨v2, x2, H2, e2, W2, _, y2, _⟩ := bytes_ok A1 K1.wf.sum
  obtain ⟨rfl, O2⟩ := y2 K1.right
  have small := bytes_small m RM
  obtain ⟨m3, sc3, sk3, x3, H3, e3, K3⟩ := read_ok O2.src (by omega)
  obtain ⟨rfl, rfl⟩ := K3.ok _ (read_back _ RM K1.wf)
  have hpos : 0 < (bytesM m3).length := by unfold bytesM; simp
  have ln : aLen false v2 = some (.int .i64 (bytesM m3).length) := Fw.Src.len O2.src
  have l0 : (((bytesM m3).length : Int) == 0) = false := by simp only [beq_eq_false_iff_ne, ne_eq]; omega
  have s4 := same6_ok K3.at' (A1.went (W2.trans K3.went)) (by have := RM.len; omega) (by have := RM.len; omega)
  rw [decide_eq_true rfl] at s4
  have w5 : IntKind.i64.wrap (((bytesM m3).length : Int) - 1) = ((bytesM m3).length : Int) - 1 := IntWalk.i64_in _ (by omega)
  have e5 := bwithin_ok cut 0 (((bytesM m3).length : Int) - 1) H3 (by omega) (by omega) (by omega)
  obtain ⟨q1, q2⟩ := within_in cut 0 (((bytesM m3).length : Int) - 1) (by omega)
  obtain ⟨k, hk⟩ : ∃ k : Nat, within cut 0 (((bytesM m3).length : Int) - 1) = (k : Int) := ⟨_, (Int.toNat_of_nonneg q1).symm⟩
  rw [hk] at e5 q2
  have B3 := K3.went.src O2.src
  obtain ⟨v6, e6, S6', _, _⟩ := Bs.pre B3 O2.room k (by omega)
  obtain ⟨m7, sc7, sk7, x7, H7, e7, K7⟩ := read_ok S6' (by rw [List.length_take]; omega)
  obtain ⟨rfl, _, R7⟩ := K7.no _ (read_cut _ RM K1.wf k (by omega))
  obtain ⟨v8, H8, e8, F8⟩ := Bs.again (K7.went.src B3) (by omega)
  obtain ⟨v9, H9, e9, F9⟩ := F8.byte (bU8 cut) (by omega)
  obtain ⟨m10, sc10, sk10, x10, H10, e10, K10⟩ := read_ok F9.bs (by rw [List.length_append]; simp; omega)
  obtain ⟨rfl, _, R10⟩ := K10.no _ (read_more _ RM K1.wf _)
  have W7 := F9.went.trans K10.went
  have R7' := R7.up W7
  have RR := R.went (((W1.trans W2).trans K3.went).trans (K7.went.trans W7))
  obtain ⟨H11, e11, W11⟩ := code_okW RR (Nat.le_refl _) R7'
  obtain ⟨H12, e12, W12⟩ := code_okW (RR.went W11) (Nat.le_refl _) (R10.up W11)
  obtain ⟨H13, e13, W13⟩ := known_ok ((RR.went W11).went W12)
  rw [codeI_two] at e11 e12
  obtain ⟨b7, rfl⟩ := R7.faultV
  obtain ⟨b10, rfl⟩ := R10.faultV
  have cv : IntKind.u8.wrap cut = ((bU8 cut).toNat : Int) := (bU8_int cut).symm
  have k12 : ((12 : Int) == 12) = true := rfl
  have gt : ∀ (a b : Option J), guardV (.bool true) true a b = a := fun _ _ => rfl
  have pt : ∀ (a b : AVal), aPick (.bool true) a b = some a := fun _ _ => rfl
  have gf : ∀ (a b : Option J), guardV (.bool false) false a b = a := fun _ _ => rfl
  have pf : ∀ (a b : AVal), aPick (.bool false) a b = some b := fun _ _ => rfl
  have ic := ints_cell I
  simp only [Ms.cells] at e1 e2 e3 s4 e7 e10
  refine ⟨H13, ?_⟩
  rw [c3]
  simp only [S3, gt, pt, gf, pf, List.getD_cons_zero, List.getD_cons_succ, Option.bind_some, cond_bool, cond_true, cond_false, fill_cons, fill_nil, aCells_agg, aCells_int, aCells_bool, cell_slice, cell_ptr, cell_str, cellsQ_agg, ble_dec, decide_true, spl_s, spl_z, spl_c, reps_one, List.length_cons, List.length_nil, Nat.zero_add, Nat.reduceAdd, Nat.le_refl, Nat.reduceLeDiff, nilchk_ptr, faddr_ptr, load_ptr, from_one, rdL_z, rdL_t, rdL_s, Option.map_some, from_agg, bin_eql, bin_add, bin_sub, bin_neq, conv_int, aggCells_agg, nat_beq0, oneOr_one, ans_one, cp_cons, pairOk_some, ↓reduceIte, lookLog_cons, logRd_ptr, stays_rd, beqO_same, checkPairs_nil, Bool.and_true, Bool.true_and, Bool.and_self, Bool.or_self, if_true, if_false, Nat.reduceEqDiff, ext_0, ext_1, oneOr_two, un_not, g_and, p_and, g_or, p_or, nn_eq, nn_ne, ni_eq, ni_ne, Bool.not_true, Bool.not_false, ic, e1, e2, e3, ln, l0, s4, w5, e5, e6, e7, reps_z, e8, cv, e9, e10, e11, e12, e13, k12]

theorem mailOnceL {h : Heap} (R : Rdy h) {s : AVal} {l : List Int} (I : Ints .i64 s h l) (lt : ∀ b, slBlk s = some b → b < h.next) (_ : ∀ x ∈ l, (Lit.int .i64 x).wf = true) (hl : l.length * 8 ≤ 140737488355328) (_ : El.Room s)
    {s' : AVal} {l' : List Int} (I' : Ints .i64 s' h l') (lt' : ∀ b, slBlk s' = some b → b < h.next) (_ : ∀ x ∈ l', (Lit.int .i64 x).wf = true) (hl' : l'.length * 8 ≤ 140737488355328) (_ : El.Room s') :
    ∃ h', E tbl 5 [s, s'] h = some (.bool true, h') := by
  obtain ⟨m, sc, sk, H1, e1, K1, W1⟩ := new_tape I lt hl
  have RM := right_of K1.right
  obtain ⟨m2, sc2, sk2, H2, e2, K2, W2⟩ := new_tape (I'.mono fun b hb => W1.old b (lt' b hb)) (fun b hb => Nat.lt_of_lt_of_le (lt' b hb) W1.next) hl'
  have RM2 := right_of K2.right
  have A1 := K1.at'.went W2
  obtain ⟨v3, x3, H3, e3, W3, _, y3, _⟩ := bytes_ok A1 K1.wf.sum
  obtain ⟨rfl, O3⟩ := y3 K1.right
  obtain ⟨v4, x4, H4, e4, W4, _, y4, _⟩ := bytes_ok (K2.at'.went W3) K2.wf.sum
  obtain ⟨rfl, O4⟩ := y4 K2.right
  have t3 := (W4.src O3.src).text
  have t4 := O4.src.text
  have s5 := same_ok (A1.went (W3.trans W4)) (K2.at'.went (W3.trans W4)) (by have := RM2.len; omega) (by have := RM2.len; omega)
  have RR := R.went (((W1.trans W2).trans W3).trans W4)
  obtain ⟨H6, e6, W6⟩ := known_ok RR
  have hb : (((bytesM m) == (bytesM m2)) == decide (m = m2)) = true := by
    have := bytes_once m m2 RM K1.wf RM2 K2.wf
    by_cases hm : m = m2
    · subst hm; simp
    · have hn : bytesM m ≠ bytesM m2 := fun h => hm (this.1 h)
      simp [hm, hn]
  have pb : ∀ {v : AVal} {G : Heap} {l : List UInt8}, Go.Fw.Bs v G l → ∀ β β', pairOk (logBs v) (some (.ef β G β' G)) = true := by
    intro v G l S β β'
    obtain ⟨_, ⟨rfl, _⟩ | ⟨b, off, cap, ex, rfl, _, a3⟩⟩ := S
    · rfl
    · have a3' : G.rd b off l.length = some (byteCells l) := by simpa using a3
      show beqO (G.rd b off l.length) (G.rd b off l.length) = true
      rw [a3', beqO_same]
  have pb3 := pb (W4.src O3.src)
  have pb4 := pb O4.src
  have gt : ∀ (a b : Option J), guardV (.bool true) true a b = a := fun _ _ => rfl
  have pt : ∀ (a b : AVal), aPick (.bool true) a b = some a := fun _ _ => rfl
  have ic := ints_cell I
  have ic' := ints_cell I'
  simp only [Ms.cells] at e1 e2 e3 e4 s5
  refine ⟨H6, ?_⟩
  rw [c5]
  simp only [S5, gt, pt, List.getD_cons_zero, List.getD_cons_succ, Option.bind_some, cond_bool, cond_true, cond_false, fill_cons, fill_nil, aCells_agg, aCells_int, aCells_bool, cell_slice, cell_ptr, cell_str, cellsQ_agg, ble_dec, decide_true, spl_s, spl_z, spl_c, reps_one, List.length_cons, List.length_nil, Nat.zero_add, Nat.reduceAdd, Nat.le_refl, Nat.reduceLeDiff, nilchk_ptr, faddr_ptr, load_ptr, from_one, rdL_z, rdL_t, rdL_s, Option.map_some, from_agg, bin_eql, bin_add, bin_sub, bin_neq, conv_int, aggCells_agg, nat_beq0, oneOr_one, ans_one, cp_cons, pairOk_some, ↓reduceIte, lookLog_cons, logRd_ptr, stays_rd, beqO_same, checkPairs_nil, Bool.and_true, Bool.true_and, Bool.and_self, Bool.or_self, if_true, if_false, Nat.reduceEqDiff, ext_0, ext_1, oneOr_two, un_not, g_and, p_and, g_or, p_or, nn_eq, nn_ne, ni_eq, ni_ne, Bool.not_true, Bool.not_false, ic, ic', e1, e2, e3, e4, t3, t4, bin_str_eql, s5, bin_bool_eql, hb, pb3, pb4, e6]

/-- MailKinds behind its card. -/
noncomputable def kindsT (call : Go.Fw.Call) (p : AVal) (cs : List AVal) (h : Heap) : Option J :=
 (call 14 [p, (.int .i64 3)] (h.res 1)).bind fun r20 =>
 (rdL cs 0 9).bind fun c21 =>
 (fromCells true c21).bind fun v22 =>
 (aFill (reps [.str [], .str [], .int .i64 0, .int .i64 0, .int .i64 0, .int .i64 0, .int .i64 0, .int .i64 0, .bool false] 1) [(0, 9, v22)]).bind fun c23 =>
 (aAppend 9 88 [.str [], .str [], .int .i64 0, .int .i64 0, .int .i64 0, .int .i64 0, .int .i64 0, .int .i64 0, .bool false] false r20.1 (.slice (h.next + 0) 0 1 1 9 true) (r20.2.setBlk (h.next + 0) (some ⟨c23, true⟩))).bind fun r24 =>
 bif checkPairs [(2, some (.lrd 6 (0) 9)), (1, some (.ef [(6, cs)] (h.res 1) [(6, cs)] r20.2))] [(2, 1)] then (aFill (reps [.int .i64 0] 2) [(0, 1, (.int .i64 3)), (1, 1, (.int .i64 4))]).bind fun c25 =>
 (aLen false (.slice r24.2.next 0 2 2 1 true)).bind fun v26 =>
 (loop (L4_0 call) [r24.1, (.slice r24.2.next 0 2 2 1 true), v26, (.int .i64 0)] (r24.2.alloc c25)).bind fun x42 =>
 bif Nat.beq x42.1 1 then (aFill [.str [], .str []] [(0, 1, (.str [97])), (1, 1, (.str [98]))]).bind fun c43 =>
 (aFill [.str [], .str []] [(0, 1, (.str [97]))]).bind fun c44 =>
 (aFill (reps [.str [], .str []] 2) [(0, 2, (.agg c43)), (2, 2, (.agg c44))]).bind fun c45 =>
 (aFill [.int .i64 0, .int .i64 0, .int .i64 0, .int .i64 0, .int .i64 0, .int .i64 0, .int .i64 0, .str [], .str [], .bool false, .int .u32 0, .nilSlice, .nilSlice] [(0, 1, (.int .i64 5)), (12, 1, (.slice x42.2.2.next 0 2 2 2 true))]).bind fun c46 =>
 (call 7 [(.agg c46)] (x42.2.2.alloc c45)).bind fun r47 =>
 (aExtract 0 r47.1).bind fun v48 =>
 (aExtract 1 r47.1).bind fun v49 =>
 (aFill [.int .i64 0, .int .i64 0, .int .i64 0, .int .i64 0, .int .i64 0, .int .i64 0, .int .i64 0, .str [], .str [], .bool false, .int .u32 0, .nilSlice, .nilSlice] [(0, 1, (.int .i64 5)), (11, 1, (x42.2.1.getD 0 .undef))]).bind fun c50 =>
 (call 7 [(.agg c50)] r47.2).bind fun r51 =>
 (aExtract 0 r51.1).bind fun v52 =>
 (aExtract 1 r51.1).bind fun v53 =>
 (call 15 [v49, (.str [119, 114, 105, 116, 101]), (.str [99, 97, 114, 100]), (.int .i64 1)] r51.2).bind fun r54 =>
 (guardV r54.1 true
 ((call 15 [v53, (.str [119, 114, 105, 116, 101]), (.str [122, 101, 114, 111]), (.int .i64 12)] r54.2).bind fun r55 =>
 some (0, [r55.1], r55.2))
 (some (0, [skipV], r54.2))).bind fun g56 =>
 (aPick r54.1 (g56.2.1.getD 0 .undef) (.bool false)).bind fun v57 =>
 (guardV v57 true
 ((call 12 [] g56.2.2).bind fun r58 =>
 some (0, [r58.1], r58.2))
 (some (0, [skipV], g56.2.2))).bind fun g59 =>
 (aPick v57 (g59.2.1.getD 0 .undef) (.bool false)).bind fun v60 =>
 some (0, [v60], g59.2.2) else
 bif Nat.beq x42.1 2 then some (0, [(x42.2.1.getD 0 .undef)], x42.2.2) else
 none else none

theorem why_push (k : Int) (hk : k = 3 ∨ k = 4) (l : List Cd) (hl : l.length ≤ 64) (hb : l.all cardB = false) : whyM { noM k with cards := l } = (tCard, 1) := by
  have h1 : ¬ (k < 1 ∨ 5 < k) := by omega
  have hz : zeroB { noM k with cards := l } = true := by
    rcases hk with rfl | rfl <;> simp [zeroB, noM]
  have ho : opB { noM k with cards := l } = true := by
    rcases hk with rfl | rfl <;> simp [opB, noM]
  have hn : numB { noM k with cards := l } = true := by simp [numB, noM, Byt]
  have h5 : ¬ (64 < l.length ∨ 64 < ([] : List Ky).length) := by simp; omega
  have h1' : ¬ (({ noM k with cards := l } : Ms).kind < 1 ∨ 5 < ({ noM k with cards := l } : Ms).kind) := h1
  have h5' : ¬ (64 < ({ noM k with cards := l } : Ms).cards.length ∨ 64 < ({ noM k with cards := l } : Ms).keys.length) := h5
  have hb' : ({ noM k with cards := l } : Ms).cards.all cardB = false ∨ ({ noM k with cards := l } : Ms).keys.all keyB = false := .inl hb
  unfold whyM
  rw [hz, ho, hn, if_neg h1', if_neg (by decide), if_neg (by decide), if_neg (by decide), if_neg h5', if_pos hb']
theorem why_pull (l : List Cd) (hl : l ≠ []) : whyM { noM 5 with cards := l } = (tZero, 12) := by
  have hz : zeroB { noM 5 with cards := l } = false := by simp [zeroB, noM, hl]
  unfold whyM
  rw [hz]
  rfl

theorem kindsT_ok {h : Heap} (R : Rdy h) {p : Nat} {s : AVal} {ts : List Int} (T : Fw.Tape p s ts h) {h0 : Heap} (Wp : h0.next ≤ p) (W0 : Went h0 h) (R0 : Rdy h0) (c : Cd) (hc : cardB c = false) : ∃ H, kindsT (E tbl) (.ptr p 0) c.cells h = some (0, [.bool true], H) := by
  have T1 : Fw.Tape p s ts (h.res 1) := T.mono (by simp [Heap.res_next]) fun _ _ => rfl
  obtain ⟨o, l, H1, e1, O1, l1, _, T2, P1⟩ := tcards_ok T1 3 (by omega)
  have hn : (h.res 1).next = h.next + 1 := rfl
  have hn1 := P1.next
  have e1' : E tbl 14 [.ptr p 0, .int .i64 3] (h.res 1) = some (o, H1) := e1
  have ob : ∀ b, slBlk o = some b → h.next + 1 ≤ b ∧ b < H1.next := fun b hb => O1.blk b hb
  obtain ⟨G, hG⟩ : ∃ G, G = H1.setBlk h.next (some ⟨c.cells, true⟩) := ⟨_, rfl⟩
  have hGn : G.next = H1.next := by rw [hG]; rfl
  have OG : OwnC o G (h.next + 1) l := Fw.Own.kept O1 (by omega) fun b hb => by rw [hG]; exact setBlk_ne _ _ (by have := ob b hb; omega)
  have SG : SrcC (.slice h.next 0 1 1 9 true) G [c] := ⟨by simp, .inr ⟨h.next, 0, 1, true, rfl, by omega, by rw [hG, rd_of (setBlk_same _ _ _) _ _ (by simp)]; simp⟩⟩
  obtain ⟨o2, H2, e2, O2, K2⟩ := El.Own.app (bytes := 88) (zero := zCd) OG SG (by omega) (by simp; omega) (by simp; omega)
  have hlen : (l ++ [c]).length ≤ 64 := by simp; omega
  have hall : (l ++ [c]).all cardB = false := by simp [hc]
  have hne : l ++ [c] ≠ [] := by simp
  generalize hL : l ++ [c] = L at *
  have WG : Went h0 H2 := by
    have h00 := W0.next
    refine ⟨by have := K2.next; omega, fun b hb => ?_⟩
    rw [K2.old b (by omega) (fun e => by have := ob b e; omega), hG, setBlk_ne _ _ (by omega), P1.old b (by omega) (by omega)]
    exact W0.old b hb
  have o1 := own_cell O2
  /- the kinds -/
  obtain ⟨q, hq⟩ : ∃ q, q = H2.next := ⟨_, rfl⟩
  have W3 := Went.alloc H2 [.int .i64 3, .int .i64 4]
  have step : ∀ (i : Nat) (k : Int), (i = 0 ∧ k = 3) ∨ (i = 1 ∧ k = 4) → ∀ F, Went H2 F → F.blk q = some ⟨[.int .i64 3, .int .i64 4], true⟩ → ∃ F', L4_0 (E tbl) [o2, .slice q 0 2 2 1 true, .int .i64 2, .int .i64 i] F = some (0, [o2, .slice q 0 2 2 1 true, .int .i64 2, .int .i64 ((i + 1 : Nat) : Int)], F') ∧ Went F F' := by
    intro i k hik F WF hF
    have A : MsAt F { noM k with cards := L } o2 .nilSlice := ⟨WF.src O2.src, srcK_nil F⟩
    have hk : k = 3 ∨ k = 4 := by omega
    obtain ⟨v, x, F1, f1, V1, X1, _, y1⟩ := bytes_ok A (by show U32 0; decide)
    have hw := why_push k hk L hlen hall
    obtain rfl := y1 (by rw [hw]; decide)
    rw [hw] at X1
    have RF : Rdy F1 := R0.went ((WG.trans WF).trans V1)
    obtain ⟨F2, f2, V2⟩ := why_ok RF (op0 := tWrite) (e := .fault tCard (.code 1)) X1 (by simp [pathOf]) tWrite tCard 1 (by decide)
    rw [codeI_two] at f2
    have p1 : (((1 : Int) == 1) && decide (pathOf (.fault tWrite (.fault tCard (.code 1))) = wantOf tWrite tCard)) = true := by decide
    rw [p1] at f2
    have ln : aLen false .nilSlice = some (.int .i64 0) := rfl
    have n0 : ((0 : Int) != 0) = false := rfl
    have gf : ∀ (a b : Option J), guardV (.bool false) false a b = a := fun _ _ => rfl
    have pff : ∀ (a b : AVal), aPick (.bool false) a b = some b := fun _ _ => rfl
    simp only [Ms.cells, noM] at f1
    refine ⟨F2, ?_, V1.trans V2⟩
    rcases hik with ⟨rfl, rfl⟩ | ⟨rfl, rfl⟩
    · have a1 : aIaddr 1 (.slice q 0 2 2 1 true) (.int .i64 ((0 : Nat) : Int)) = some (.ptr q 0) := rfl
      have a2 : F.rd q 0 1 = some [.int .i64 3] := by rw [rd_of hF _ _ (by simp)]; rfl
      have q1 : decide (((0 : Nat) : Int) < 2) = true := rfl
      have w1 : IntKind.i64.wrap (((0 : Nat) : Int) + 1) = ((0 + 1 : Nat) : Int) := rfl
      simp only [L4_0, gf, pff, bin_lss, q1, List.getD_cons_zero, List.getD_cons_succ, Option.bind_some, cond_bool, cond_true, cond_false, fill_cons, fill_nil, aCells_agg, aCells_int, aCells_bool, cell_slice, cell_ptr, cell_str, cellsQ_agg, ble_dec, decide_true, spl_s, spl_z, spl_c, reps_one, List.length_cons, List.length_nil, Nat.zero_add, Nat.reduceAdd, Nat.le_refl, Nat.reduceLeDiff, nilchk_ptr, faddr_ptr, load_ptr, from_one, rdL_z, rdL_t, rdL_s, Option.map_some, from_agg, bin_eql, bin_add, bin_sub, bin_neq, conv_int, aggCells_agg, nat_beq0, oneOr_one, ans_one, cp_cons, pairOk_some, ↓reduceIte, lookLog_cons, logRd_ptr, stays_rd, beqO_same, checkPairs_nil, Bool.and_true, Bool.true_and, Bool.and_self, Bool.or_self, if_true, if_false, Nat.reduceEqDiff, ext_0, ext_1, oneOr_two, un_not, g_and, p_and, g_or, p_or, nn_eq, nn_ne, ni_eq, ni_ne, Bool.not_true, Bool.not_false, a1, a2, o1, f1, ln, n0, f2, w1]
    · have a1 : aIaddr 1 (.slice q 0 2 2 1 true) (.int .i64 ((1 : Nat) : Int)) = some (.ptr q 1) := rfl
      have a2 : F.rd q 1 1 = some [.int .i64 4] := by rw [rd_of hF _ _ (by simp)]; rfl
      have q1 : decide (((1 : Nat) : Int) < 2) = true := rfl
      have w1 : IntKind.i64.wrap (((1 : Nat) : Int) + 1) = ((1 + 1 : Nat) : Int) := rfl
      simp only [L4_0, gf, pff, bin_lss, q1, List.getD_cons_zero, List.getD_cons_succ, Option.bind_some, cond_bool, cond_true, cond_false, fill_cons, fill_nil, aCells_agg, aCells_int, aCells_bool, cell_slice, cell_ptr, cell_str, cellsQ_agg, ble_dec, decide_true, spl_s, spl_z, spl_c, reps_one, List.length_cons, List.length_nil, Nat.zero_add, Nat.reduceAdd, Nat.le_refl, Nat.reduceLeDiff, nilchk_ptr, faddr_ptr, load_ptr, from_one, rdL_z, rdL_t, rdL_s, Option.map_some, from_agg, bin_eql, bin_add, bin_sub, bin_neq, conv_int, aggCells_agg, nat_beq0, oneOr_one, ans_one, cp_cons, pairOk_some, ↓reduceIte, lookLog_cons, logRd_ptr, stays_rd, beqO_same, checkPairs_nil, Bool.and_true, Bool.true_and, Bool.and_self, Bool.or_self, if_true, if_false, Nat.reduceEqDiff, ext_0, ext_1, oneOr_two, un_not, g_and, p_and, g_or, p_or, nn_eq, nn_ne, ni_eq, ni_ne, Bool.not_true, Bool.not_false, a1, a2, o1, f1, ln, n0, f2, w1]
  have hF0 : (H2.alloc [.int .i64 3, .int .i64 4]).blk q = some ⟨[.int .i64 3, .int .i64 4], true⟩ := by rw [hq]; exact alloc_same _ _
  obtain ⟨F1, s1, V1⟩ := step 0 3 (.inl ⟨rfl, rfl⟩) _ W3 hF0
  obtain ⟨F2, s2, V2⟩ := step 1 4 (.inr ⟨rfl, rfl⟩) F1 (W3.trans V1) (by rw [V1.old q (by rw [hq]; simp), hF0])
  have s3 : L4_0 (E tbl) [o2, .slice q 0 2 2 1 true, .int .i64 2, .int .i64 ((1 + 1 : Nat) : Int)] F2 = some (1, [o2], F2) := by
    have q1 : decide (((1 + 1 : Nat) : Int) < 2) = false := rfl
    simp only [L4_0, bin_lss, q1, List.getD_cons_zero, List.getD_cons_succ, Option.bind_some, cond_bool, cond_true, cond_false, fill_cons, fill_nil, aCells_agg, aCells_int, aCells_bool, cell_slice, cell_ptr, cell_str, cellsQ_agg, ble_dec, decide_true, spl_s, spl_z, spl_c, reps_one, List.length_cons, List.length_nil, Nat.zero_add, Nat.reduceAdd, Nat.le_refl, Nat.reduceLeDiff, nilchk_ptr, faddr_ptr, load_ptr, from_one, rdL_z, rdL_t, rdL_s, Option.map_some, from_agg, bin_eql, bin_add, bin_sub, bin_neq, conv_int, aggCells_agg, nat_beq0, oneOr_one, ans_one, cp_cons, pairOk_some, ↓reduceIte, lookLog_cons, logRd_ptr, stays_rd, beqO_same, checkPairs_nil, Bool.and_true, Bool.true_and, Bool.and_self, Bool.or_self, if_true, if_false, Nat.reduceEqDiff, ext_0, ext_1, oneOr_two, un_not, g_and, p_and, g_or, p_or, nn_eq, nn_ne, ni_eq, ni_ne, Bool.not_true, Bool.not_false]
  have lp : loop (L4_0 (E tbl)) [o2, .slice q 0 2 2 1 true, .int .i64 2, .int .i64 0] (H2.alloc [.int .i64 3, .int .i64 4]) = some (1, [o2], F2) := (loop_more s1).trans ((loop_more s2).trans (loop_done s3))
  have WF := (W3.trans V1).trans V2
  /- keys; cards of a Pull -/
  have W4 := Went.alloc F2 [.str [97], .str [98], .str [97], .str []]
  have Ak : MsAt (F2.alloc [.str [97], .str [98], .str [97], .str []]) { noM 5 with keys := [([97], [98]), ([97], [])] } .nilSlice (.slice F2.next 0 2 2 2 true) := ⟨srcC_nil _, (El.Own.lit (E := kyE) F2 [([97], [98]), ([97], [])] rfl true).src⟩
  obtain ⟨v5, x5, F5, e5, V5, X5, _, y5⟩ := bytes_ok Ak (by show U32 0; decide)
  have hw5 : whyM { noM 5 with keys := [([97], [98]), ([97], [])] } = (tCard, 1) := by decide
  obtain rfl := y5 (by rw [hw5]; decide)
  rw [hw5] at X5
  have WF5 := (WF.trans W4).trans V5
  have Ac : MsAt F5 { noM 5 with cards := L } o2 .nilSlice := ⟨WF5.src O2.src, srcK_nil _⟩
  obtain ⟨v6, x6, F6, e6, V6, X6, _, y6⟩ := bytes_ok Ac (by show U32 0; decide)
  have hw6 := why_pull L hne
  obtain rfl := y6 (by rw [hw6]; decide)
  rw [hw6] at X6
  have R6 : Rdy F6 := R0.went ((WG.trans WF5).trans V6)
  have X5' : Rep F6 F6.next (.fault tWrite (.fault tCard (.code 1))) x5 := Rep.up (e := .fault tWrite (.fault tCard (.code 1))) X5 V6
  obtain ⟨F7, e7, V7⟩ := why_ok R6 X5' (by simp [pathOf]) tWrite tCard 1 (by decide)
  have X6' : Rep F7 F7.next (.fault tWrite (.fault tZero (.code 12))) x6 := Rep.up (e := .fault tWrite (.fault tZero (.code 12))) X6 V7
  obtain ⟨F8, e8, V8⟩ := why_ok (R6.went V7) X6' (by simp [pathOf]) tWrite tZero 12 (by decide)
  obtain ⟨F9, e9, V9⟩ := known_ok ((R6.went V7).went V8)
  rw [codeI_two] at e7 e8
  have p1 : (((1 : Int) == 1) && decide (pathOf (.fault tWrite (.fault tCard (.code 1))) = wantOf tWrite tCard)) = true := by decide
  have p2 : (((12 : Int) == 12) && decide (pathOf (.fault tWrite (.fault tZero (.code 12))) = wantOf tWrite tZero)) = true := by decide
  rw [p1] at e7
  rw [p2] at e8
  have gt : ∀ (a b : Option J), guardV (.bool true) true a b = a := fun _ _ => rfl
  have pt : ∀ (a b : AVal), aPick (.bool true) a b = some a := fun _ _ => rfl
  have ln2 : aLen false (.slice H2.next 0 2 2 1 true) = some (.int .i64 2) := rfl
  have os : aCells 1 (.slice F2.next 0 2 2 2 true) = some [.slice F2.next 0 2 2 2 true] := rfl
  subst hG
  rw [hq] at lp
  simp only [Ms.cells, noM] at e5 e6
  have e2' : aAppend 9 88 zCd false o (.slice h.next 0 1 1 9 true) (H1.setBlk h.next (some ⟨[.str c.a, .str c.i, .int .i64 c.s, .int .i64 c.o, .int .i64 c.l, .int .i64 c.t, .int .i64 c.k, .int .i64 c.n, .bool c.g], true⟩)) = some (o2, H2) := e2
  refine ⟨F9, ?_⟩
  simp only [kindsT, gt, pt, Nat.add_zero, Cd.cells, List.getD_cons_zero, List.getD_cons_succ, Option.bind_some, cond_bool, cond_true, cond_false, fill_cons, fill_nil, aCells_agg, aCells_int, aCells_bool, cell_slice, cell_ptr, cell_str, cellsQ_agg, ble_dec, decide_true, spl_s, spl_z, spl_c, reps_one, List.length_cons, List.length_nil, Nat.zero_add, Nat.reduceAdd, Nat.le_refl, Nat.reduceLeDiff, nilchk_ptr, faddr_ptr, load_ptr, from_one, rdL_z, rdL_t, rdL_s, Option.map_some, from_agg, bin_eql, bin_add, bin_sub, bin_neq, conv_int, aggCells_agg, nat_beq0, oneOr_one, ans_one, cp_cons, pairOk_some, ↓reduceIte, lookLog_cons, logRd_ptr, stays_rd, beqO_same, checkPairs_nil, Bool.and_true, Bool.true_and, Bool.and_self, Bool.or_self, if_true, if_false, Nat.reduceEqDiff, ext_0, ext_1, oneOr_two, un_not, g_and, p_and, g_or, p_or, nn_eq, nn_ne, ni_eq, ni_ne, Bool.not_true, Bool.not_false, reps_two, List.cons_append, List.nil_append, e1', e2', stays_lrd, lookB_if, lookB_nil, ln2, lp, nat_beq11, e5, e6, e7, e8, e9, o1, os]

theorem mailKindsL {h : Heap} (R : Rdy h) {s : AVal} {l : List Int} (I : Ints .i64 s h l) (lt : ∀ b, slBlk s = some b → b < h.next) (_ : ∀ x ∈ l, (Lit.int .i64 x).wf = true) (hl : l.length * 8 ≤ 140737488355328) (_ : El.Room s) (which : Int) (_ : (Lit.int .i64 which).wf = true) :
    ∃ h', E tbl 4 [s, .int .i64 which] h = some (.bool true, h') := by
  have T0 := Tape.make I lt (by omega)
  obtain ⟨a, i, st, o, le, t, k, n, g, H1, e1, M1, T1, P1⟩ := tcard_ok T0
  have W1 : Went h H1 := ⟨by have := P1.next; simp at this; omega, fun b hb => by rw [P1.old b (by simp; omega) (by omega), alloc_old _ _ (by omega)]⟩
  have e2 := bwithin_ok which 0 4 H1 (by omega) (by omega) (by omega)
  obtain ⟨q1, q2⟩ := within_in which 0 4 (by omega)
  have ic := ints_cell I
  have fin : ∀ c : Cd, cardB c = false → S4 (E tbl) s (.int .i64 which) h = kindsT (E tbl) (.ptr h.next 0) c.cells H1 → ∃ h', E tbl 4 [s, .int .i64 which] h = some (.bool true, h') := by
    intro c hc he
    obtain ⟨H, e⟩ := kindsT_ok (R.went W1) T1 (Nat.le_refl _) W1 R c hc
    exact ⟨H, by rw [c4, he, e]; rfl⟩
  generalize hk : within which 0 4 = z at *
  have d0 : ∀ a b : Int, a ≠ b → (a == b) = false := fun a b h => by simpa using h
  by_cases z0 : z = 0
  · subst z0
    have b0 : ((0 : Int) == 0) = true := rfl
    refine fin ⟨[], i, st, o, le, t, k, n, g⟩ (by simp [cardB, nameB]) ?_
    simp only [S4, kindsT, List.getD_cons_zero, List.getD_cons_succ, Option.bind_some, cond_bool, cond_true, cond_false, fill_cons, fill_nil, aCells_agg, aCells_int, aCells_bool, cell_slice, cell_ptr, cell_str, cellsQ_agg, ble_dec, decide_true, spl_s, spl_z, spl_c, reps_one, List.length_cons, List.length_nil, Nat.zero_add, Nat.reduceAdd, Nat.le_refl, Nat.reduceLeDiff, nilchk_ptr, faddr_ptr, load_ptr, from_one, rdL_z, rdL_t, rdL_s, Option.map_some, from_agg, bin_eql, bin_add, bin_sub, bin_neq, conv_int, aggCells_agg, nat_beq0, oneOr_one, ans_one, cp_cons, pairOk_some, ↓reduceIte, lookLog_cons, logRd_ptr, stays_rd, beqO_same, checkPairs_nil, Bool.and_true, Bool.true_and, Bool.and_self, Bool.or_self, if_true, if_false, Nat.reduceEqDiff, ext_0, ext_1, oneOr_two, un_not, g_and, p_and, g_or, p_or, nn_eq, nn_ne, ni_eq, ni_ne, Bool.not_true, Bool.not_false, Cd.cells, ic, e1, e2, b0]
  · have b0 := d0 z 0 z0
    by_cases z1 : z = 1
    · subst z1
      have b1 : ((1 : Int) == 1) = true := rfl
      have hU : nameB [85, 80] = false := by decide
      refine fin ⟨a, [85, 80], st, o, le, t, k, n, g⟩ (by simp [cardB, hU]) ?_
      simp only [S4, kindsT, List.getD_cons_zero, List.getD_cons_succ, Option.bind_some, cond_bool, cond_true, cond_false, fill_cons, fill_nil, aCells_agg, aCells_int, aCells_bool, cell_slice, cell_ptr, cell_str, cellsQ_agg, ble_dec, decide_true, spl_s, spl_z, spl_c, reps_one, List.length_cons, List.length_nil, Nat.zero_add, Nat.reduceAdd, Nat.le_refl, Nat.reduceLeDiff, nilchk_ptr, faddr_ptr, load_ptr, from_one, rdL_z, rdL_t, rdL_s, Option.map_some, from_agg, bin_eql, bin_add, bin_sub, bin_neq, conv_int, aggCells_agg, nat_beq0, oneOr_one, ans_one, cp_cons, pairOk_some, ↓reduceIte, lookLog_cons, logRd_ptr, stays_rd, beqO_same, checkPairs_nil, Bool.and_true, Bool.true_and, Bool.and_self, Bool.or_self, if_true, if_false, Nat.reduceEqDiff, ext_0, ext_1, oneOr_two, un_not, g_and, p_and, g_or, p_or, nn_eq, nn_ne, ni_eq, ni_ne, Bool.not_true, Bool.not_false, Cd.cells, ic, e1, e2, b0, b1]
    · have b1 := d0 z 1 z1
      by_cases z2 : z = 2
      · subst z2
        have b2 : ((2 : Int) == 2) = true := rfl
        refine fin ⟨a, i, st, o, 0, t, k, n, g⟩ (by simp [cardB]) ?_
        simp only [S4, kindsT, List.getD_cons_zero, List.getD_cons_succ, Option.bind_some, cond_bool, cond_true, cond_false, fill_cons, fill_nil, aCells_agg, aCells_int, aCells_bool, cell_slice, cell_ptr, cell_str, cellsQ_agg, ble_dec, decide_true, spl_s, spl_z, spl_c, reps_one, List.length_cons, List.length_nil, Nat.zero_add, Nat.reduceAdd, Nat.le_refl, Nat.reduceLeDiff, nilchk_ptr, faddr_ptr, load_ptr, from_one, rdL_z, rdL_t, rdL_s, Option.map_some, from_agg, bin_eql, bin_add, bin_sub, bin_neq, conv_int, aggCells_agg, nat_beq0, oneOr_one, ans_one, cp_cons, pairOk_some, ↓reduceIte, lookLog_cons, logRd_ptr, stays_rd, beqO_same, checkPairs_nil, Bool.and_true, Bool.true_and, Bool.and_self, Bool.or_self, if_true, if_false, Nat.reduceEqDiff, ext_0, ext_1, oneOr_two, un_not, g_and, p_and, g_or, p_or, nn_eq, nn_ne, ni_eq, ni_ne, Bool.not_true, Bool.not_false, Cd.cells, ic, e1, e2, b0, b1, b2]
      · have b2 := d0 z 2 z2
        by_cases z3 : z = 3
        · subst z3
          have b3 : ((3 : Int) == 3) = true := rfl
          refine fin ⟨a, i, 3, o, le, t, k, n, g⟩ (by simp [cardB]) ?_
          simp only [S4, kindsT, List.getD_cons_zero, List.getD_cons_succ, Option.bind_some, cond_bool, cond_true, cond_false, fill_cons, fill_nil, aCells_agg, aCells_int, aCells_bool, cell_slice, cell_ptr, cell_str, cellsQ_agg, ble_dec, decide_true, spl_s, spl_z, spl_c, reps_one, List.length_cons, List.length_nil, Nat.zero_add, Nat.reduceAdd, Nat.le_refl, Nat.reduceLeDiff, nilchk_ptr, faddr_ptr, load_ptr, from_one, rdL_z, rdL_t, rdL_s, Option.map_some, from_agg, bin_eql, bin_add, bin_sub, bin_neq, conv_int, aggCells_agg, nat_beq0, oneOr_one, ans_one, cp_cons, pairOk_some, ↓reduceIte, lookLog_cons, logRd_ptr, stays_rd, beqO_same, checkPairs_nil, Bool.and_true, Bool.true_and, Bool.and_self, Bool.or_self, if_true, if_false, Nat.reduceEqDiff, ext_0, ext_1, oneOr_two, un_not, g_and, p_and, g_or, p_or, nn_eq, nn_ne, ni_eq, ni_ne, Bool.not_true, Bool.not_false, Cd.cells, ic, e1, e2, b0, b1, b2, b3]
        · have b3 := d0 z 3 z3
          refine fin ⟨a, i, st, o, le, t, 6, n, g⟩ (by simp [cardB, stampB]) ?_
          simp only [S4, kindsT, List.getD_cons_zero, List.getD_cons_succ, Option.bind_some, cond_bool, cond_true, cond_false, fill_cons, fill_nil, aCells_agg, aCells_int, aCells_bool, cell_slice, cell_ptr, cell_str, cellsQ_agg, ble_dec, decide_true, spl_s, spl_z, spl_c, reps_one, List.length_cons, List.length_nil, Nat.zero_add, Nat.reduceAdd, Nat.le_refl, Nat.reduceLeDiff, nilchk_ptr, faddr_ptr, load_ptr, from_one, rdL_z, rdL_t, rdL_s, Option.map_some, from_agg, bin_eql, bin_add, bin_sub, bin_neq, conv_int, aggCells_agg, nat_beq0, oneOr_one, ans_one, cp_cons, pairOk_some, ↓reduceIte, lookLog_cons, logRd_ptr, stays_rd, beqO_same, checkPairs_nil, Bool.and_true, Bool.true_and, Bool.and_self, Bool.or_self, if_true, if_false, Nat.reduceEqDiff, ext_0, ext_1, oneOr_two, un_not, g_and, p_and, g_or, p_or, nn_eq, nn_ne, ni_eq, ni_ne, Bool.not_true, Bool.not_false, Cd.cells, ic, e1, e2, b0, b1, b2, b3]
end Go.Proofs.YtjibfbphiemljaaDoor.Code
