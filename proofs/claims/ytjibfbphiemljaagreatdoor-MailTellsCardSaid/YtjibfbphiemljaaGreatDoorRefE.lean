/- YtjibfbphiemljaaGreatDoorRefE -/
import Derived.Test.YtjibfbphiemljaaGreatDoorRefD
set_option linter.unusedSimpArgs false
set_option linter.unusedVariables false
namespace Go.Proofs.YtjibfbphiemljaaGreatDoor.Code
open Go.Fw
theorem reads_ok {h : Heap} (R : Rdy h) {b : AVal} {l : List UInt8} (S : Go.Fw.Bs b h l) (Rm : El.Room b) (hl : l.length ≤ 140737488355328) : ∃ H, E tbl 10 [b] h = some (.bool true, H) ∧ Went h H := by
  obtain ⟨m, sc, sk, e, H1, c1, K1⟩ := read_ok S hl
  obtain ⟨m2, sc2, sk2, t, k, H2, c2, W2, A2, L2, y2, n2⟩ := read6_ok (K1.went.src S) Rm
  have A1 := K1.at'.went W2
  have RR := (R.went K1.went).went W2
  cases hq : readM l with
  | inl m' =>
    obtain ⟨rfl, rfl⟩ := K1.ok _ hq
    obtain ⟨rfl, rfl, rfl⟩ := y2 _ hq
    have s3 := same6_ok A1 A2 (by have := L2.1; omega) (by have := L2.2; omega)
    rw [decide_eq_true rfl] at s3
    have w3 := why_nil (h := H2) tRead []
    refine ⟨H2, ?_, K1.went.trans W2⟩
    simp only [Ms.cells] at c1 c2 s3
    have gt : ∀ (a b : Option J), guardV (.bool true) true a b = a := fun _ _ => rfl
    rw [c10]
    simp only [S10, gt, pk_t, c1, c2, w3, s3, ext_2, List.getD_cons_zero, Option.bind_some, cond_true, aCells_agg, ble_dec, decide_true, spl_z, spl_c, List.length_cons, List.length_nil, Nat.zero_add, Nat.reduceAdd, Nat.le_refl, rdL_z, rdL_t, Option.map_some, from_agg, ans_one, ext_0, ext_1]
  | inr p =>
    obtain ⟨rfl, hp, R1⟩ := K1.no _ hq
    obtain ⟨rfl, rfl, rfl⟩ := n2 _ hq
    have R1' := Rep.up R1 W2
    obtain ⟨H3, c3, W3⟩ := why_ok RR R1' (by simp [pathOf]) tRead p.1 p.2 hp
    have hw : ((codeI (.fault tRead (.fault p.1 (.code p.2))) == p.2) && decide (pathOf (.fault tRead (.fault p.1 (.code p.2))) = wantOf tRead p.1)) = true := by
      rw [codeI_two]
      simp [pathOf, wantOf]
    rw [hw] at c3
    have s3 := same6_ok (A1.went W3) (A2.went W3) (by simp [noM]) (by simp [noM])
    rw [decide_eq_true rfl] at s3
    refine ⟨H3, ?_, (K1.went.trans W2).trans W3⟩
    simp only [Ms.cells, noM] at c1 c2 s3
    have gt : ∀ (a b : Option J), guardV (.bool true) true a b = a := fun _ _ => rfl
    rw [c10]
    simp only [S10, gt, pk_t, c1, c2, c3, s3, ext_2, List.getD_cons_zero, Option.bind_some, cond_true, aCells_agg, ble_dec, decide_true, spl_z, spl_c, List.length_cons, List.length_nil, Nat.zero_add, Nat.reduceAdd, Nat.le_refl, rdL_z, rdL_t, Option.map_some, from_agg, ans_one, ext_0, ext_1]
theorem pb_went {v : AVal} {G G' : Heap} {l : List UInt8} (S : Go.Fw.Bs v G l) (W : Went G G') (β β' : List (Nat × List AVal)) : pairOk (logBs v) (some (.ef β G β' G')) = true := by
  have S' := W.src S
  obtain ⟨_, ⟨rfl, _⟩ | ⟨b, off, cap, ex, rfl, _, a3⟩⟩ := S
  · rfl
  · have a3' : G.rd b off l.length = some (byteCells l) := by simpa using a3
    obtain ⟨_, ⟨h', _⟩ | ⟨b', off', cap', ex', h', _, a4⟩⟩ := S'
    · cases h'
    · cases h'
      have a4' : G'.rd b off l.length = some (byteCells l) := by simpa using a4
      show beqO (G.rd b off l.length) (G'.rd b off l.length) = true
      rw [a3', a4', beqO_same]
theorem lsame_ok {h : Heap} (R : Rdy h) {m : Ms} {sc sk : AVal} (A : MsAt h m sc sk) (hu : U32 m.sum) (Z : m.Sz) (hc : m.cards.length ≤ 4611686018427387904) (hk : m.keys.length ≤ 4611686018427387904) : ∃ H, E tbl 7 [.agg (m.cells sc sk)] h = some (.bool true, H) ∧ Went h H := by
  have e1 := why6_ok A Z
  obtain ⟨v, e, H1, e2, W1, R1, y1, n1⟩ := bytes_ok A hu
  have A1 := A.went W1
  obtain ⟨v2, H2, e3, R2, W2⟩ := right_ok A1
  have RR2 := (R.went W1).went W2
  by_cases hw : (whyM m).2 = 0
  · obtain ⟨rfl, O1⟩ := y1 hw
    rw [right_iff.1 hw] at e1
    rw [erW_ok hw] at R2
    obtain rfl : v2 = .nilIface := R2
    have RM := right_of hw
    have small := bytes_small m RM
    have w1 := why_nil (h := H2) [] []
    have w2 := why_nil (h := H2) tWrite []
    have A2 := A1.went W2
    have s4 := same_ok A2 A2 hc hk
    rw [decide_eq_true rfl] at s4
    have B2 := W2.src O1.src
    obtain ⟨v5, H5, e5, F5⟩ := bytes6_ok A2 hu RM
    have B5 := F5.went.src B2
    obtain ⟨H6, e6, W6⟩ := reads_ok (RR2.went F5.went) B5 O1.room (by omega)
    have t2 := Fw.Src.text B2
    have t5 := Fw.Src.text F5.bs
    have pb := pb_went B2 F5.went
    have hb : (bytesM m == bytesM m) = true := by simp
    have k0 : ((0 : Int) != 0) = false := rfl
    refine ⟨H6, ?_, ((W1.trans W2).trans F5.went).trans W6⟩
    have gt : ∀ (a b : Option J), guardV (.bool true) true a b = a := fun _ _ => rfl
    have gf : ∀ (a b : Option J), guardV (.bool false) false a b = a := fun _ _ => rfl
    simp only [Ms.cells] at e1 e2 e3 s4 e5
    rw [c7]
    simp only [S7, gt, gf, pk_t, pff, e1, e2, e3, w1, w2, s4, k0, t2, e5, t5, hb, e6, pb, List.getD_cons_zero, Option.bind_some, cond_bool, cond_true, cond_false, cellsQ_agg, rdL_z, rdL_t, Option.map_some, from_agg, bin_neq, bin_str_eql, ans_one, cp_cons, ↓reduceIte, lookLog_cons, checkPairs_nil, Bool.and_true, Nat.reduceEqDiff, ext_0, ext_1, un_not, Bool.not_true]
  · obtain rfl := n1 hw
    rw [erW_no hw] at R1 R2
    obtain ⟨b2, rfl⟩ := R2.faultV
    have R2' : Rep H2 H2.next (.fault (whyM m).1 (.code (whyM m).2)) (.iface 98 (.ptr b2 0)) := R2
    obtain ⟨H3, e4, W3⟩ := why_ok RR2 R2' (by simp [pathOf]) [] (whyM m).1 (whyM m).2 hw
    have h4 : ((codeI (.fault (whyM m).1 (.code (whyM m).2)) == (whyM m).2) && decide (pathOf (.fault (whyM m).1 (.code (whyM m).2)) = wantOf [] (whyM m).1)) = true := by
      rw [codeI_one]
      simp [pathOf, wantOf]
    rw [h4] at e4
    have R1' : Rep H3 H3.next (.fault tWrite (.fault (whyM m).1 (.code (whyM m).2))) e := Rep.up (Rep.up (e := .fault tWrite (.fault (whyM m).1 (.code (whyM m).2))) R1 W2) W3
    obtain ⟨H4, e5, W4⟩ := why_ok (RR2.went W3) R1' (by simp [pathOf]) tWrite (whyM m).1 (whyM m).2 hw
    have h5 : ((codeI (.fault tWrite (.fault (whyM m).1 (.code (whyM m).2))) == (whyM m).2) && decide (pathOf (.fault tWrite (.fault (whyM m).1 (.code (whyM m).2))) = wantOf tWrite (whyM m).1)) = true := by
      rw [codeI_two]
      simp [pathOf, wantOf]
    rw [h5] at e5
    have A4 := ((A1.went W2).went W3).went W4
    have s6 := same_ok A4 A4 hc hk
    rw [decide_eq_true rfl] at s6
    have k0 : ((whyM m).2 != 0) = true := by simpa using hw
    have ln : aLen false .nilSlice = some (.int .i64 0) := rfl
    have z0 : ((0 : Int) == 0) = true := rfl
    refine ⟨H4, ?_, ((W1.trans W2).trans W3).trans W4⟩
    have gt : ∀ (a b : Option J), guardV (.bool true) true a b = a := fun _ _ => rfl
    have gf : ∀ (a b : Option J), guardV (.bool false) false a b = a := fun _ _ => rfl
    simp only [Ms.cells] at e1 e2 e3 s6
    rw [c7]
    simp only [S7, gf, pff, e1, e2, e3, e4, e5, s6, k0, ln, z0, List.getD_cons_zero, Option.bind_some, cond_bool, cond_true, cond_false, cellsQ_agg, rdL_z, rdL_t, Option.map_some, from_agg, bin_eql, bin_neq, ans_one, cp_cons, ↓reduceIte, lookLog_cons, checkPairs_nil, Bool.and_true, Nat.reduceEqDiff, ext_0, ext_1, un_not, Bool.not_true]
structure OddOk (h : Heap) (L : Nat) (m : Ms) (sc sk : AVal) (H : Heap) : Prop where
  went : Went h H
  at' : MsAt H m sc sk
  sum : U32 m.sum
  tx : TxSz m
  len : m.cards.length ≤ L + 70 ∧ m.keys.length ≤ L + 70
abbrev oddTexts : List (List UInt8) := [[], [65], [111, 107], [48, 49, 50, 51, 52, 53, 54, 55, 56, 57, 97, 98, 99, 100, 101, 102, 103]]
def abCd : Cd := ⟨[97], [98], 1, 0, 1, 0, 0, 0, false⟩
theorem cards_many {h0 h : Heap} {n : Int} {m : Ms} {sk : AVal} (W0 : Went h0 h) : ∃ o l H, loop (L8_0 (E tbl)) [.int .i64 n, .int .i64 0, .agg (({ m with cards := [] } : Ms).cells .nilSlice sk), .agg zMs] h = some (1, [.agg (({ m with cards := l } : Ms).cells o sk), .agg zMs], H) ∧ Went h0 H ∧ OwnC o H h.next l ∧ l.length ≤ 67 ∧ ∀ c ∈ l, c = abCd := by
  obtain ⟨q1, q2⟩ := within_in n 0 5 (by omega)
  obtain ⟨w, hw⟩ : ∃ w : Nat, within n 0 5 = (w : Int) := ⟨_, (Int.toNat_of_nonneg q1).symm⟩
  rw [hw] at q2
  have key : ∃ res, loop (L8_0 (E tbl)) [.int .i64 n, .int .i64 0, .agg (({ m with cards := [] } : Ms).cells .nilSlice sk), .agg zMs] h = some res ∧ ∃ o l H, res = (1, [.agg (({ m with cards := l } : Ms).cells o sk), .agg zMs], H) ∧ Went h0 H ∧ OwnC o H h.next l ∧ l.length ≤ 67 ∧ ∀ c ∈ l, c = abCd := by
    refine loop_ok (fun k xs G => ∃ (o : AVal) (l : List Cd), k + l.length = 62 + w ∧ OwnC o G h.next l ∧ (∀ c ∈ l, c = abCd) ∧ Went h G ∧ xs = [.int .i64 n, .int .i64 (l.length : Int), .agg (({ m with cards := l } : Ms).cells o sk), .agg zMs]) _ ?_ (62 + w) _ _ ⟨.nilSlice, [], by simp, Own.nil _ _ _, by simp, Went.refl _, rfl⟩
    rintro k xs G ⟨o, l, hk, O, hc, W, rfl⟩
    have e1 := bwithin_ok n 0 5 G (by omega) (by omega) (by omega)
    rw [hw] at e1
    have w1 : IntKind.i64.wrap (62 + (w : Int)) = 62 + (w : Int) := IntWalk.i64_in _ (by omega)
    by_cases h0 : l.length < 62 + w
    · left
      have i1 : decide ((l.length : Int) < 62 + (w : Int)) = true := decide_eq_true (by omega)
      have ws := wrap_succ l.length (by omega)
      obtain ⟨o', H, ap, O', K⟩ := El.Own.snoc (bytes := 88) (zero := zCd) O abCd W.next (by omega) (by omega)
      rw [cdE_f] at ap
      have oc := own_cell O'
      have ob : ∀ b, slBlk o = some b → h.next ≤ b := fun b hb => (O.blk b hb).1
      refine ⟨[.int .i64 n, .int .i64 ((l.length + 1 : Nat) : Int), .agg (({ m with cards := l ++ [abCd] } : Ms).cells o' sk), .agg zMs], H, ?_, k - 1, by omega, o', l ++ [abCd], by simp; omega, O', fun c hc' => ?_, ⟨by have := W.next; have := K.next; omega, fun b hb => by rw [K.old b (by have := W.next; omega) (fun e => by have := ob b e; omega), W.old b hb]⟩, by simp⟩
      · simp only [Cd.cells, abCd] at ap
        simp only [L8_0, e1, bin_add, w1, i1, ap, oc, ws, Ms.cells, Int.natCast_add, List.getD_cons_zero, List.getD_cons_succ, Option.bind_some, cond_bool, cond_true, fill_cons, fill_nil, aCells_agg, aCells_int, cell_str, ble_dec, decide_true, spl_s, spl_z, spl_c, reps_one, List.length_cons, List.length_nil, Nat.zero_add, Nat.reduceAdd, Nat.le_refl, Nat.reduceLeDiff, from_one, rdL_z, rdL_t, rdL_s, Option.map_some, bin_lss, aggCells_agg]
      · rcases List.mem_append.1 hc' with h | h
        · exact hc c h
        · simpa using h
    · right
      have i1 : decide ((l.length : Int) < 62 + (w : Int)) = false := decide_eq_false (by omega)
      refine ⟨0, _, G, ?_, o, l, G, rfl, W0.trans W, O, by omega, hc⟩
      simp only [L8_0, e1, bin_add, w1, i1, Ms.cells, List.getD_cons_zero, List.getD_cons_succ, Option.bind_some, cond_bool, cond_true, cond_false, fill_cons, fill_nil, aCells_agg, aCells_int, cell_str, ble_dec, decide_true, spl_s, spl_z, spl_c, reps_one, List.length_cons, List.length_nil, Nat.zero_add, Nat.reduceAdd, Nat.le_refl, Nat.reduceLeDiff, from_one, rdL_z, rdL_t, rdL_s, Option.map_some, bin_lss, aggCells_agg]
  obtain ⟨_, e, o, l, H, rfl, x⟩ := key
  exact ⟨o, l, H, e, x⟩
theorem src_again {α : Type} {es bytes : Nat} {zero : List AVal} {E : El α es} {x : AVal} {h : Heap} {l : List α} (S : E.Src x h l) (hb : l.length * bytes ≤ 140737488355328) (hc : l.length ≤ 4611686018427387904) :
    ∃ s' h', aAppend es bytes zero false (.slice h.next 0 0 0 es true) x (h.alloc []) = some (s', h') ∧ E.Own s' h' h.next l ∧ Went h h' := by
  have O0 : E.Own (.slice h.next 0 0 0 es true) (h.alloc []) h.next [] := El.Own.lit (E := E) h [] rfl true
  obtain ⟨s', h', e, O, K⟩ := El.Own.app (bytes := bytes) (zero := zero) O0 ((Went.alloc h []).src S) (by simp) (by simpa using hb) (by simpa using hc)
  exact ⟨s', h', e, by simpa using O, K.went (Went.alloc h []) fun b hb => by cases hb; omega⟩
end Go.Proofs.YtjibfbphiemljaaGreatDoor.Code
