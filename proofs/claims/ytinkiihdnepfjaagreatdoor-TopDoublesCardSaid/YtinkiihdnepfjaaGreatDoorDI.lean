/- TopDoubles -/
import Derived.Test.YtinkiihdnepfjaaGreatDoorDE
set_option linter.unusedSimpArgs false
set_option linter.unusedVariables false
set_option maxRecDepth 100000
namespace Go.Proofs.YtinkiihdnepfjaaGreatDoor.Code
open Go.Fw
theorem shelf_ok {a : At} {sl rl : AVal} {h : Heap} {l : List Cd} (S : Sv a sl rl h l) : E tbl 28 [.ptr a.d 0] h = some (.ptr a.f 0, h) := by
  have r4 := S.d4
  rw [c28]
  simp [S28, r4]
theorem went_res (h : Heap) (n : Nat) : Went h (h.res n) := ⟨by simp [Heap.res_next], fun _ _ => rfl⟩
theorem local_ent {G H2 : Heap} (W : Went (G.res 1) H2) (c0 : List AVal) (h10 : c0.length = 10) :
    ∃ H4, (H2.setBlk (G.next + 0) (some ⟨zEn, true⟩)).wr (G.next + 0) 0 c0 = some H4 ∧ H4.blk G.next = some ⟨c0, true⟩ ∧ Went G H4 ∧ G.next < H4.next := by
  have n2 : G.next + 1 ≤ H2.next := W.next
  have hw := wr_of (h := H2.setBlk (G.next + 0) (some ⟨zEn, true⟩)) (b := G.next + 0) (cs := zEn) (setBlk_same _ _ _) 0 c0 (by simp [h10])
  have sp : splice zEn 0 c0 = c0 := by
    unfold splice
    simp [h10]
  rw [sp] at hw
  exact ⟨_, hw, setBlk_same _ _ _, ⟨by show G.next ≤ H2.next; omega, fun b hb => by rw [setBlk_ne _ _ (by omega), setBlk_ne _ _ (by omega)]; exact W.old b (by show b < G.next + 1; omega)⟩, by show G.next < H2.next; omega⟩
structure Out (a : At) (h0 : Heap) (sl rl : AVal) (G : Heap) (o : AVal) (ol : List Cd) : Prop where
  own : cdE.Own o G 0 ol
  off : ∀ b, slBlk o = some b → h0.next ≤ b ∧ Off a sl rl G b
theorem Out.kv {a : At} {h0 G H : Heap} {sl rl sl' rl' : AVal} {o : AVal} {ol : List Cd} (O : Out a h0 sl rl G o ol) (K : Kv a G sl rl H sl' rl') : Out a h0 sl' rl' H o ol :=
  ⟨Fw.Own.kept O.own K.next fun b hb => K.old b (O.off b hb).2, fun b hb => ⟨(O.off b hb).1, K.off (O.off b hb).2⟩⟩
theorem Out.snoc {a : At} {h0 H : Heap} {sl0 rl0 sl rl : AVal} {o : AVal} {l : List Cd} {ol : List Cd} (O : Out a h0 sl rl H o ol) (S : Sv a sl rl H l) (K0 : Kv a h0 sl0 rl0 H sl rl) (hs : a.s < h0.next) (hd : a.d < h0.next) (c : Cd) (hol : ol.length ≤ 100) :
    ∃ o' G, aAppend 9 88 zCd false o (.slice H.next 0 1 1 9 true) (H.alloc c.cells) = some (o', G) ∧ Sv a sl rl G l ∧ Kv a h0 sl0 rl0 G sl rl ∧ Out a h0 sl rl G o' (ol ++ [c]) := by
  obtain ⟨o', G, e, O2, K2⟩ := El.Own.snoc (bytes := 88) (zero := zCd) O.own c (Nat.zero_le _) (by omega) (by omega)
  have n2 := K2.next
  have n0 := K0.next
  have sblk := fun b e => (Fw.Own.blk S.sh.own b e).2
  obtain ⟨ks, R⟩ := S.row
  have rblk := fun b e => (Fw.Own.blk R.own b e).2
  have old : ∀ b, b < H.next → (b = a.s ∨ b = a.d ∨ b = a.f ∨ b = a.r ∨ slBlk sl = some b ∨ slBlk rl = some b) → slBlk o ≠ some b := by
    intro b hb h e
    obtain ⟨Of0, Of⟩ := O.off b e
    rcases h with rfl | rfl | rfl | rfl | h | h
    · omega
    · omega
    · exact Of.f rfl
    · exact Of.r rfl
    · exact Of.sl h
    · exact Of.rl h
  refine ⟨o', G, e, S.same n2 fun b hb h => K2.old b hb (old b hb h), ⟨by omega, fun b Of => ?_, K0.bs, K0.br⟩, O2, fun b hb => ?_⟩
  · have := Of.lt
    rw [K2.old b (by omega) fun e => by have := (O.off b e).1; omega, K0.old b Of]
  · rcases K2.blk b hb with h1 | h1
    · obtain ⟨p, Of⟩ := O.off b h1
      exact ⟨p, Nat.lt_of_lt_of_le Of.lt n2, Of.f, Of.r, Of.sl, Of.rl⟩
    · have := S.sh.lt
      have := R.lt
      exact ⟨by omega, (Fw.Own.blk O2 b hb).2, by omega, by omega, fun e => by have := sblk b e; omega, fun e => by have := rblk b e; omega⟩
def Step (a : At) (h0 : Heap) (sl0 rl0 : AVal) (l' : List Cd) (ol : List Cd) (x : Option J) (sc : AVal) (n i : Nat) : Prop :=
  ∃ sl' rl' o' ol' G' rf', x = some (0, [.ptr a.d 0, .int .i64 0, o', .int .i64 rf', sc, .int .i64 (n : Int), .int .i64 ((i + 1 : Nat) : Int)], G') ∧ Sv a sl' rl' G' l' ∧ Kv a h0 sl0 rl0 G' sl' rl' ∧ Out a h0 sl' rl' G' o' ol' ∧ ol'.length ≤ ol.length + 1
section
variable {a : At} {h0 : Heap} {sl0 rl0 sl rl : AVal} {G : Heap} {l : List Cd} (S : Sv a sl rl G l) (K0 : Kv a h0 sl0 rl0 G sl rl) (hs : a.s < h0.next) (hd : a.d < h0.next) {sc : AVal} {cs : List Cd} (A : SrcC sc G cs) (hcs : cs.length ≤ 64) (hr : ∀ c ∈ cs, cardB c = true) {o : AVal} {ol : List Cd} (O : Out a h0 sl rl G o ol) (hol : ol.length ≤ 100) (i : Nat) (hi : i < cs.length) (rf : Int)
include S K0 A hcs hr O
theorem step_full (hn : inK cs[i].key l = false) (hf : 32 ≤ l.length) :
    Step a h0 sl0 rl0 l ol (L53_0 (E tbl) [.ptr a.d 0, .int .i64 0, o, .int .i64 rf, sc, .int .i64 (cs.length : Int), .int .i64 (i : Int)] G) sc cs.length i := by
  obtain ⟨p, q1, q2⟩ := El.Src.el A i hi
  have hc := hr _ (List.getElem_mem hi)
  rw [cdE_f] at q2
  generalize cs[i] = c at *
  have e78 := card_ok c G
  rw [hc] at e78
  have S1 := S.went (went_res G 1)
  have e28 := shelf_ok S1
  obtain ⟨H2, e85, W2⟩ := get_no S1.sh hn
  obtain ⟨H4, hw, hb4, W4, lt4⟩ := local_ent W2 zEn rfl
  have S4 := S.went W4
  obtain ⟨H5, e87, W5⟩ := set_full S4 c hn hf
  have i1 : (i : Int) < (cs.length : Int) := by omega
  have w1 : IntKind.i64.wrap ((i : Int) + 1) = ((i + 1 : Nat) : Int) := by rw [IntWalk.i64_in _ (by omega)]; omega
  have W := W4.trans W5
  have Kw : Kv a G sl rl H5 sl rl := Kv.of_went W
  refine ⟨sl, rl, o, ol, H5, IntKind.i64.wrap (rf + 1), ?_, S.went W, K0.trans Kw, O.kv Kw, by omega⟩
  have n1 : aBin .neq .plain (.int .i64 24) (.int .i64 0) = some (.bool true) := by simp
  have e85' : E tbl 85 [.ptr a.f 0, .agg [.str c.a, .str c.i]] (G.res 1) = some (.tuple [.agg zEn, .bool false], H2) := e85
  simp only [Nat.add_zero] at hw
  simp [L53_0, i1, q1, q2, e78, e28, e85', hw, e87, w1, n1, rdL_z, rdL_t, rdL_s, checkPairs, aExtract]
include hs hd hol
theorem step_new (hn : inK cs[i].key l = false) (hf : l.length < 32) (so : Sorted (l.take (posK cs[i].key l) ++ cs[i] :: l.drop (posK cs[i].key l))) :
    Step a h0 sl0 rl0 (l.take (posK cs[i].key l) ++ cs[i] :: l.drop (posK cs[i].key l)) ol (L53_0 (E tbl) [.ptr a.d 0, .int .i64 0, o, .int .i64 rf, sc, .int .i64 (cs.length : Int), .int .i64 (i : Int)] G) sc cs.length i := by
  obtain ⟨p, q1, q2⟩ := El.Src.el A i hi
  have hc := hr _ (List.getElem_mem hi)
  rw [cdE_f] at q2
  generalize cs[i] = c at *
  have e78 := card_ok c G
  rw [hc] at e78
  have S1 := S.went (went_res G 1)
  have e28 := shelf_ok S1
  obtain ⟨H2, e85, W2⟩ := get_no S1.sh hn
  obtain ⟨H4, hw, hb4, W4, lt4⟩ := local_ent W2 zEn rfl
  have S4 := S.went W4
  obtain ⟨sl', H5, e88, T5, Kp5⟩ := put_new S4.sh c hn hf
  obtain ⟨rl', H6, e87, S6, Kv6⟩ := set_put S4 c e88 T5 Kp5 so
  have Kw : Kv a G sl rl H6 sl' rl' := (Kv.of_went W4).trans Kv6
  obtain ⟨o', H7, e9, S7, K7, O7⟩ := (O.kv Kw).snoc S6 (K0.trans Kw) hs hd c hol
  have i1 : (i : Int) < (cs.length : Int) := by omega
  have w1 : IntKind.i64.wrap ((i : Int) + 1) = ((i + 1 : Nat) : Int) := by rw [IntWalk.i64_in _ (by omega)]; omega
  refine ⟨sl', rl', o', _, H7, rf, ?_, S7, K7, O7, by simp⟩
  have e85' : E tbl 85 [.ptr a.f 0, .agg [.str c.a, .str c.i]] (G.res 1) = some (.tuple [.agg zEn, .bool false], H2) := e85
  simp only [Nat.add_zero] at hw
  simp [L53_0, i1, q1, q2, e78, e28, e85', hw, e87, w1, rdL_z, rdL_t, rdL_s, checkPairs, aExtract, e9, beq_dec]
theorem step_over (hl : posK cs[i].key l < l.length) (hk : l[posK cs[i].key l].key = cs[i].key) (ht : lessT l[posK cs[i].key l] cs[i] = true) (so : Sorted (l.set (posK cs[i].key l) cs[i])) :
    Step a h0 sl0 rl0 (l.set (posK cs[i].key l) cs[i]) ol (L53_0 (E tbl) [.ptr a.d 0, .int .i64 0, o, .int .i64 rf, sc, .int .i64 (cs.length : Int), .int .i64 (i : Int)] G) sc cs.length i := by
  obtain ⟨p, q1, q2⟩ := El.Src.el A i hi
  have hc := hr _ (List.getElem_mem hi)
  rw [cdE_f] at q2
  generalize cs[i] = c at *
  have e78 := card_ok c G
  rw [hc] at e78
  have S1 := S.went (went_res G 1)
  have e28 := shelf_ok S1
  obtain ⟨H2, e85, W2⟩ := get_in S1.sh hl hk
  obtain ⟨H4, hw, hb4, W4, lt4⟩ := local_ent W2 l[posK c.key l].ent rfl
  obtain ⟨H5, e86, W5⟩ := tless_ok l[posK c.key l] c H4
  rw [ht] at e86
  have S5 := S.went (W4.trans W5)
  obtain ⟨H6, e88, T6, Kp6⟩ := put_in S5.sh c hl hk
  obtain ⟨rl', H7, e87, S7, Kv7⟩ := set_put S5 c e88 T6 Kp6 so
  have Kw : Kv a G sl rl H7 sl rl' := (Kv.of_went (W4.trans W5)).trans Kv7
  obtain ⟨o', H8, e9, S8, K8, O8⟩ := (O.kv Kw).snoc S7 (K0.trans Kw) hs hd c hol
  have i1 : (i : Int) < (cs.length : Int) := by omega
  have w1 : IntKind.i64.wrap ((i : Int) + 1) = ((i + 1 : Nat) : Int) := by rw [IntWalk.i64_in _ (by omega)]; omega
  refine ⟨sl, rl', o', _, H8, rf, ?_, S8, K8, O8, by simp⟩
  have e85' : E tbl 85 [.ptr a.f 0, .agg [.str c.a, .str c.i]] (G.res 1) = some (.tuple [.agg l[posK c.key l].ent, .bool true], H2) := e85
  generalize l[posK c.key l] = e at *
  have r5 : H4.rd G.next 5 3 = some [.int .i64 e.t, .int .i64 e.k, .int .i64 e.n] := by rw [rd_of hb4 5 3 (by simp)]; rfl
  simp only [Nat.add_zero] at hw
  simp [L53_0, i1, q1, q2, e78, e28, e85', hw, e87, w1, rdL_z, rdL_t, rdL_s, checkPairs, aExtract, e9, beq_dec, r5, e86]
end
end Go.Proofs.YtinkiihdnepfjaaGreatDoor.Code
set_option maxRecDepth 100000
namespace Go.Proofs.YtinkiihdnepfjaaGreatDoor.Code
open Go.Fw
section
variable {a : At} {h0 : Heap} {sl0 rl0 sl rl : AVal} {G : Heap} {l : List Cd} (S : Sv a sl rl G l) (K0 : Kv a h0 sl0 rl0 G sl rl) (hs : a.s < h0.next) (hd : a.d < h0.next) {sc : AVal} {cs : List Cd} (A : SrcC sc G cs) (hcs : cs.length ≤ 64) (hr : ∀ c ∈ cs, cardB c = true) {o : AVal} {ol : List Cd} (O : Out a h0 sl rl G o ol) (hol : ol.length ≤ 100) (i : Nat) (hi : i < cs.length) (rf : Int)
include S K0 A hcs hr O
theorem step_stay (hl : posK cs[i].key l < l.length) (hk : l[posK cs[i].key l].key = cs[i].key) (ht : lessT l[posK cs[i].key l] cs[i] = false) :
    Step a h0 sl0 rl0 l ol (L53_0 (E tbl) [.ptr a.d 0, .int .i64 0, o, .int .i64 rf, sc, .int .i64 (cs.length : Int), .int .i64 (i : Int)] G) sc cs.length i := by
  obtain ⟨p, q1, q2⟩ := El.Src.el A i hi
  have hc := hr _ (List.getElem_mem hi)
  rw [cdE_f] at q2
  generalize cs[i] = c at *
  have e78 := card_ok c G
  rw [hc] at e78
  have S1 := S.went (went_res G 1)
  have e28 := shelf_ok S1
  obtain ⟨H2, e85, W2⟩ := get_in S1.sh hl hk
  obtain ⟨H4, hw, hb4, W4, lt4⟩ := local_ent W2 l[posK c.key l].ent rfl
  obtain ⟨H5, e86, W5⟩ := tless_ok l[posK c.key l] c H4
  rw [ht] at e86
  have S5 := S.went (W4.trans W5)
  have e28b := shelf_ok S5
  have hb5 : H5.blk G.next = some ⟨l[posK c.key l].ent, true⟩ := by rw [W5.old _ lt4, hb4]
  have hl' : posK (l[posK c.key l]).key l < l.length := by rw [hk]; exact hl
  have hk' : l[posK (l[posK c.key l]).key l].key = (l[posK c.key l]).key := by simp only [hk]
  obtain ⟨H6, e88, T6, Kp6⟩ := put_in S5.sh l[posK c.key l] hl' hk'
  have same : l.set (posK (l[posK c.key l]).key l) l[posK c.key l] = l := by
    simp only [hk]
    exact List.set_getElem_self _
  rw [same] at T6
  obtain ⟨S6, Kv6⟩ := S5.shelf T6 Kp6 S.sorted
  have Kw5 : Kv a G sl rl H5 sl rl := Kv.of_went (W4.trans W5)
  have Kw6 := Kw5.trans Kv6
  have i1 : (i : Int) < (cs.length : Int) := by omega
  have w1 : IntKind.i64.wrap ((i : Int) + 1) = ((i + 1 : Nat) : Int) := by rw [IntWalk.i64_in _ (by omega)]; omega
  have e85' : E tbl 85 [.ptr a.f 0, .agg [.str c.a, .str c.i]] (G.res 1) = some (.tuple [.agg l[posK c.key l].ent, .bool true], H2) := e85
  have eq3 : ∀ e : Cd, (e.t == c.t && (e.k == c.k && e.n == c.n)) = decide (e.t = c.t ∧ e.k = c.k ∧ e.n = c.n) := by
    intro e
    rw [Bool.eq_iff_iff]
    simp
  simp only [Nat.add_zero] at hw
  by_cases hq : l[posK c.key l].t = c.t ∧ l[posK c.key l].k = c.k ∧ l[posK c.key l].n = c.n
  · cases hg : l[posK c.key l].g with
    | false =>
      refine ⟨sl, rl, o, ol, H6, rf, ?_, S6, K0.trans Kw6, O.kv Kw6, by omega⟩
      have e3 := eq3 l[posK c.key l]
      rw [decide_eq_true hq] at e3
      generalize l[posK c.key l] = e at *
      have r5 : H4.rd G.next 5 3 = some [.int .i64 e.t, .int .i64 e.k, .int .i64 e.n] := by rw [rd_of hb4 5 3 (by simp)]; rfl
      have s5 : H5.rd G.next 5 3 = some [.int .i64 e.t, .int .i64 e.k, .int .i64 e.n] := by rw [rd_of hb5 5 3 (by simp)]; rfl
      have s8 : H5.rd G.next 8 1 = some [.bool e.g] := by rw [rd_of hb5 8 1 (by simp)]; rfl
      have s0 : H5.rd G.next 0 9 = some e.cells := by rw [rd_of hb5 0 9 (by simp)]; rfl
      rw [hg] at s8
      simp [L53_0, i1, q1, q2, e78, e28, e85', hw, w1, rdL_z, rdL_t, rdL_s, checkPairs, aExtract, beq_dec, r5, e86, s5, s8, s0, e3, e28b, e88]
    | true =>
      refine ⟨sl, rl, o, ol, H5, rf, ?_, S5, K0.trans Kw5, O.kv Kw5, by omega⟩
      have e3 := eq3 l[posK c.key l]
      rw [decide_eq_true hq] at e3
      generalize l[posK c.key l] = e at *
      have r5 : H4.rd G.next 5 3 = some [.int .i64 e.t, .int .i64 e.k, .int .i64 e.n] := by rw [rd_of hb4 5 3 (by simp)]; rfl
      have s5 : H5.rd G.next 5 3 = some [.int .i64 e.t, .int .i64 e.k, .int .i64 e.n] := by rw [rd_of hb5 5 3 (by simp)]; rfl
      have s8 : H5.rd G.next 8 1 = some [.bool e.g] := by rw [rd_of hb5 8 1 (by simp)]; rfl
      rw [hg] at s8
      simp [L53_0, i1, q1, q2, e78, e28, e85', hw, w1, rdL_z, rdL_t, rdL_s, checkPairs, aExtract, beq_dec, r5, e86, s5, s8, e3]
  · refine ⟨sl, rl, o, ol, H5, rf, ?_, S5, K0.trans Kw5, O.kv Kw5, by omega⟩
    have e3 := eq3 l[posK c.key l]
    rw [decide_eq_false hq] at e3
    generalize l[posK c.key l] = e at *
    have r5 : H4.rd G.next 5 3 = some [.int .i64 e.t, .int .i64 e.k, .int .i64 e.n] := by rw [rd_of hb4 5 3 (by simp)]; rfl
    have s5 : H5.rd G.next 5 3 = some [.int .i64 e.t, .int .i64 e.k, .int .i64 e.n] := by rw [rd_of hb5 5 3 (by simp)]; rfl
    simp [L53_0, i1, q1, q2, e78, e28, e85', hw, w1, rdL_z, rdL_t, rdL_s, checkPairs, aExtract, beq_dec, r5, e86, s5, e3]
include hs hd hol
theorem step_all : Step a h0 sl0 rl0 (into1 32 l cs[i]) ol (L53_0 (E tbl) [.ptr a.d 0, .int .i64 0, o, .int .i64 rf, sc, .int .i64 (cs.length : Int), .int .i64 (i : Int)] G) sc cs.length i := by
  have so := into1_sorted (most := 32) S.sorted cs[i]
  rcases inK_cases cs[i].key l with ⟨hl, hk, _⟩ | ⟨hk, hn⟩
  · unfold into1 at so ⊢
    rw [dif_pos hl, if_pos hk] at so ⊢
    by_cases ht : lessT l[posK cs[i].key l] cs[i] = true
    · rw [if_pos ht] at so ⊢
      exact step_over S K0 hs hd A hcs hr O hol i hi rf hl hk ht so
    · rw [if_neg ht] at so ⊢
      exact step_stay S K0 A hcs hr O i hi rf hl hk (by simpa using ht)
  · by_cases hf : 32 ≤ l.length
    · have e : into1 32 l cs[i] = l := by
        unfold into1
        split
        · rename_i h; rw [if_neg (hk h)]
        · rfl
      rw [e]
      exact step_full S K0 A hcs hr O i hi rf hn hf
    · have e : into1 32 l cs[i] = l.take (posK cs[i].key l) ++ cs[i] :: l.drop (posK cs[i].key l) := by
        unfold into1
        split
        · rename_i h; rw [if_neg (hk h)]
        · rfl
      rw [e] at so ⊢
      exact step_new S K0 hs hd A hcs hr O hol i hi rf hn (by omega) so
end
end Go.Proofs.YtinkiihdnepfjaaGreatDoor.Code
set_option maxRecDepth 100000
namespace Go.Proofs.YtinkiihdnepfjaaGreatDoor.Code
open Go.Fw
theorem into_ok {a : At} {sl rl : AVal} {h : Heap} {l : List Cd} (S : Sv a sl rl h l) {sc : AVal} {cs : List Cd} (A : SrcC sc h cs) (ext : ∀ b, slBlk sc = some b → Off a sl rl h b) (hcs : cs.length ≤ 64) (hr : ∀ c ∈ cs, cardB c = true) :
    ∃ v sl' rl' H, E tbl 53 [.ptr a.d 0, sc, .int .i64 0] h = some (v, H) ∧ Sv a sl' rl' H (intoAll 32 l cs) ∧ Kv a h sl rl H sl' rl' := by
  have ln := Fw.Src.len A
  have key : ∃ res, loop (L53_0 (E tbl)) [.ptr a.d 0, .int .i64 0, .nilSlice, .int .i64 0, sc, .int .i64 (cs.length : Int), .int .i64 0] h = some res ∧ ∃ o rf sl' rl' H, res = (1, [o, .int .i64 rf], H) ∧ Sv a sl' rl' H (intoAll 32 l cs) ∧ Kv a h sl rl H sl' rl' := by
    refine loop_ok (fun n xs G => ∃ (i : Nat) (o : AVal) (ol : List Cd) (rf : Int) (sl' rl' : AVal), n + i = cs.length ∧ Sv a sl' rl' G (intoAll 32 l (cs.take i)) ∧ Kv a h sl rl G sl' rl' ∧ Out a h sl' rl' G o ol ∧ ol.length ≤ i ∧ xs = [.ptr a.d 0, .int .i64 0, o, .int .i64 rf, sc, .int .i64 (cs.length : Int), .int .i64 (i : Int)]) _ ?_ cs.length _ _ ⟨0, .nilSlice, [], 0, sl, rl, rfl, S, Kv.of_went (Went.refl h), ⟨Fw.Own.nil _ _ _, fun b e => by cases e⟩, by simp, rfl⟩
    rintro n xs G ⟨i, o, ol, rf, sl', rl', hn, SG, K0, O, hol, rfl⟩
    by_cases hi : i < cs.length
    · left
      have AG : SrcC sc G cs := Fw.Src.kept A K0.next fun b hb => K0.old b (ext b hb)
      obtain ⟨sl2, rl2, o2, ol2, G2, rf2, e, S2, K2, O2, h2⟩ := step_all SG K0 S.slt S.dlt AG hcs hr O (by omega) i hi rf
      refine ⟨_, G2, e, n - 1, by omega, i + 1, o2, ol2, rf2, sl2, rl2, by omega, ?_, K2, O2, by omega, rfl⟩
      have : intoAll 32 l (cs.take (i + 1)) = into1 32 (intoAll 32 l (cs.take i)) cs[i] := by
        have e1 : cs.take (i + 1) = cs.take i ++ [cs[i]] := by rw [List.take_add_one, List.getElem?_eq_getElem hi]; rfl
        unfold intoAll
        rw [e1, List.foldl_append]
        rfl
      rw [this]
      exact S2
    · right
      have i1 : ¬ (i : Int) < (cs.length : Int) := by omega
      refine ⟨0, [o, .int .i64 rf], G, by simp [L53_0, i1], o, rf, sl', rl', G, rfl, ?_, K0⟩
      rw [List.take_of_length_le (by omega)] at SG
      exact SG
  obtain ⟨_, e1, o, rf, sl', rl', H, rfl, SH, KH⟩ := key
  refine ⟨.tuple [o, .int .i64 rf], sl', rl', H, ?_, SH, KH⟩
  have m1 : aMinMaxL false [.int .i64 0, .int .i64 1099511627776] = some (.int .i64 0) := by rw [min_two]; rfl
  have m2 : aMinMaxL true [.int .i64 0, .int .i64 0] = some (.int .i64 0) := by rw [max_two]; rfl
  rw [c53]
  simp only [S53, bin_ptr_nil, Option.bind_some, cond_bool, cond_false, m1, m2, ln, e1]
  rfl
theorem receive_ok {a : At} {sl rl : AVal} {h : Heap} {l : List Cd} (S : Sv a sl rl h l) {sc : AVal} {cs : List Cd} (A : SrcC sc h cs) (ext : ∀ b, slBlk sc = some b → Off a sl rl h b) (hcs : cs.length ≤ 64) (hr : ∀ c ∈ cs, cardB c = true) :
    ∃ v sl' rl' H, E tbl 30 [.ptr a.s 0, .int .i64 1, .agg (pushC sc)] h = some (v, H) ∧ Sv a sl' rl' H (intoAll 32 l cs) ∧ Kv a h sl rl H sl' rl' := by
  obtain ⟨v, sl', rl', H, e, S2, K⟩ := into_ok S A ext hcs hr
  refine ⟨.nilSlice, sl', rl', H, ?_, S2, K⟩
  have e50 := push_right A hcs hr
  have r4 := S.s4
  have r0 := S.s0
  have nn : aBin .neq (.iface true []) .nilIface .nilIface = some (.bool false) := rfl
  simp only [pushC] at e50
  rw [c30]
  simp [S30, pushC, rdL_z, rdL_t, rdL_s, e50, nn, r4, r0, e]
theorem cards_ok {f : Nat} {sl : AVal} {h : Heap} {l : List Cd} (S : Sh f sl h l) : ∃ o H, E tbl 32 [.ptr f 0] h = some (o, H) ∧ cdE.Own o H h.next l ∧ Went h H := by
  have r1 := S.l1
  have ln := Fw.Src.len S.own.src
  have hl := S.len
  have key : ∃ res, loop (L32_0 (E tbl)) [.nilSlice, sl, .int .i64 (l.length : Int), .int .i64 0] h = some res ∧ ∃ o H, res = (1, [o], H) ∧ cdE.Own o H h.next l ∧ Went h H := by
    refine loop_ok (fun n xs G => ∃ (i : Nat) (o : AVal), n + i = l.length ∧ Went h G ∧ cdE.Own o G h.next (l.take i) ∧ xs = [o, sl, .int .i64 (l.length : Int), .int .i64 (i : Int)]) _ ?_ l.length _ _ ⟨0, .nilSlice, rfl, Went.refl _, Fw.Own.nil _ _ _, rfl⟩
    rintro n xs G ⟨i, o, hn, W, O, rfl⟩
    by_cases hi : i < l.length
    · left
      have SG := S.went W
      obtain ⟨b, _, q1, q2, _⟩ := el_at SG.own i hi
      have htl : (l.take i).length = i := by simp; omega
      obtain ⟨o2, G2, e, O2, K2⟩ := El.Own.snoc (bytes := 88) (zero := zCd) O l[i] W.next (by omega) (by omega)
      have i1 : (i : Int) < (l.length : Int) := by omega
      have w1 : IntKind.i64.wrap ((i : Int) + 1) = ((i + 1 : Nat) : Int) := by rw [IntWalk.i64_in _ (by omega)]; omega
      have ht : l.take (i + 1) = l.take i ++ [l[i]] := by rw [List.take_add_one, List.getElem?_eq_getElem hi]; rfl
      rw [cdE_f] at e
      refine ⟨_, G2, ?_, n - 1, by omega, i + 1, o2, by omega, K2.went W fun b hb => (Fw.Own.blk O b hb).1, by rw [ht]; exact O2, rfl⟩
      simp [L32_0, i1, q1, q2, w1, rdL_z, rdL_t, rdL_s, e]
    · right
      have i1 : ¬ (i : Int) < (l.length : Int) := by omega
      rw [List.take_of_length_le (by omega)] at O
      exact ⟨0, _, G, by simp [L32_0, i1], o, G, rfl, O, W⟩
  obtain ⟨_, e1, o, H, rfl, O, W⟩ := key
  refine ⟨o, H, ?_, O, W⟩
  rw [c32]
  simp [S32, r1, ln, e1]
theorem desk_ok {a : At} {sl rl : AVal} {h : Heap} {l : List Cd} (S : Sv a sl rl h l) : E tbl 27 [.ptr a.s 0] h = some (.ptr a.d 0, h) := by
  have r4 := S.s4
  rw [c27]
  simp [S27, r4]
theorem same_ok {x y : AVal} {h : Heap} {l m : List Cd} (A : SrcC x h l) (B : SrcC y h m) (hm : m.length ≤ 4611686018427387904) : E tbl 31 [x, y] h = some (.bool (decide (l = m)), h) := by
  rw [c31, show S31 = equalS 9 [2, 2, 1, 1, 1, 1, 1, 1, 0] from rfl, equal_of cdE_eq A B hm]
  rfl
end Go.Proofs.YtinkiihdnepfjaaGreatDoor.Code
set_option maxRecDepth 100000
namespace Go.Proofs.YtinkiihdnepfjaaGreatDoor.Code
open Go.Fw
theorem queue_ok {h : Heap} {p : Nat} (hp : p < h.next) (hb : h.blk p = some ⟨[.int .i64 1], true⟩) :
    ∃ s' H, E tbl 46 [.slice p 0 1 1 1 true] h = some (.ptr h.next 0, H) ∧ Went h H ∧ h.next < H.next ∧ H.rd h.next 0 1 = some [s'] ∧ Fw.Src 1 s' H 1 [.int .i64 1] := by
  let h1 := h.alloc [.nilSlice, .nilSlice, .int .i64 0]
  have n1 : h1.next = h.next + 1 := rfl
  have b1 : h1.blk h.next = some ⟨[.nilSlice, .nilSlice, .int .i64 0], true⟩ := alloc_same _ _
  have r1 : h1.rd h.next 0 1 = some [.nilSlice] := rd_of b1 0 1 (by simp)
  have rp : h1.rd p 0 1 = some [.int .i64 1] := by rw [rd_blk (alloc_old _ _ (by omega)), rd_of hb 0 1 (by simp)]; rfl
  have l0 : aLen false .nilSlice = some (.int .i64 0) := rfl
  have lp : aLen false (.slice p 0 1 1 1 true) = some (.int .i64 1) := rfl
  have ia : aIaddr 1 (.slice p 0 1 1 1 true) (.int .i64 0) = some (.ptr p 0) := rfl
  have e105 : E tbl 105 [.nilSlice, .int .i64 1] h1 = some (.int .i64 (-1), h1) := by
    have e1 : loop (L105_0 (E tbl)) [.nilSlice, .int .i64 1, .int .i64 0, .int .i64 0] h1 = some (1, [], h1) := loop_done (by simp [L105_0])
    rw [c105]
    simp [S105, l0, e1]
  have e68 : E tbl 68 [.nilSlice, .int .i64 1] h1 = some (.bool false, h1) := by
    rw [c68]
    simp [S68, e105]
  obtain ⟨s', h2, e2, O2, K2⟩ := Fw.Own.snoc (bytes := 8) (zero := [.int .i64 0]) (news := [.int .i64 1]) (Fw.Own.nil 1 h1 h1.next) (by omega) rfl (Nat.le_refl _) (by omega) (by omega)
  have n2 := K2.next
  have b2 : h2.blk h.next = some ⟨[.nilSlice, .nilSlice, .int .i64 0], true⟩ := by rw [K2.old h.next (by omega) (fun e => by cases e), b1]
  have w3 : h2.wr h.next 0 [s'] = some (h2.setBlk h.next (some ⟨[s', .nilSlice, .int .i64 0], true⟩)) := wr_of b2 0 _ (by simp)
  let h3 := h2.setBlk h.next (some ⟨[s', .nilSlice, .int .i64 0], true⟩)
  have b3 : h3.blk h.next = some ⟨[s', .nilSlice, .int .i64 0], true⟩ := setBlk_same _ _ _
  have n3 : h3.next = h2.next := rfl
  have r3 : h3.rd h.next 0 1 = some [s'] := by rw [rd_of b3 0 1 (by simp)]; rfl
  have sb := fun b e => Fw.Own.blk O2 b e
  have O3 : Fw.Own 1 s' h3 h1.next 1 [.int .i64 1] := Fw.Own.kept O2 (Nat.le_refl _) fun b hb => setBlk_ne _ _ (by have := (sb b hb).1; omega)
  have a2 : aCells 1 s' = some [s'] := by
    obtain ⟨_, ⟨rfl, _⟩ | ⟨b, ex, rfl, _⟩⟩ := O2 <;> rfl
  have ls := Fw.Src.len O3.src
  have w1 : IntKind.i64.wrap 1 = 1 := rfl
  have s0 : L46_0 (E tbl) [.ptr h.next 0, .slice p 0 1 1 1 true, .int .i64 1, .int .i64 0] h1 = some (0, [.ptr h.next 0, .slice p 0 1 1 1 true, .int .i64 1, .int .i64 1], h3) := by
    have w3' : h2.wr h.next 0 [s'] = some h3 := w3
    simp [L46_0, ia, rp, r1, l0, e68, e2, a2, w3', w1]
  have s1 : L46_0 (E tbl) [.ptr h.next 0, .slice p 0 1 1 1 true, .int .i64 1, .int .i64 1] h3 = some (1, [.ptr h.next 0], h3) := by simp [L46_0]
  have lp2 := (loop_more s0).trans (loop_done s1)
  obtain ⟨m, em, am⟩ : ∃ m, aMkSlice 1 24 [.nilSlice] (.int .i64 1) (.int .i64 1) h3 = some (m, h3.alloc [.nilSlice]) ∧ aCells 1 m = some [m] := ⟨_, rfl, rfl⟩
  let h4 := h3.alloc [.nilSlice]
  have b4 : h4.blk h.next = some ⟨[s', .nilSlice, .int .i64 0], true⟩ := by rw [show h4.blk h.next = h3.blk h.next from alloc_old _ _ (by omega), b3]
  have w5 : h4.wr h.next 1 [m] = some (h4.setBlk h.next (some ⟨[s', m, .int .i64 0], true⟩)) := wr_of b4 1 _ (by simp)
  let h5 := h4.setBlk h.next (some ⟨[s', m, .int .i64 0], true⟩)
  have b5 : h5.blk h.next = some ⟨[s', m, .int .i64 0], true⟩ := setBlk_same _ _ _
  refine ⟨s', h5, ?_, ⟨by show h.next ≤ h2.next + 1; omega, fun b hb => ?_⟩, by show h.next < h2.next + 1; omega, by rw [rd_of b5 0 1 (by simp)]; rfl, ?_⟩
  · rw [c46]
    have w5' : (h3.alloc [.nilSlice]).wr h.next 1 [m] = some h5 := w5
    have lp2' : loop (L46_0 (E tbl)) [.ptr h.next 0, .slice p 0 1 1 1 true, .int .i64 1, .int .i64 0] (h.alloc [.nilSlice, .nilSlice, .int .i64 0]) = some (1, [.ptr h.next 0], h3) := lp2
    have ls' : aLen false s' = some (.int .i64 1) := ls
    simp [S46, lp, lp2', r3, ls', em, am, w5']
  · show (h4.setBlk _ _).blk b = _
    rw [setBlk_ne _ _ (by omega), show h4.blk b = h3.blk b from alloc_old _ _ (by omega), show h3.blk b = h2.blk b from setBlk_ne _ _ (by omega), K2.old b (by omega) (fun e => by cases e)]
    exact alloc_old _ _ (by omega)
  · refine (Fw.Own.kept O3 (h' := h5) (by show h2.next ≤ h2.next + 1; omega) fun b hb => ?_).src
    have := sb b hb
    show (h4.setBlk _ _).blk b = _
    rw [setBlk_ne _ _ (by omega), show h4.blk b = h3.blk b from alloc_old _ _ (by omega)]
theorem desk_new (h : Heap) : ∃ g, E tbl 45 [.int .i64 0, .int .i64 0] h = some (.ptr (h.next + 3) 0, (((h.alloc [.int .i64 32, .nilSlice]).alloc g).alloc [.int .i64 0, .nilSlice]).alloc [.int .i64 0, .int .i64 0, .int .i64 0, .int .i64 0, .ptr h.next 0, .ptr (h.next + 1) 0, .ptr (h.next + 2) 0]) := by
  have m1 : aMinMaxL false [.int .i64 0, .int .i64 1099511627776] = some (.int .i64 0) := by rw [min_two]; rfl
  have m2 : aMinMaxL true [.int .i64 0, .int .i64 0] = some (.int .i64 0) := by rw [max_two]; rfl
  have m3 : aMinMaxL false [.int .i64 32, .int .i64 32] = some (.int .i64 32) := by rw [min_two]; rfl
  have m4 : aMinMaxL true [.int .i64 0, .int .i64 32] = some (.int .i64 32) := by rw [max_two]; rfl
  have e64 : E tbl 64 [.int .i64 0] h = some (.int .i64 0, h) := by rw [c64]; simp only [S64, m1, m2, Option.bind_some]; rfl
  have e65 : E tbl 65 [.int .i64 32] h = some (.ptr h.next 0, h.alloc [.int .i64 32, .nilSlice]) := by rw [c65]; simp only [S65, m3, m4, Option.bind_some]; rfl
  have e66 : ∀ G, E tbl 66 [.int .i64 0] G = some (.ptr G.next 0, G.alloc [.int .i64 0, .int .i64 0, .int .i64 0]) := fun G => by rw [c66]; rfl
  have e67 : ∀ G, E tbl 67 [] G = some (.ptr G.next 0, G.alloc [.int .i64 0, .nilSlice]) := fun G => by rw [c67]; rfl
  refine ⟨[.int .i64 0, .int .i64 0, .int .i64 0], ?_⟩
  rw [c45]
  simp [S45, e64, e65, e66, e67]
  rfl
end Go.Proofs.YtinkiihdnepfjaaGreatDoor.Code
set_option maxRecDepth 100000
namespace Go.Proofs.YtinkiihdnepfjaaGreatDoor.Code
open Go.Fw
def Mem (a : At) (sl rl : AVal) (b : Nat) : Prop := b = a.s ∨ b = a.d ∨ b = a.f ∨ b = a.r ∨ slBlk sl = some b ∨ slBlk rl = some b
theorem new_ok {h : Heap} {p : Nat} (hp : p < h.next) (hb : h.blk p = some ⟨[.int .i64 1], true⟩) :
    ∃ a H, E tbl 26 [.int .i64 0, .slice p 0 1 1 1 true] h = some (.ptr a.s 0, H) ∧ Sv a .nilSlice .nilSlice H [] ∧ Went h H ∧ ∀ b, Mem a .nilSlice .nilSlice b → h.next ≤ b := by
  obtain ⟨g, e45⟩ := desk_new h
  generalize hA : (h.alloc [.int .i64 32, .nilSlice]) = A at e45
  generalize hB : A.alloc g = B at e45
  generalize hC : B.alloc [.int .i64 0, .nilSlice] = C at e45
  generalize hD : C.alloc [.int .i64 0, .int .i64 0, .int .i64 0, .int .i64 0, .ptr h.next 0, .ptr (h.next + 1) 0, .ptr (h.next + 2) 0] = D at e45
  have nA : A.next = h.next + 1 := by subst hA; rfl
  have nB : B.next = h.next + 2 := by subst hB; show A.next + 1 = _; omega
  have nC : C.next = h.next + 3 := by subst hC; show B.next + 1 = _; omega
  have nD : D.next = h.next + 4 := by subst hD; show C.next + 1 = _; omega
  have WA : Went h A := by subst hA; exact Went.alloc _ _
  have WB : Went A B := by subst hB; exact Went.alloc _ _
  have WC : Went B C := by subst hC; exact Went.alloc _ _
  have WD : Went C D := by subst hD; exact Went.alloc _ _
  have fA : A.blk h.next = some ⟨[.int .i64 32, .nilSlice], true⟩ := by subst hA; exact alloc_same _ _
  have rC : C.blk (h.next + 2) = some ⟨[.int .i64 0, .nilSlice], true⟩ := by subst hC; rw [← nB]; exact alloc_same _ _
  have dD : D.blk (h.next + 3) = some ⟨[.int .i64 0, .int .i64 0, .int .i64 0, .int .i64 0, .ptr h.next 0, .ptr (h.next + 1) 0, .ptr (h.next + 2) 0], true⟩ := by subst hD; rw [← nC]; exact alloc_same _ _
  have WhD := ((WA.trans WB).trans WC).trans WD
  obtain ⟨s', X, e46, WX, ltX, rX, SX⟩ := queue_ok (h := D) (p := p) (by omega) (by rw [WhD.old p hp, hb])
  have e69 : ∃ s2 Y, E tbl 69 [s'] X = some (s2, Y) ∧ Went X Y ∧ aCells 1 s2 = some [s2] := by
    obtain ⟨s2, Y, e, O, W⟩ := clone_of (bytes := 8) (zero := [.int .i64 0]) SX (by omega) (by omega) (by omega)
    refine ⟨s2, Y, ?_, W, ?_⟩
    · rw [c69, show S69 (E tbl) s' X = cloneS 1 8 [.int .i64 0] s' X from rfl, e]
      rfl
    · obtain ⟨_, ⟨rfl, _⟩ | ⟨b, ex, rfl, _⟩⟩ := O <;> rfl
  obtain ⟨s2, Y, e69, WY, a2⟩ := e69
  have e47 : E tbl 47 [.ptr D.next 0] X = some (s2, Y) := by
    rw [c47]
    simp [S47, rX, e69]
  have nY := (WX.trans WY).next
  have WDZ := (WX.trans WY).trans (Went.alloc Y [.int .i64 0, .int .i64 0, s2, .int .i64 0, .ptr (h.next + 3) 0, .ptr D.next 0])
  have nZ : (Y.alloc [.int .i64 0, .int .i64 0, s2, .int .i64 0, .ptr (h.next + 3) 0, .ptr D.next 0]).next = Y.next + 1 := rfl
  have dZ := (WDZ.old (h.next + 3) (by omega)).trans dD
  refine ⟨⟨Y.next, h.next + 3, h.next, h.next + 2⟩, Y.alloc [.int .i64 0, .int .i64 0, s2, .int .i64 0, .ptr (h.next + 3) 0, .ptr D.next 0], ?_, ?_, WhD.trans WDZ, ?_⟩
  · rw [c26]
    have k1 : aCells 1 (.ptr (h.next + 3) 0) = some [.ptr (h.next + 3) 0] := rfl
    have k2 : aCells 1 (.ptr D.next 0) = some [.ptr D.next 0] := rfl
    simp [S26, e45, e46, e47, a2, k1, k2]
  · refine ⟨by simp, by simp only; omega, ⟨_, _, _, _, alloc_same _ _⟩, ⟨_, _, _, _, _, dZ⟩, ⟨by simp only; omega, ?_, Fw.Own.nil _ _ _, (fun e => by cases e), by simp⟩, ⟨[], by simp only; omega, ⟨0, ?_⟩, Fw.Own.nil _ _ _, (fun e => by cases e), by simp⟩, ?_, (fun b e => by cases e), (fun b e => by cases e), (fun b e => by cases e), List.Pairwise.nil⟩
    · rw [WDZ.old _ (by simp only; omega), (WB.trans (WC.trans WD)).old _ (by simp only; omega), fA]
    · rw [WDZ.old _ (by simp only; omega), WD.old _ (by simp only; omega), rC]
    · simp only; omega
  · rintro b (rfl | rfl | rfl | rfl | e | e)
    · simp only; omega
    · simp only; omega
    · simp only; omega
    · simp only; omega
    · cases e
    · cases e
theorem Sv.mem {a : At} {sl rl : AVal} {h : Heap} {l : List Cd} (S : Sv a sl rl h l) {b : Nat} (m : Mem a sl rl b) : b < h.next := by
  obtain ⟨ks, R⟩ := S.row
  rcases m with rfl | rfl | rfl | rfl | e | e
  · exact S.slt
  · exact S.dlt
  · exact S.sh.lt
  · exact R.lt
  · exact (Fw.Own.blk S.sh.own b e).2
  · exact (Fw.Own.blk R.own b e).2
theorem Kv.mem {a : At} {h H : Heap} {sl rl sl' rl' : AVal} (K : Kv a h sl rl H sl' rl') {b : Nat} (m : Mem a sl' rl' b) : Mem a sl rl b ∨ h.next ≤ b := by
  rcases m with e | e | e | e | e | e
  · exact .inl (.inl e)
  · exact .inl (.inr (.inl e))
  · exact .inl (.inr (.inr (.inl e)))
  · exact .inl (.inr (.inr (.inr (.inl e))))
  · exact (K.bs b e).elim (fun h => .inl (.inr (.inr (.inr (.inr (.inl h)))))) .inr
  · exact (K.br b e).elim (fun h => .inl (.inr (.inr (.inr (.inr (.inr h)))))) .inr
theorem off_of {a : At} {sl rl : AVal} {h : Heap} {b : Nat} (lt : b < h.next) (m : ¬ Mem a sl rl b) : Off a sl rl h b :=
  ⟨lt, fun e => m (.inr (.inr (.inl e))), fun e => m (.inr (.inr (.inr (.inl e)))), fun e => m (.inr (.inr (.inr (.inr (.inl e))))), fun e => m (.inr (.inr (.inr (.inr (.inr e)))))⟩
structure Two (p : Nat) (ts : AVal) (tl : List Int) (A B : At) (s1 r1 s2 r2 : AVal) (h : Heap) (l : List Cd) : Prop where
  a : Sv A s1 r1 h l
  b : Sv B s2 r2 h l
  ap : ∀ x, Mem A s1 r1 x → ¬ Mem B s2 r2 x
  tape : Fw.Tape p ts tl h
  ta : ∀ x, (x = p ∨ slBlk ts = some x) → ¬ Mem A s1 r1 x
  tb : ∀ x, (x = p ∨ slBlk ts = some x) → ¬ Mem B s2 r2 x
theorem Tape.keep {p : Nat} {s : AVal} {l : List Int} {h H : Heap} (T : Fw.Tape p s l h) (hn : h.next ≤ H.next) (hb : ∀ b, b < h.next → (b = p ∨ slBlk s = some b) → H.blk b = h.blk b) : Fw.Tape p s l H where
  lt := Nat.lt_of_lt_of_le T.lt hn
  pos := by obtain ⟨n, h1, h2⟩ := T.pos; exact ⟨n, h1, by rw [hb p T.lt (.inl rfl), h2]⟩
  ints := T.ints.mono fun b e => hb b (T.ne b e).1 (.inr e)
  ne := fun b e => ⟨Nat.lt_of_lt_of_le (T.ne b e).1 hn, (T.ne b e).2⟩
  sz := T.sz
theorem tape_lt {p : Nat} {s : AVal} {l : List Int} {h : Heap} (T : Fw.Tape p s l h) {x : Nat} (m : x = p ∨ slBlk s = some x) : x < h.next := by
  rcases m with rfl | e
  · exact T.lt
  · exact (T.ne x e).1
end Go.Proofs.YtinkiihdnepfjaaGreatDoor.Code
set_option maxRecDepth 100000
namespace Go.Proofs.YtinkiihdnepfjaaGreatDoor.Code
open Go.Fw
theorem Two.round {p : Nat} {ts : AVal} {tl : List Int} {A B : At} {s1 r1 s2 r2 : AVal} {h : Heap} {l : List Cd} (T : Two p ts tl A B s1 r1 s2 r2 h l) (i : Nat) (hi : i < 12) :
    ∃ s1' r1' s2' r2' l' H, L5_0 (E tbl) [.ptr p 0, .ptr A.s 0, .ptr B.s 0, .int .i64 (i : Int)] h = some (0, [.ptr p 0, .ptr A.s 0, .ptr B.s 0, .int .i64 ((i + 1 : Nat) : Int)], H) ∧ Two p ts tl A B s1' r1' s2' r2' H l' := by
  obtain ⟨o, cs, H1, e1, O1, l1, c1, T1, P1⟩ := tcards_ok T.tape 6 (by omega)
  have n1 := P1.next
  have ob := fun b e => Fw.Own.blk O1 b e
  have sA1 : Sv A s1 r1 H1 l := T.a.same n1 fun b hb m => P1.old b hb fun e => T.ta b (.inl e) m
  have sB1 : Sv B s2 r2 H1 l := T.b.same n1 fun b hb m => P1.old b hb fun e => T.tb b (.inl e) m
  have hc : ∀ c ∈ cs, cardB c = true := fun c hc => (c1 c hc).1
  have extA : ∀ b, slBlk o = some b → Off A s1 r1 H1 b := fun b e => off_of (ob b e).2 fun m => by have := T.a.mem m; have := (ob b e).1; omega
  have extB : ∀ b, slBlk o = some b → Off B s2 r2 H1 b := fun b e => off_of (ob b e).2 fun m => by have := T.b.mem m; have := (ob b e).1; omega
  obtain ⟨v2, s1', r1', H2, e2, sA2, K2⟩ := receive_ok sA1 O1.src extA (by omega) hc
  have n2 := K2.next
  -- the other server is as it was
  have offB : ∀ b, Mem B s2 r2 b → Off A s1 r1 H1 b := fun b m => off_of (sB1.mem m) fun m' => T.ap b m' m
  have sB2 : Sv B s2 r2 H2 l := sB1.same n2 fun b hb m => K2.old b (offB b m)
  have S2 : SrcC o H2 cs := Fw.Src.kept O1.src n2 fun b e => K2.old b (extA b e)
  have extB2 : ∀ b, slBlk o = some b → Off B s2 r2 H2 b := fun b e => ⟨Nat.lt_of_lt_of_le (extB b e).lt n2, (extB b e).f, (extB b e).r, (extB b e).sl, (extB b e).rl⟩
  obtain ⟨v3, s3, r3, H3, e3, sB3, K3⟩ := receive_ok sB2 S2 extB2 (by omega) hc
  have n3 := K3.next
  have S3 : SrcC o H3 cs := Fw.Src.kept S2 n3 fun b e => K3.old b (extB2 b e)
  obtain ⟨v4, s4, r4, H4, e4, sB4, K4⟩ := receive_ok sB3 S3 (fun b e => K3.off (extB2 b e)) (by omega) hc
  rw [into_twice T.a.sorted cs] at sB4
  have K34 := K3.trans K4
  have n4 := K34.next
  -- the first server is as it was
  have memA : ∀ b, Mem A s1' r1' b → Mem A s1 r1 b ∨ H1.next ≤ b := fun b m => K2.mem m
  have offA : ∀ b, Mem A s1' r1' b → Off B s2 r2 H2 b := fun b m => off_of (sA2.mem m) fun m' => by
    rcases memA b m with h1 | h1
    · exact T.ap b h1 m'
    · have := sB1.mem m'; omega
  have sA4 : Sv A s1' r1' H4 (intoAll 32 l cs) := sA2.same n4 fun b hb m => K34.old b (offA b m)
  have e5a := desk_ok sA4
  have e5b := shelf_ok sA4
  obtain ⟨o5, H5, e5, O5, W5⟩ := cards_ok sA4.sh
  have sB5 := sB4.went W5
  have e6a := desk_ok sB5
  have e6b := shelf_ok sB5
  obtain ⟨o6, H6, e6, O6, W6⟩ := cards_ok sB5.sh
  have e7 := same_ok (W6.src O5.src) O6.src (by have := sB5.sh.len; omega)
  rw [decide_eq_true rfl] at e7
  have W46 := W5.trans W6
  -- the tape
  have tA : ∀ x, (x = p ∨ slBlk ts = some x) → Off A s1 r1 H1 x := fun x m => off_of (tape_lt T1 m) (T.ta x m)
  have tB : ∀ x, (x = p ∨ slBlk ts = some x) → Off B s2 r2 H2 x := fun x m => off_of (Nat.lt_of_lt_of_le (tape_lt T1 m) n2) (T.tb x m)
  have T4 : Fw.Tape p ts tl H4 := Tape.keep T1 (Nat.le_trans n2 n4) fun b hb m => by rw [K34.old b (tB b m), K2.old b (tA b m)]
  have T6 : Fw.Tape p ts tl H6 := T4.mono W46.next W46.old
  have i1 : (i : Int) < 12 := by omega
  have w1 : IntKind.i64.wrap ((i : Int) + 1) = ((i + 1 : Nat) : Int) := by rw [IntWalk.i64_in _ (by omega)]; omega
  have ao : aCells 1 o = some [o] := by
    obtain ⟨_, ⟨rfl, _⟩ | ⟨b, ex, rfl, _⟩⟩ := O1 <;> rfl
  refine ⟨s1', r1', s4, r4, intoAll 32 l cs, H6, ?_, ⟨sA4.went W46, sB4.went W46, fun x m m' => ?_, T6, fun x m m' => ?_, fun x m m' => ?_⟩⟩
  · have e1' : E tbl 29 [.ptr p 0, .int .i64 6] h = some (o, H1) := e1
    simp only [pushC] at e2 e3 e4
    simp [L5_0, i1, e1', ao, rdL_z, rdL_t, rdL_s, e2, e3, e4, e5a, e5b, e5, e6a, e6b, e6, e7, w1]
  · rcases K34.mem m' with h1 | h1
    · rcases memA x m with h2 | h2
      · exact T.ap x h2 h1
      · have := sB1.mem h1; omega
    · have := sA2.mem m; omega
  · rcases memA x m' with h2 | h2
    · exact T.ta x m h2
    · have := tape_lt T1 m; omega
  · rcases K34.mem m' with h1 | h1
    · exact T.tb x m h1
    · have := tape_lt T1 m; omega
end Go.Proofs.YtinkiihdnepfjaaGreatDoor.Code
