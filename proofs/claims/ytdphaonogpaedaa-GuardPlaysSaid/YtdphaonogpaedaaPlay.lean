/- Chapter 11: a run of renewals and ticks, beside the document's own. -/
import Derived.Test.YtdphaonogpaedaaHolds
import Derived.Test.YtdphaonogpaedaaFwZd
namespace Go.Proofs.Ytdphaonogpaedaa.Code
open Go.Fw

theorem ref_tick_eq {h : Heap} {b : Nat} {f l t : Int} (G : Gd h b f l t) (n : Int) (hf : -9223372036854775808 ≤ f ∧ f ≤ 9223372036854775807) (hn : -9223372036854775808 ≤ n ∧ n ≤ 9223372036854775807) :
    E tbl 18 [.ptr b 0, .int .i64 n] h = some (.tuple [], if n - f < 60 then h else h.setBlk b (gd (tickF f l t n) (tickL f l t n) 0)) := by
  rw [c18]
  have hu : ∀ x y : Int, -9223372036854775808 ≤ x ∧ x ≤ 9223372036854775807 → -9223372036854775808 ≤ y ∧ y ≤ 9223372036854775807 → y ≤ x → IntKind.u64.wrap (IntKind.u64.wrap x - IntKind.u64.wrap y) = x - y := by
    intro x y hx hy hxy
    rw [IntKind.wrap_u64, IntKind.wrap_u64, IntKind.wrap_u64]
    omega
  by_cases h1 : n < f
  · have h2 : n - f < 60 := by omega
    simp [S18, G.rd0, h1, h2]
  · have h60 : (60 : Int) ≠ 0 := by decide
    have h0 := hu n f hn hf (by omega)
    by_cases h2 : n - f < 60
    · simp [S18, G.rd0, h1, h2, h0]
    · have h3 : ¬ (n - f) / 60 = 0 := by omega
      have hq : IntKind.u64.wrap ((n - f).tdiv 60) = (n - f) / 60 := IntWalk.u64_quo _ _ (by omega)
      have h5 : IntKind.i64.wrap (f + IntKind.i64.wrap (IntKind.u64.wrap ((n - f) / 60 * 60))) = tickF f l t n := by
        unfold tickF
        rw [IntKind.wrap_u64, IntKind.wrap_i64, IntKind.wrap_i64]
        omega
      by_cases h4 : (n - f) / 60 = 1
      · have hL : tickL f l t n = t := by simp [tickL, h4]
        have h6 : ¬ (2 : Int) ≤ (n - f) / 60 := by omega
        simp [S18, G.rd0, h1, h2, h0, bin_quo, hq, G.rd2, G.wr1, h6, (Gd.set h b f t t).wr2, setBlk_twice, (Gd.set h b f t 0).rd0, (Gd.set h b f t 0).wr0, hL, h5]
      · have hL : tickL f l t n = 0 := by simp [tickL, h4]
        have h6 : (2 : Int) ≤ (n - f) / 60 := by omega
        simp [S18, G.rd0, h1, h2, h0, bin_quo, hq, G.rd2, G.wr1, h6, (Gd.set h b f t t).wr1, (Gd.set h b f 0 t).wr2, setBlk_twice, (Gd.set h b f 0 0).rd0, (Gd.set h b f 0 0).wr0, hL, h5]

def tkF (f l t n : Int) : Int := if n - f < 60 then f else tickF f l t n
def tkL (f l t n : Int) : Int := if n - f < 60 then l else tickL f l t n
def tkT (f t n : Int) : Int := if n - f < 60 then t else 0

theorem tk_eq {h : Heap} {b : Nat} {f l t : Int} (G : Gd h b f l t) (n : Int) (hf : -9223372036854775808 ≤ f ∧ f ≤ 9223372036854775807) (hn : -9223372036854775808 ≤ n ∧ n ≤ 9223372036854775807) :
    E tbl 15 [.ptr b 0, .int .i64 n] h = some (.tuple [], h.setBlk b (gd (tkF f l t n) (tkL f l t n) (tkT f t n))) ∧ E tbl 18 [.ptr b 0, .int .i64 n] h = some (.tuple [], h.setBlk b (gd (tkF f l t n) (tkL f l t n) (tkT f t n))) := by
  have e : (if n - f < 60 then h else h.setBlk b (gd (tickF f l t n) (tickL f l t n) 0)) = h.setBlk b (gd (tkF f l t n) (tkL f l t n) (tkT f t n)) := by
    unfold tkF tkL tkT
    split
    · rw [setBlk_id]; exact G
    · rfl
  rw [tick_eq G n hf hn, ref_tick_eq G n hf hn, e]
  exact ⟨rfl, rfl⟩

theorem tkF_in (f l t n : Int) (hf : -9223372036854775808 ≤ f ∧ f ≤ 9223372036854775807) (hn : -9223372036854775808 ≤ n ∧ n ≤ 9223372036854775807) : -9223372036854775808 ≤ tkF f l t n ∧ tkF f l t n ≤ 9223372036854775807 := by
  unfold tkF tickF
  split <;> omega

/-- The state of a run. -/
structure PI (h0 : Heap) (g w : Nat) (H : Heap) (f l t : Int) : Prop where
  g : Gd H g f l t
  w : Gd H w f l t
  old : ∀ b, b < h0.next → H.blk b = h0.blk b
  next : H.next = h0.next + 2
  rf : -9223372036854775808 ≤ f ∧ f ≤ 9223372036854775807

theorem PI.set {h0 H : Heap} {g w : Nat} {f l t : Int} (I : PI h0 g w H f l t) (hg : g = h0.next) (hw : w = h0.next + 1) (f' l' t' : Int) (hf : -9223372036854775808 ≤ f' ∧ f' ≤ 9223372036854775807) :
    PI h0 g w ((H.setBlk g (gd f' l' t')).setBlk w (gd f' l' t')) f' l' t' where
  g := by
    unfold Gd
    rw [setBlk_ne _ _ (by omega), setBlk_same]
    rfl
  w := by
    unfold Gd
    rw [setBlk_same]
    rfl
  old := fun b hb => by rw [setBlk_ne _ _ (by omega), setBlk_ne _ _ (by omega)]; exact I.old b hb
  next := I.next
  rf := hf

theorem decide_self (p : Prop) [Decidable p] : (decide p == decide p) = true := by simp

/-- One round. -/
theorem play_round {h0 H : Heap} {g w : Nat} {f l t : Int} (I : PI h0 g w H f l t) (hg : g = h0.next) (hw : w = h0.next + 1) {sk sn : AVal} {kinds ns : List Int} (hk : Ints .i64 sk h0 kinds) (hn : Ints .i64 sn h0 ns)
    (bk : ∀ b, slBlk sk = some b → b < h0.next) (bn : ∀ b, slBlk sn = some b → b < h0.next) (wf : ∀ x ∈ ns, -9223372036854775808 ≤ x ∧ x ≤ 9223372036854775807) (i : Nat) (h1 : i < kinds.length) (h2 : i < ns.length) (h3 : i < 80) :
    ∃ H' f' l' t', PI h0 g w H' f' l' t' ∧ L9_0 (E tbl) [sk, sn, .ptr g 0, .ptr w 0, .int .i64 i] H = some (0, [sk, sn, .ptr g 0, .ptr w 0, .int .i64 ((i + 1 : Nat) : Int)], H') := by
  have hmono : ∀ (H1 : Heap), (∀ b, b < h0.next → H1.blk b = h0.blk b) → Ints .i64 sk H1 kinds ∧ Ints .i64 sn H1 ns := fun H1 ho => ⟨hk.mono fun b hb => ho b (bk b hb), hn.mono fun b hb => ho b (bn b hb)⟩
  obtain ⟨hkH, hnH⟩ := hmono H I.old
  obtain ⟨p1, a1, l1⟩ := hkH.at i h1
  obtain ⟨p2, a2, l2⟩ := hnH.at i h2
  have q1 : ((i : Int) < (kinds.length : Int)) := by omega
  have q2 : ((i : Int) < (ns.length : Int)) := by omega
  have q3 : ((i : Int) < 80) := by omega
  have w1 : IntKind.i64.wrap ((i : Int) + 1) = (i : Int) + 1 := IntWalk.i64_in _ (by omega)
  have hwf : -9223372036854775808 ≤ ns.getD i 0 ∧ ns.getD i 0 ≤ 9223372036854775807 := by
    apply wf
    rw [List.getD_eq_getElem?_getD, List.getElem?_eq_getElem h2]
    exact List.getElem_mem h2
  have fin : ∀ (H' : Heap), (∀ b, b < h0.next → H'.blk b = h0.blk b) → aLoad H' 1 p2 = some [.int .i64 (ns.getD i 0)] := by
    intro H' ho
    obtain ⟨p, b1, b2⟩ := (hmono H' ho).2.at i h2
    rw [a2] at b1
    cases b1
    exact b2
  generalize ns.getD i 0 = x at *
  generalize kinds.getD i 0 = kd at *
  have hgw : w ≠ g := by omega
  have hold1 : ∀ y, ∀ b, b < h0.next → (H.setBlk g y).blk b = h0.blk b := fun y b hb => by rw [setBlk_ne _ _ (by omega)]; exact I.old b hb
  have Iw : ∀ f' l' t', Gd (H.setBlk g (gd f' l' t')) w f l t := fun f' l' t' => by unfold Gd; rw [setBlk_ne _ _ hgw]; exact I.w
  by_cases h4 : within kd 0 4 = 4
  · have I' := I.set hg hw (tkF f l t x) (tkL f l t x) (tkT f t x) (tkF_in f l t x I.rf hwf)
    refine ⟨_, _, _, _, I', ?_⟩
    have s1 := (tk_eq I.g x I.rf hwf).1
    have s2 := (tk_eq (Iw (tkF f l t x) (tkL f l t x) (tkT f t x)) x I.rf hwf).2
    have f1 := fin _ (hold1 (gd (tkF f l t x) (tkL f l t x) (tkT f t x)))
    have f2 := fin _ I'.old
    have hg1 := last_eq I'.g
    have hg2 := this_eq I'.g
    have hg3 := protects_eq I'.g x
    have hw1 := I'.w.rd1
    have hw2 := I'.w.rd2
    generalize (H.setBlk g (gd (tkF f l t x) (tkL f l t x) (tkT f t x))).setBlk w (gd (tkF f l t x) (tkL f l t x) (tkT f t x)) = H' at *
    simp [L9_0, hkH.len, hnH.len, q1, q2, q3, a1, l1, within_eq kd 0 4 (by omega) (by omega) (by omega), h4, a2, l2, s1, f1, s2, f2, hg1, hg2, hg3, hw1, hw2, need_eq, ref_need_eq, checkPairs, lookLog, pairOk, stays, logRd, beqO_refl1, beq_dec, w1]
  · have I' := I.set hg hw f l (min (IntKind.i64.wrap (t + 1)) 1048576) I.rf
    refine ⟨_, _, _, _, I', ?_⟩
    have s1 := renew_eq I.g
    have s2 := ref_renew_eq (Iw f l (min (IntKind.i64.wrap (t + 1)) 1048576))
    have f2 := fin _ I'.old
    have hg1 := last_eq I'.g
    have hg2 := this_eq I'.g
    have hg3 := protects_eq I'.g x
    have hw1 := I'.w.rd1
    have hw2 := I'.w.rd2
    have h4' : (within kd 0 4 == 4) = false := by simpa using h4
    generalize (H.setBlk g (gd f l (min (IntKind.i64.wrap (t + 1)) 1048576))).setBlk w (gd f l (min (IntKind.i64.wrap (t + 1)) 1048576)) = H' at *
    simp [L9_0, hkH.len, hnH.len, q1, q2, q3, a1, l1, within_eq kd 0 4 (by omega) (by omega) (by omega), h4', a2, l2, s1, s2, f2, hg1, hg2, hg3, hw1, hw2, need_eq, ref_need_eq, checkPairs, lookLog, pairOk, stays, logRd, beqO_refl1, beq_dec, w1]

theorem play_loop {h0 : Heap} {g w : Nat} (hg : g = h0.next) (hw : w = h0.next + 1) {sk sn : AVal} {kinds ns : List Int} (hk : Ints .i64 sk h0 kinds) (hn : Ints .i64 sn h0 ns)
    (bk : ∀ b, slBlk sk = some b → b < h0.next) (bn : ∀ b, slBlk sn = some b → b < h0.next) (wf : ∀ x ∈ ns, -9223372036854775808 ≤ x ∧ x ≤ 9223372036854775807) :
    ∀ (m i : Nat) (H : Heap) (f l t : Int), i + m = min (min kinds.length ns.length) 80 → PI h0 g w H f l t →
      ∃ H' f' l' t', PI h0 g w H' f' l' t' ∧ loop (L9_0 (E tbl)) [sk, sn, .ptr g 0, .ptr w 0, .int .i64 i] H = some (1, [.ptr g 0], H')
  | 0, i, H, f, l, t, hi, I => by
    have hkH := hk.mono fun b hb => I.old b (bk b hb)
    have hnH := hn.mono fun b hb => I.old b (bn b hb)
    refine ⟨H, f, l, t, I, loop_done (i := 0) ?_⟩
    by_cases q1 : (i : Int) < kinds.length
    · by_cases q2 : (i : Int) < ns.length
      · have q3 : ¬ (i : Int) < 80 := by omega
        simp [L9_0, hkH.len, hnH.len, q1, q2, q3]
      · simp [L9_0, hkH.len, hnH.len, q1, q2]
    · simp [L9_0, hkH.len, q1]
  | m + 1, i, H, f, l, t, hi, I => by
    obtain ⟨H1, f1, l1, t1, I1, e1⟩ := play_round I hg hw hk hn bk bn wf i (by omega) (by omega) (by omega)
    obtain ⟨H2, f2, l2, t2, I2, e2⟩ := play_loop hg hw hk hn bk bn wf m (i + 1) H1 f1 l1 t1 (by omega) I1
    exact ⟨H2, f2, l2, t2, I2, (loop_more e1).trans e2⟩

/-- A run answers true; what was there stays. -/
theorem play_eq (h0 : Heap) (now : Int) (hnow : -9223372036854775808 ≤ now ∧ now ≤ 9223372036854775807) {sk sn : AVal} {kinds ns : List Int} (hk : Ints .i64 sk h0 kinds) (hn : Ints .i64 sn h0 ns)
    (bk : ∀ b, slBlk sk = some b → b < h0.next) (bn : ∀ b, slBlk sn = some b → b < h0.next) (wf : ∀ x ∈ ns, -9223372036854775808 ≤ x ∧ x ≤ 9223372036854775807) :
    ∃ H, E tbl 9 [.int .i64 now, sk, sn] h0 = some (.bool true, H) ∧ H.next = h0.next + 2 ∧ ∀ b, b < h0.next → H.blk b = h0.blk b := by
  have I : PI h0 h0.next (h0.next + 1) ((h0.alloc [.int .i64 now, .int .i64 0, .int .i64 0]).alloc [.int .i64 now, .int .i64 0, .int .i64 0]) now 0 0 :=
    { g := by
        unfold Gd
        rw [alloc_old _ _ (by simp)]
        exact alloc_same _ _
      w := alloc_same _ _
      old := fun b hb => by rw [alloc_old _ _ (by simp; omega), alloc_old _ _ (by omega)]
      next := rfl
      rf := hnow }
  obtain ⟨H, f, l, t, I', e⟩ := play_loop rfl rfl hk hn bk bn wf (min (min kinds.length ns.length) 80) 0 _ now 0 0 (by omega) I
  refine ⟨H, ?_, I'.next, I'.old⟩
  rw [c9]
  have hfill : aFill [.int .i64 0, .int .i64 0, .int .i64 0] [(0, 1, .int .i64 now)] = some [.int .i64 now, .int .i64 0, .int .i64 0] := rfl
  have e' : loop (L9_0 (E tbl)) [sk, sn, .ptr h0.next 0, .ptr (h0.next + 1) 0, .int .i64 0] ((h0.alloc [.int .i64 now, .int .i64 0, .int .i64 0]).alloc [.int .i64 now, .int .i64 0, .int .i64 0]) = some (1, [.ptr h0.next 0], H) := e
  simp [S9, new_eq, hfill, e']

end Go.Proofs.Ytdphaonogpaedaa.Code
