/- Chapter 13: what the functions answer. -/
import Derived.Test.YtbbhibacjhfphaaCode
import Derived.Test.YtbbhibacjhfphaaFwZr
namespace Go.Proofs.Ytbbhibacjhfphaa.Code
set_option linter.unusedSimpArgs false
set_option linter.unusedVariables false
open Go.Fw

theorem within_ok : WithinOk (E tbl) 10 := by
  intro a lo hi h h0 h1 h2
  rw [c10]
  rw [show S10 = withinS from rfl, withinS_eq _ a lo hi (by omega) h1 (by omega)]
  rfl
theorem next_ok : NextOk (E tbl) 21 := by
  intro p s l h T n hn
  obtain ⟨r, h', e, x⟩ := tapeNext within_ok T n hn
  refine ⟨r, h', ?_, x⟩
  rw [c21, show S21 = tapeNextS 10 from rfl, e]
  rfl
theorem key_ok : KeyOk (E tbl) 18 := by
  intro p s l h T
  obtain ⟨a, i, h', e, x⟩ := tapeKey next_ok T
  refine ⟨a, i, h', ?_, x⟩
  rw [c18, show S18 = tapeKeyS 21 from rfl, e]
  rfl
theorem clone_eq {s : AVal} {h : Heap} {l : List KeyT} (S : SrcK s h l) (hl : l.length ≤ 1000) : ∃ o h', E tbl 19 [s] h = some (o, h') ∧ OwnK o h' h.next l ∧ Went h h' := by
  obtain ⟨o, h', e, O, W⟩ := clone_of (bytes := 32) (zero := [.str [], .str []]) S (by omega) (by omega) (by omega)
  refine ⟨o, h', ?_, O, W⟩
  have e2 : S19 (E tbl) s h = cloneS 2 32 [.str [], .str []] s h := rfl
  rw [c19, e2, e]
  rfl

theorem index_loop {s : AVal} {h : Heap} {l : List KeyT} (S : SrcK s h l) (hl : l.length ≤ 1000) (k : KeyT) :
    ∀ m xs H, (∃ i : Nat, H = h ∧ m + i = l.length ∧ (∀ j (hj : j < i) (hj2 : j < l.length), l[j] ≠ k) ∧ xs = [s, .int .i64 l.length, .int .i64 i, .agg [.str k.1, .str k.2]]) →
      ∃ r, loop (L22_0 (E tbl)) xs H = some r ∧ ((∃ i : Nat, r = (2, [.int .i64 i], h) ∧ k ∈ l) ∨ (r = (1, [], h) ∧ ¬ k ∈ l)) := by
  refine loop_ok _ _ ?_
  rintro m xs H ⟨i, rfl, hi, hno, rfl⟩
  by_cases h1 : i < l.length
  · have i1 : ((i : Int) < (l.length : Int)) := by omega
    obtain ⟨p, q1, q2⟩ := S.key i h1
    by_cases hk : k = l[i]
    · right
      refine ⟨1, [.int .i64 i], H, ?_, .inl ⟨i, rfl, by rw [hk]; exact List.getElem_mem h1⟩⟩
      simp [L22_0, i1, q1, q2, hk]
    · left
      have w1 : IntKind.i64.wrap ((i : Int) + 1) = ((i + 1 : Nat) : Int) := wrap_succ _ (by omega)
      refine ⟨_, _, ?_, m - 1, by omega, i + 1, rfl, by omega, ?_, rfl⟩
      · have hk' : ¬ ((k.1, k.2) = (l[i].1, l[i].2)) := hk
        simp only [L22_0, List.getD_cons_succ, List.getD_cons_zero, bin_lss, Option.bind_some, i1, decide_true, cond_bool, cond_true, q1, q2, aggCells_agg, rdL_t, rdL_z, Option.map_some, from_agg, eq_key, hk', decide_false, cond_false, bin_add, w1]
      · intro j hj hj2
        by_cases hji : j = i
        · subst hji; exact fun e => hk e.symm
        · exact hno j (by omega) hj2
  · right
    have i1 : ¬ ((i : Int) < (l.length : Int)) := by omega
    refine ⟨0, [], H, by simp [L22_0, i1], .inr ⟨rfl, ?_⟩⟩
    intro hm
    obtain ⟨j, hj, e⟩ := List.getElem_of_mem hm
    exact hno j (by omega) hj e

theorem contains_eq {s : AVal} {h : Heap} {l : List KeyT} (S : SrcK s h l) (hl : l.length ≤ 1000) (k : KeyT) : E tbl 20 [s, .agg [.str k.1, .str k.2]] h = some (.bool (decide (k ∈ l)), h) := by
  obtain ⟨r, e, hr⟩ := index_loop S hl k l.length _ h ⟨0, rfl, by omega, fun j hj => by omega, rfl⟩
  rw [c20]
  simp only [S20, cellsQ_agg, Option.bind_some, rdL_t, rdL_z, Option.map_some, from_agg]
  rw [c22]
  simp only [S22, cellsQ_agg, Option.bind_some, S.len]
  simp only [Int.cast_ofNat_Int] at e
  rw [e]
  rcases hr with ⟨i, rfl, hk⟩ | ⟨rfl, hk⟩
  · simp [hk, beq_dec]
  · simp [hk, beq_dec]

theorem since_loop {s : AVal} {h : Heap} {l : List KeyT} (S : SrcK s h l) (hl : l.length ≤ 1000) :
    ∀ m xs H, (∃ (i : Nat) (o : AVal) (ol : List KeyT), m + i = l.length ∧ OwnK o H h.next ol ∧ ol.length ≤ i ∧ ol ++ lasts (l.drop i) = lasts l ∧ Went h H ∧ xs = [s, o, s, .int .i64 l.length, .int .i64 i]) →
      ∃ r, loop (L13_0 (E tbl)) xs H = some r ∧ ∃ o H', r = (1, [o], H') ∧ OwnK o H' h.next (lasts l) ∧ Went h H' := by
  refine loop_ok _ _ ?_
  rintro m xs H ⟨i, o, ol, hi, O, hol, he, W, rfl⟩
  have S' : SrcK s H l := W.src S
  by_cases h1 : i < l.length
  · left
    have i1 : ((i : Int) < (l.length : Int)) := by omega
    obtain ⟨p, q1, q2⟩ := S'.key i h1
    obtain ⟨s2, q3, S2, _⟩ := S'.restK (i + 1) (by omega)
    have w1 : IntKind.i64.wrap ((i : Int) + 1) = ((i + 1 : Nat) : Int) := wrap_succ _ (by omega)
    have q4 := contains_eq S2 (by rw [List.length_drop]; omega) l[i]
    have hd : l.drop i = l[i] :: l.drop (i + 1) := List.drop_eq_getElem_cons h1
    rw [hd] at he
    by_cases hk : l[i] ∈ l.drop (i + 1)
    · rw [lasts, if_pos hk] at he
      refine ⟨_, _, ?_, m - 1, by omega, i + 1, o, ol, by omega, O, by omega, he, W, rfl⟩
      simp only [L13_0, List.getD_cons_succ, List.getD_cons_zero, bin_lss, Option.bind_some, i1, decide_true, cond_bool, cond_true, q1, q2, from_agg, aCells_agg, List.length_cons, List.length_nil, Nat.zero_add, if_pos, Nat.reduceAdd, bin_add, w1, q3, splice_t, splice_n, rdL_t, rdL_z, Option.map_some, q4, hk, un_not, Bool.not_true, cond_false, ble_dec, show Nat.beq 0 0 = true from rfl, Nat.le_refl]
    · rw [lasts, if_neg hk] at he
      obtain ⟨o', H', q5, O', K'⟩ := O.snocK (bytes := 32) (zero := [.str [], .str []]) l[i] W.next (by omega) (by omega)
      refine ⟨_, _, ?_, m - 1, by omega, i + 1, o', ol ++ [l[i]], by omega, O', by simp; omega, by rw [List.append_assoc]; exact he, K'.went W fun b hb => (O.blk b hb).1, rfl⟩
      simp only [L13_0, List.getD_cons_succ, List.getD_cons_zero, bin_lss, Option.bind_some, i1, decide_true, cond_bool, cond_true, q1, q2, from_agg, aCells_agg, List.length_cons, List.length_nil, Nat.zero_add, if_pos, Nat.reduceAdd, bin_add, w1, q3, splice_t, splice_n, rdL_t, rdL_z, Option.map_some, q4, hk, un_not, decide_false, Bool.not_false, cond_false, ble_dec, show Nat.beq 0 0 = true from rfl, Nat.le_refl, reps_s, reps_z, List.append_nil, aFill_cons, aFill_nil, q5]
  · right
    have i1 : ¬ ((i : Int) < (l.length : Int)) := by omega
    rw [List.drop_eq_nil_of_le (by omega), lasts, List.append_nil] at he
    subst he
    exact ⟨0, [o], H, by simp [L13_0, i1], o, H, rfl, O, W⟩

theorem since_lasts {s : AVal} {h : Heap} {l : List KeyT} (S : SrcK s h l) (hl : l.length ≤ 1000) : ∃ o H, loop (L13_0 (E tbl)) [s, .nilSlice, s, .int .i64 l.length, .int .i64 0] h = some (1, [o], H) ∧ OwnK o H h.next (lasts l) ∧ Went h H := by
  obtain ⟨r, e, o, H, rfl, O, W⟩ := since_loop S hl l.length _ h ⟨0, .nilSlice, [], by omega, Own.nil _ _ _, by simp, rfl, Went.refl h, rfl⟩
  exact ⟨o, H, e, O, W⟩

/-- What lies behind a row of the program: its number, its last keys. -/
structure RowAt (pr : Nat) (sl : AVal) (h : Heap) (seq : Int) (l : List KeyT) : Prop where
  lt : pr < h.next
  blk : h.blk pr = some ⟨[.int .i64 seq, sl], true⟩
  own : OwnK sl h 0 l
  ne : ∀ b, slBlk sl = some b → b ≠ pr
/-- A row and its keys may be written; nothing else. -/
structure Rowed (pr : Nat) (sl : AVal) (h h' : Heap) : Prop where
  next : h.next ≤ h'.next
  old : ∀ b, b < h.next → b ≠ pr → slBlk sl ≠ some b → h'.blk b = h.blk b

def last16 (l : List KeyT) : List KeyT := l.drop (l.length - 16)

theorem RowAt.went {pr : Nat} {sl : AVal} {h h' : Heap} {seq : Int} {l : List KeyT} (R : RowAt pr sl h seq l) (W : Went h h') : RowAt pr sl h' seq l :=
  ⟨Nat.lt_of_lt_of_le R.lt W.next, by rw [W.old _ R.lt]; exact R.blk, W.own R.own, R.ne⟩

theorem add_eq {pr : Nat} {sl : AVal} {h : Heap} {seq : Int} {l : List KeyT} (R : RowAt pr sl h seq l) (hl : l.length ≤ 16) (hs : 0 ≤ seq ∧ seq < 1000000) (k : KeyT) :
    ∃ sl' h', E tbl 12 [.ptr pr 0, .agg [.str k.1, .str k.2]] h = some (.int .i64 (seq + 1), h') ∧ RowAt pr sl' h' (seq + 1) (last16 (l ++ [k])) ∧ Rowed pr sl h h' ∧ ∀ b, slBlk sl' = some b → h.next ≤ b := by
  obtain ⟨lt, blk, own, ne⟩ := R
  have w1 : IntKind.i64.wrap (seq + 1) = seq + 1 := IntWalk.i64_in _ (by omega)
  obtain ⟨h10, d10⟩ : ∃ x, x = h.setBlk pr (some ⟨[.int .i64 (seq + 1), sl], true⟩) := ⟨_, rfl⟩
  have n10 : h10.next = h.next := by rw [d10]; rfl
  have b10 : h10.blk pr = some ⟨[.int .i64 (seq + 1), sl], true⟩ := by rw [d10, setBlk_same]
  have o10 : OwnK sl h10 0 l := own.kept (by omega) fun b hb => by rw [d10, setBlk_ne _ _ (ne b hb)]
  obtain ⟨s', h18, e18, O18, K18⟩ := o10.snocK (bytes := 32) (zero := [.str [], .str []]) k (by omega) (by omega) (by omega)
  have sne : ∀ b, slBlk s' = some b → b ≠ pr := by
    intro b hb
    rcases K18.blk b hb with h1 | h1
    · exact ne b h1
    · omega
  have b18 : h18.blk pr = some ⟨[.int .i64 (seq + 1), sl], true⟩ := by
    rw [K18.old pr (by omega) (fun e => ne pr e rfl), b10]
  obtain ⟨h22, d22⟩ : ∃ x, x = h18.setBlk pr (some ⟨[.int .i64 (seq + 1), s'], true⟩) := ⟨_, rfl⟩
  have n22 : h22.next = h18.next := by rw [d22]; rfl
  have b22 : h22.blk pr = some ⟨[.int .i64 (seq + 1), s'], true⟩ := by rw [d22, setBlk_same]
  have O22 : OwnK s' h22 0 (l ++ [k]) := O18.kept (by omega) fun b hb => by rw [d22, setBlk_ne _ _ (sne b hb)]
  have hlen : (l ++ [k]).length = l.length + 1 := by simp
  obtain ⟨s2, e2, S2, _⟩ := O22.src.restK ((l ++ [k]).length - 16) (by omega)
  obtain ⟨o, h35, e35, O35, W35⟩ := clone_eq S2 (by rw [List.length_drop]; omega)
  have b35 : h35.blk pr = some ⟨[.int .i64 (seq + 1), s'], true⟩ := by rw [W35.old pr (by have := K18.next; omega), b22]
  have one : ∀ b, slBlk o = some b → h22.next ≤ b ∧ b ≠ pr := by
    intro b hb
    have := (O35.blk b hb).1
    have := K18.next
    exact ⟨by omega, by omega⟩
  have hk18 := K18.next
  have hw35 := W35.next
  refine ⟨o, h35.setBlk pr (some ⟨[.int .i64 (seq + 1), o], true⟩), ?_, ⟨by rw [setBlk_next]; omega, setBlk_same _ _ _, ?_, fun b hb => (one b hb).2⟩, ⟨by rw [setBlk_next]; omega, fun b hb hp hsl => ?_⟩, fun b hb => by have := (one b hb).1; omega⟩
  · have wm : IntKind.i64.wrap (((l ++ [k]).length : Int) - 16) = ((l ++ [k]).length : Int) - 16 := IntWalk.i64_in _ (by omega)
    have mx : max 0 (((l ++ [k]).length : Int) - 16) = (((l ++ [k]).length - 16 : Nat) : Int) := by omega
    have cs : aCells 1 s' = some [s'] := by
      obtain ⟨_, ⟨rfl, _⟩ | ⟨b, ex, rfl, _⟩⟩ := O18 <;> rfl
    have co : aCells 1 o = some [o] := by
      obtain ⟨_, ⟨rfl, _⟩ | ⟨b, ex, rfl, _⟩⟩ := O35 <;> rfl
    have r0 : h.rd pr 0 1 = some [.int .i64 seq] := rd_of blk 0 1 (by simp)
    have r10 : h10.rd pr 1 1 = some [sl] := rd_of b10 1 1 (by simp)
    have r22 : h22.rd pr 1 1 = some [s'] := rd_of b22 1 1 (by simp)
    have wr0 : h.wr pr 0 [.int .i64 (seq + 1)] = some h10 := by rw [wr_of blk 0 _ (by simp), d10]; rfl
    have wr18 : h18.wr pr 1 [s'] = some h22 := by rw [wr_of b18 1 _ (by simp), d22]; rfl
    have wr35 : h35.wr pr 1 [o] = some (h35.setBlk pr (some ⟨[.int .i64 (seq + 1), o], true⟩)) := by rw [wr_of b35 1 _ (by simp)]; rfl
    have rz : (h35.setBlk pr (some ⟨[.int .i64 (seq + 1), o], true⟩)).rd pr 0 1 = some [.int .i64 (seq + 1)] := rd_of (setBlk_same _ _ _) 0 1 (by simp)
    have hne : ¬ (pr = h10.next) := by omega
    have ck : checkPairs [(6, some (.al h10.next)), (4, logRd (.ptr pr (0 + 1)) 1)] [(4, 6)] = true := by
      simp [checkPairs, stays, beq_dec, hne]
    rw [c12]
    simp only [S12, cellsQ_agg, Option.bind_some, nilchk_ptr, faddr_ptr, load_ptr, store_ptr, Nat.add_zero, Nat.zero_add, r0, from_one, bin_add, w1, aCells_int, wr0, r10, rdL_t, rdL_z, Option.map_some, from_agg, reps_s, reps_z, List.append_nil, aFill_cons, aFill_nil, aCells_agg, List.length_cons, List.length_nil, Nat.reduceAdd, if_pos, Nat.le_refl, splice_t, splice_n, e18, cs, wr18, ck, cond_true, r22, O22.src.len, bin_sub, wm, max_two, mx, e2, e35, co, wr35, rz]
    simp only [Nat.zero_add] at ck
    simp only [ck, cond_true, r22, Option.bind_some, from_one, O22.src.len, bin_sub, wm, max_two, mx, e2, e35, co, wr35, rz, ans_one]
  · refine Own.kept (Own.base ?_ (Nat.zero_le h22.next)) (by rw [setBlk_next]; exact Nat.le_refl _) fun b hb => setBlk_ne _ _ (one b hb).2
    have : (l ++ [k]).drop ((l ++ [k]).length - 16) = last16 (l ++ [k]) := rfl
    rw [← this]
    exact O35
  · rw [setBlk_ne _ _ hp, W35.old b (by omega), d22, setBlk_ne _ _ hp, K18.old b (by omega) hsl, d10, setBlk_ne _ _ hp]

end Go.Proofs.Ytbbhibacjhfphaa.Code
