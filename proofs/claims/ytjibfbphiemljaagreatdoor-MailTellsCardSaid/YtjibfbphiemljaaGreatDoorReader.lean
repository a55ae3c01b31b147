/- YtjibfbphiemljaaGreatDoorReader -/
import Derived.Test.YtjibfbphiemljaaGreatDoorWrite
set_option linter.unusedSimpArgs false
set_option linter.unusedVariables false
namespace Go.Proofs.YtjibfbphiemljaaGreatDoor.Code
open Go.Fw
structure Only2 (q r : Nat) (h h' : Heap) : Prop where
  next : h.next ≤ h'.next
  old : ∀ b, b < h.next → b ≠ q → b ≠ r → h'.blk b = h.blk b
theorem Only2.refl (q r : Nat) (h : Heap) : Only2 q r h h := ⟨Nat.le_refl _, fun _ _ _ _ => rfl⟩
theorem Only2.trans {q r : Nat} {a b c : Heap} (x : Only2 q r a b) (y : Only2 q r b c) : Only2 q r a c :=
  ⟨Nat.le_trans x.next y.next, fun i hi h1 h2 => by rw [y.old i (Nat.lt_of_lt_of_le hi x.next) h1 h2, x.old i hi h1 h2]⟩
structure M (N q r : Nat) (h : Heap) (l : List UInt8) (bad odd : Bool) : Prop where
  hN : N ≤ h.next
  hq : q < N
  hr : r < N
  ne : q ≠ r
  blk : h.blk q = some ⟨[.ptr r 0, .bool odd], true⟩
  rd : R r h l bad
  buf : ∀ s x, h.blk r = some ⟨[s, x], true⟩ → ∀ c, slBlk s = some c → c < N ∧ c ≠ q
theorem M.mono {N q r : Nat} {h h' : Heap} {l : List UInt8} {bad odd : Bool} (Q : M N q r h l bad odd) (hn : h.next ≤ h'.next) (ho : ∀ b, b < N → h'.blk b = h.blk b) : M N q r h' l bad odd where
  hN := Nat.le_trans Q.hN hn
  hq := Q.hq
  hr := Q.hr
  ne := Q.ne
  blk := by rw [ho q Q.hq]; exact Q.blk
  rd := by
    obtain ⟨lt, s, h1, h2, h3⟩ := Q.rd
    exact ⟨by omega, s, by rw [ho r Q.hr]; exact h1, h2.mono hn fun b hb => ho b (Q.buf s _ h1 b hb).1, h3⟩
  buf := fun s x hs c hc => Q.buf s x (by rw [← ho r Q.hr]; exact hs) c hc
theorem M.took {N q r : Nat} {h h' : Heap} {l : List UInt8} {bad odd : Bool} {s : AVal} {o : List UInt8 × List UInt8 × Bool} (Q : M N q r h l bad odd) (T : Took r h s h' o) : M N q r h' o.2.1 o.2.2 odd where
  hN := by rw [T.next]; exact Q.hN
  hq := Q.hq
  hr := Q.hr
  ne := Q.ne
  blk := by rw [T.old q Q.ne]; exact Q.blk
  rd := T.rd
  buf := fun s' x hs c hc => by
    obtain ⟨_, s0, h1, _, _⟩ := Q.rd
    exact Q.buf s0 _ h1 c (T.held s0 s' _ _ h1 hs c hc)
theorem Took.only {q r : Nat} {h h' : Heap} {s : AVal} {o : List UInt8 × List UInt8 × Bool} (T : Took r h s h' o) : Only2 q r h h' := ⟨by rw [T.next]; exact Nat.le_refl _, fun b _ _ hr => T.old b hr⟩
theorem M.odd {N q r : Nat} {h : Heap} {l : List UInt8} {bad odd : Bool} (Q : M N q r h l bad odd) (x : Bool) :
    h.wr q 1 [.bool x] = some (h.setBlk q (some ⟨[.ptr r 0, .bool x], true⟩)) ∧ M N q r (h.setBlk q (some ⟨[.ptr r 0, .bool x], true⟩)) l bad x ∧ Only2 q r h (h.setBlk q (some ⟨[.ptr r 0, .bool x], true⟩)) := by
  refine ⟨wr_of Q.blk 1 _ (by simp), ⟨Q.hN, Q.hq, Q.hr, Q.ne, setBlk_same _ _ _, ?_, ?_⟩, Nat.le_refl _, fun b _ hq _ => setBlk_ne _ _ hq⟩
  · obtain ⟨lt, s, h1, h2, h3⟩ := Q.rd
    exact ⟨lt, s, by rw [setBlk_ne _ _ (Ne.symm Q.ne)]; exact h1, h2.mono (Nat.le_refl _) fun b hb => setBlk_ne _ _ (Q.buf s _ h1 b hb).2, h3⟩
  · intro s x hs c hc
    rw [setBlk_ne _ _ (Ne.symm Q.ne)] at hs
    exact Q.buf s x hs c hc
def MS (N q r : Nat) (h : Heap) (st : Option (List UInt8)) : Prop := ∃ l bad odd, M N q r h l bad odd ∧ st = if bad || odd then none else some l
theorem MS.mono {N q r : Nat} {h h' : Heap} {st : Option (List UInt8)} (Q : MS N q r h st) (hn : h.next ≤ h'.next) (ho : ∀ b, b < N → h'.blk b = h.blk b) : MS N q r h' st := by
  obtain ⟨l, b, o, Q, e⟩ := Q
  exact ⟨l, b, o, Q.mono hn ho, e⟩
theorem MS.ptr {N q r : Nat} {h : Heap} {st : Option (List UInt8)} (Q : MS N q r h st) : h.rd q 0 1 = some [.ptr r 0] := by
  obtain ⟨l, b, o, Q, e⟩ := Q
  exact rd_of Q.blk 0 1 (by simp)
def left {α : Type} (o : Option (α × List UInt8)) : Option (List UInt8) := o.map (·.2)
structure Step {α : Type} (N q r : Nat) (p : Pr α) (st : Option (List UInt8)) (x : α) (h h' : Heap) : Prop where
  ms : MS N q r h' (left (st.bind p))
  val : ∀ z, st.bind p = some z → z.1 = x
  only : Only2 q r h h'
theorem Step.bind {α β : Type} {N q r : Nat} {p : Pr α} {st : Option (List UInt8)} {x : α} {h h' : Heap} (S : Step N q r p st x h h') (f : α → Pr β) : st.bind (p.then f) = (left (st.bind p)).bind (f x) := by
  cases st with
  | none => rfl
  | some l =>
    show (p l).bind (fun z => f z.1 z.2) = ((p l).map (·.2)).bind (f x)
    cases hp : p l with
    | none => rfl
    | some z =>
      have := S.val z hp
      rw [← this]
      rfl
theorem step_end {α : Type} {N q r : Nat} {p : Pr α} {st st' : Option (List UInt8)} {x : α} {h h' : Heap} (ms : MS N q r h' st') (e : st.bind p = st'.bind (Pr.ret x)) (o : Only2 q r h h') : Step N q r p st x h h' := by
  refine ⟨?_, ?_, o⟩
  · rw [e]
    cases st' <;> exact ms
  · intro z hz
    rw [e] at hz
    cases st' with
    | none => cases hz
    | some l => cases hz; rfl
theorem take_none {n : Nat} {l : List UInt8} {bad : Bool} (h : bad = true) : takeF n l bad = ([], l, true) := by simp [takeF, h]
theorem take_short {n : Nat} {l : List UInt8} (h : l.length < n) (bad : Bool) : takeF n l bad = ([], l, true) := by simp [takeF, h]
theorem take_long {n : Nat} {l : List UInt8} (h : ¬ l.length < n) : takeF n l false = (l.take n, l.drop n, false) := by simp [takeF]; omega
theorem take_len (n : Nat) (l : List UInt8) (bad : Bool) : (takeF n l bad).1.length ≤ n := by
  unfold takeF
  split
  · simp
  · simp; omega
section
variable {N q r : Nat} {h : Heap} {st : Option (List UInt8)}
theorem mbyte (Q : MS N q r h st) : ∃ (x : Nat) (h' : Heap), E tbl 74 [.ptr r 0] h = some (.int .i64 x, h') ∧ x ≤ 255 ∧ Step N q r byteP st x h h' ∧ h'.next = h.next := by
  obtain ⟨l, bad, odd, Q, rfl⟩ := Q
  obtain ⟨s, h', e, _, T⟩ := rdByte_eq Q.rd
  refine ⟨_, h', e, by unfold byteV; have := UInt8.toNat_lt ((takeF 1 l bad).1.headD 0); omega, ⟨⟨_, _, _, Q.took T, ?_⟩, ?_, T.only⟩, T.next⟩
  · cases bad with
    | true => rw [take_none rfl]; rfl
    | false => cases odd with
      | true => simp [left]
      | false => cases l <;> simp [takeF, left, byteP]
  · intro z hz
    cases bad with
    | true => cases hz
    | false => cases odd with
      | true => cases hz
      | false => cases l with
        | nil => cases hz
        | cons c l => cases hz; simp [takeF, byteV]
theorem mint (Q : MS N q r h st) : ∃ (x : Int) (h' : Heap), E tbl 75 [.ptr r 0] h = some (.int .i64 x, h') ∧ I64 x ∧ Step N q r intP st x h h' ∧ h'.next = h.next := by
  obtain ⟨l, bad, odd, Q, rfl⟩ := Q
  obtain ⟨s, h', e, _, T⟩ := rdInt_eq Q.rd
  refine ⟨_, h', e, wrap64_range _, ⟨⟨_, _, _, Q.took T, ?_⟩, ?_, T.only⟩, T.next⟩
  · cases bad with
    | true => rw [take_none rfl]; rfl
    | false => cases odd with
      | true => simp [left]
      | false =>
        by_cases hl : l.length < 8
        · rw [take_short hl]; simp [left, intP, hl]
        · rw [take_long hl]; simp [left, intP, hl]
  · intro z hz
    cases bad with
    | true => cases hz
    | false => cases odd with
      | true => cases hz
      | false =>
        by_cases hl : l.length < 8
        · simp [intP, hl] at hz
        · rw [take_long hl]
          simp [intP, hl] at hz
          subst hz
          rfl
theorem mtext (Q : MS N q r h st) : ∃ (x : List UInt8) (h' : Heap), E tbl 92 [.ptr r 0] h = some (.str x, h') ∧ x.length ≤ 255 ∧ Step N q r textP st x h h' ∧ h'.next = h.next := by
  obtain ⟨l, bad, odd, Q, rfl⟩ := Q
  obtain ⟨s, h', e, _, T⟩ := rdText_eq Q.rd
  have hlen : (textF l bad).1.length ≤ 255 := by
    have hn : byteV (takeF 1 l bad).1 ≤ 255 := by unfold byteV; have := UInt8.toNat_lt ((takeF 1 l bad).1.headD 0); omega
    exact Nat.le_trans (take_len _ _ _) hn
  refine ⟨_, h', e, hlen, ⟨⟨_, _, _, Q.took T, ?_⟩, ?_, T.only⟩, T.next⟩
  · cases bad with
    | true => unfold textF; rw [take_none rfl, take_none rfl]; rfl
    | false => cases odd with
      | true => simp [left]
      | false =>
        cases l with
        | nil => simp [textF, takeF, left, textP, Pr.then, byteP]
        | cons c l =>
          have e1 : takeF 1 (c :: l) false = ([c], l, false) := by simp [takeF]
          have e2 : byteV [c] = c.toNat := rfl
          unfold textF
          rw [e1]
          simp only [e2]
          by_cases hl : l.length < c.toNat
          · rw [take_short hl]; simp [left, textP, Pr.then, byteP, hl]
          · rw [take_long hl]; simp [left, textP, Pr.then, byteP, hl]
  · intro z hz
    cases bad with
    | true => cases hz
    | false => cases odd with
      | true => cases hz
      | false =>
        cases l with
        | nil => cases hz
        | cons c l =>
          have e1 : takeF 1 (c :: l) false = ([c], l, false) := by simp [takeF]
          have e2 : byteV [c] = c.toNat := rfl
          unfold textF
          rw [e1]
          simp only [e2]
          by_cases hl : l.length < c.toNat
          · simp [textP, Pr.then, byteP, hl] at hz
          · rw [take_long hl]
            simp [textP, Pr.then, byteP, hl] at hz
            subst hz
            rfl
theorem mbit (Q : MS N q r h st) : ∃ (x : Bool) (h' : Heap), E tbl 77 [.ptr q 0] h = some (.bool x, h') ∧ Step N q r bitP st x h h' ∧ h'.next = h.next := by
  obtain ⟨n, h1, e1, hn, S1, n1⟩ := mbyte Q
  obtain ⟨l, bad, odd, Q1, el⟩ := S1.ms
  obtain ⟨w1, Q2, O2⟩ := Q1.odd (odd || decide ((n : Int) > 1))
  have r0 := Q.ptr
  have r1 : h1.rd q 1 1 = some [.bool odd] := rd_of Q1.blk 1 1 (by simp)
  refine ⟨decide (n = 1), _, ?_, ⟨⟨l, bad, _, Q2, ?_⟩, ?_, S1.only.trans O2⟩, n1⟩
  · have hb : ((n : Int) == 1) = decide (n = 1) := by rw [Bool.eq_iff_iff, beq_iff_eq, decide_eq_true_eq]; omega
    rw [c77]
    simp only [S77, nilchk_ptr, Option.bind_some, faddr_ptr, load_ptr, store_ptr, Nat.zero_add, r0, from_one, e1, r1, bin_gtr, g_or, p_or, List.getD_cons_zero, aCells_bool, w1, bin_eql, hb, ans_one]
  · unfold bitP
    rw [S1.bind, el]
    have hd : decide ((n : Int) > 1) = decide (n > 1) := by rw [Bool.eq_iff_iff, decide_eq_true_eq, decide_eq_true_eq]; omega
    rw [hd]
    by_cases hg : n > 1
    · have : decide (n > 1) = true := decide_eq_true hg
      rw [this]
      cases bad <;> cases odd <;> simp [left, hg]
    · have : decide (n > 1) = false := decide_eq_false hg
      rw [this]
      cases bad <;> cases odd <;> simp [left, hg]
  · intro z hz
    unfold bitP at hz
    rw [S1.bind, el] at hz
    cases hb : (bad || odd) with
    | true => rw [hb] at hz; cases hz
    | false =>
      rw [hb] at hz
      by_cases hg : n > 1
      · simp [hg] at hz
      · simp [hg] at hz
        subst hz
        rfl
theorem msum (Q : MS N q r h st) : ∃ (x : Int) (h' : Heap), E tbl 78 [.ptr q 0] h = some (.int .u32 x, h') ∧ U32 x ∧ Step N q r sumP st x h h' ∧ h'.next = h.next := by
  obtain ⟨n, h1, e1, hn, S1, n1⟩ := mint Q
  obtain ⟨l, bad, odd, Q1, el⟩ := S1.ms
  obtain ⟨w1, Q2, O2⟩ := Q1.odd (odd || decide (n < 0) || decide (n > 4294967295))
  have r0 := Q.ptr
  have r1 : h1.rd q 1 1 = some [.bool odd] := rd_of Q1.blk 1 1 (by simp)
  refine ⟨IntKind.u32.wrap n, _, ?_, by rw [IntKind.wrap_u32]; unfold U32; omega, ⟨⟨l, bad, _, Q2, ?_⟩, ?_, S1.only.trans O2⟩, n1⟩
  · rw [c78]
    simp only [S78, nilchk_ptr, Option.bind_some, faddr_ptr, load_ptr, store_ptr, Nat.zero_add, r0, from_one, e1, r1, bin_gtr, bin_lss, g_or, p_or, List.getD_cons_zero, aCells_bool, w1, conv_int, ans_one]
  · unfold sumP
    rw [S1.bind, el]
    by_cases hg : n < 0 ∨ 4294967295 < n
    · have : (odd || decide (n < 0) || decide (n > 4294967295)) = true := by
        rcases hg with hg | hg
        · simp [hg]
        · simp [hg]
      rw [this]
      cases bad <;> cases odd <;> simp [left, hg]
    · have : (odd || decide (n < 0) || decide (n > 4294967295)) = odd := by
        have h1 : decide (n < 0) = false := by simp; omega
        have h2 : decide (n > 4294967295) = false := by simp; omega
        rw [h1, h2]; simp
      rw [this]
      cases bad <;> cases odd <;> simp [left, hg]
  · intro z hz
    unfold sumP at hz
    rw [S1.bind, el] at hz
    cases hb : (bad || odd) with
    | true => rw [hb] at hz; cases hz
    | false =>
      rw [hb] at hz
      by_cases hg : n < 0 ∨ 4294967295 < n
      · simp [hg] at hz
      · simp [hg] at hz
        subst hz
        show n = _
        rw [IntWalk.u32_in _ (by omega)]
theorem mkey (Q : MS N q r h st) : ∃ (x : Ky) (h' : Heap), E tbl 76 [.ptr q 0] h = some (.agg [.str x.1, .str x.2], h') ∧ (x.1.length ≤ 255 ∧ x.2.length ≤ 255) ∧ Step N q r keyP st x h h' ∧ h'.next = h.next := by
  obtain ⟨a, h1, e1, l1, S1, n1⟩ := mtext Q
  obtain ⟨i, h2, e2, l2, S2, n2⟩ := mtext S1.ms
  have r0 := Q.ptr
  have r1 := S1.ms.ptr
  refine ⟨(a, i), h2, ?_, ⟨l1, l2⟩, step_end S2.ms ?_ (S1.only.trans S2.only), n2.trans n1⟩
  · rw [c76]
    simp [S76, r0, e1, r1, e2, aFill, aCells, AVal.cells?, splice, rdL_z, rdL_t]
  · unfold keyP Pr.map
    rw [S1.bind, S2.bind]
end
end Go.Proofs.YtjibfbphiemljaaGreatDoor.Code
