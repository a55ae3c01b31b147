/- YtjibfbphiemljaaGreatDoorRefC -/
import Derived.Test.YtjibfbphiemljaaGreatDoorRefB
set_option linter.unusedSimpArgs false
set_option linter.unusedVariables false
namespace Go.Proofs.YtjibfbphiemljaaGreatDoor.Code
open Go.Fw
theorem bytes6_ok {h : Heap} {m : Ms} {sc sk : AVal} (A : MsAt h m sc sk) (hu : U32 m.sum) (RM : RightM m) : ∃ v H, E tbl 9 [.agg (m.cells sc sk)] h = some (v, H) ∧ Fresh h v H (bytesM m) := by
  obtain ⟨hk, _, _, _, ⟨l1, l2⟩, _⟩ := RM
  obtain ⟨b1, h1, e1, F1⟩ := rbyte_eq (Bs.nil h) (by simp) m.kind
  rw [List.nil_append] at F1
  obtain ⟨kind, op, st, code, tag, n, seq, ka, ki, full, sum, cards, keys⟩ := m
  simp only at hk l1 l2 hu e1 F1
  have ek : kind = 1 ∨ kind = 2 ∨ kind = 3 ∨ kind = 4 ∨ kind = 5 := by omega
  have k1 := keyBs_len (ka, ki)
  have sc0 := sum_conv hu
  rcases ek with rfl | rfl | rfl | rfl | rfl
  · obtain ⟨b2, h2, e2, F2⟩ := rint_eq F1.bs tag (by simp)
    obtain ⟨b3, h3, e3, F3⟩ := rbyte_eq F2.bs (by simp) op
    obtain ⟨b4, h4, e4, F4⟩ := rwkey_ok F3.bs (ka, ki) (by simp)
    obtain ⟨b5, h5, e5, F5⟩ := rint_eq F4.bs n (by simp; omega)
    obtain ⟨b6, h6, e6, F6⟩ := rbyte_eq F5.bs (by simp; omega) st
    obtain ⟨b7, h7, e7, F7⟩ := rint_eq F6.bs seq (by simp; omega)
    have F8 := (((((F1.thenF F2).thenF F3).thenF F4).thenF F5).thenF F6).thenF F7
    refine ⟨b7, h7, ?_, by simpa [bytesM, bodyBs, askBs] using F8⟩
    rw [c9]
    simp [S9, rdL_z, rdL_t, rdL_s, e1, e2, e3, e4, e5, e6, e7, checkPairs]
  · obtain ⟨b2, h2, e2, F2⟩ := rint_eq F1.bs tag (by simp)
    obtain ⟨b3, h3, e3, F3⟩ := rbyte_eq F2.bs (by simp) op
    obtain ⟨b4, h4, e4, F4⟩ := rwkey_ok F3.bs (ka, ki) (by simp)
    obtain ⟨b5, h5, e5, F5⟩ := rbyte_eq F4.bs (by simp; omega) code
    obtain ⟨b6, h6, e6, F6⟩ := rbyte_eq F5.bs (by simp; omega) (bitI full)
    obtain ⟨b7, h7, e7, F7⟩ := rint_eq F6.bs seq (by simp; omega)
    obtain ⟨b8, h8, e8, F8⟩ := rint_eq F7.bs sum (by simp; omega)
    have W := ((((((F1.thenF F2).thenF F3).thenF F4).thenF F5).thenF F6).thenF F7).thenF F8
    obtain ⟨b9, h9, e9, F9⟩ := rwcards_ok F8.bs (W.went.src A.cards) (by simp only; omega) (by simp; omega)
    have F10 := W.thenF F9
    have bt := rbit_ok full h5
    refine ⟨b9, h9, ?_, by simpa [bytesM, bodyBs, ansBs] using F10⟩
    rw [c9]
    simp [S9, rdL_z, rdL_t, rdL_s, e1, e2, e3, e4, e5, bt, e6, e7, sc0, -conv_int, e8, e9, checkPairs]
  · obtain ⟨b9, h9, e9, F9⟩ := rwcards_ok F1.bs (F1.went.src A.cards) (by simp only; omega) (by simp)
    have F10 := F1.thenF F9
    refine ⟨b9, h9, ?_, by simpa [bytesM, bodyBs] using F10⟩
    rw [c9]
    simp [S9, rdL_z, rdL_t, rdL_s, e1, e9]
  · obtain ⟨b9, h9, e9, F9⟩ := rwcards_ok F1.bs (F1.went.src A.cards) (by simp only; omega) (by simp)
    have F10 := F1.thenF F9
    refine ⟨b9, h9, ?_, by simpa [bytesM, bodyBs] using F10⟩
    rw [c9]
    simp [S9, rdL_z, rdL_t, rdL_s, e1, e9]
  · obtain ⟨s0, h0, s9, h9, e8, e9, F9⟩ := rwkeys_loop F1.bs (F1.went.src A.keys) (by simp only; omega) (by simp)
    have F10 := F1.thenF F9
    have lk := Fw.Src.len A.keys
    refine ⟨s9, h9, ?_, by simpa [bytesM, bodyBs] using F10⟩
    simp only at e8 e9 lk
    rw [c9]
    simp [S9, rdL_z, rdL_t, rdL_s, e1, lk, e8, e9]
structure MT0 (N r : Nat) (h : Heap) (l : List UInt8) (bad : Bool) : Prop where
  hN : N ≤ h.next
  hr : r < N
  rd : R r h l bad
  buf : ∀ s x, h.blk r = some ⟨[s, x], true⟩ → ∀ c, slBlk s = some c → c < N
theorem MT0.mono {N r : Nat} {h h' : Heap} {l : List UInt8} {bad : Bool} (Q : MT0 N r h l bad) (hn : h.next ≤ h'.next) (ho : ∀ b, b < N → h'.blk b = h.blk b) : MT0 N r h' l bad where
  hN := Nat.le_trans Q.hN hn
  hr := Q.hr
  rd := by
    obtain ⟨lt, s, h1, h2, h3⟩ := Q.rd
    exact ⟨by omega, s, by rw [ho r Q.hr]; exact h1, h2.mono hn fun b hb => ho b (Q.buf s _ h1 b hb), h3⟩
  buf := fun s x hs c hc => Q.buf s x (by rw [← ho r Q.hr]; exact hs) c hc
theorem MT0.took {N r : Nat} {h h' : Heap} {l : List UInt8} {bad : Bool} {s : AVal} {o : List UInt8 × List UInt8 × Bool} (Q : MT0 N r h l bad) (T : Took r h s h' o) : MT0 N r h' o.2.1 o.2.2 where
  hN := by rw [T.next]; exact Q.hN
  hr := Q.hr
  rd := T.rd
  buf := fun s' x hs c hc => by
    obtain ⟨_, s0, h1, _, _⟩ := Q.rd
    exact Q.buf s0 _ h1 c (T.held s0 s' _ _ h1 hs c hc)
theorem Took.only1 {r : Nat} {h h' : Heap} {s : AVal} {o : List UInt8 × List UInt8 × Bool} (T : Took r h s h' o) : Only r h h' := ⟨by rw [T.next]; exact Nat.le_refl _, fun b _ hr => T.old b hr⟩
theorem MT0.fell {N r : Nat} {h : Heap} {l : List UInt8} {bad : Bool} (Q : MT0 N r h l bad) (x : Bool) :
    ∃ h', h.wr r 1 [.bool x] = some h' ∧ MT0 N r h' l x ∧ Only r h h' ∧ h'.next = h.next := by
  obtain ⟨lt, s, h1, h2, h3⟩ := Q.rd
  refine ⟨h.setBlk r (some ⟨[s, .bool x], true⟩), wr_of h1 1 _ (by simp), ⟨Q.hN, Q.hr, ⟨lt, s, setBlk_same _ _ _, h2.mono (Nat.le_refl _) fun b hb => setBlk_ne _ _ fun e => h3 (by rw [← e]; exact hb), h3⟩, ?_⟩, ⟨Nat.le_refl _, fun b _ hq => setBlk_ne _ _ hq⟩, rfl⟩
  intro s' y hs c hc
  rw [setBlk_same] at hs
  simp only [Option.some.injEq, Blk.mk.injEq, List.cons.injEq] at hs
  obtain ⟨⟨rfl, _⟩, _⟩ := hs
  exact Q.buf s _ h1 c hc
def MT (N r : Nat) (h : Heap) (st : Option (List UInt8)) : Prop := ∃ l bad, MT0 N r h l bad ∧ st = if bad then none else some l
theorem MT.mono {N r : Nat} {h h' : Heap} {st : Option (List UInt8)} (Q : MT N r h st) (hn : h.next ≤ h'.next) (ho : ∀ b, b < N → h'.blk b = h.blk b) : MT N r h' st := by
  obtain ⟨l, b, Q, e⟩ := Q
  exact ⟨l, b, Q.mono hn ho, e⟩
theorem MT.hN {N r : Nat} {h : Heap} {st : Option (List UInt8)} (Q : MT N r h st) : N ≤ h.next ∧ r < N := by
  obtain ⟨l, b, Q, e⟩ := Q
  exact ⟨Q.hN, Q.hr⟩
theorem MT.fellV {N r : Nat} {h : Heap} {st : Option (List UInt8)} (Q : MT N r h st) : h.rd r 1 1 = some [.bool st.isNone] := by
  obtain ⟨l, b, Q, rfl⟩ := Q
  obtain ⟨lt, s, h1, h2, h3⟩ := Q.rd
  rw [rd_of h1 1 1 (by simp)]
  cases b <;> rfl
structure StepT {α : Type} (N r : Nat) (p : Pr α) (st : Option (List UInt8)) (x : α) (h h' : Heap) : Prop where
  ms : MT N r h' (left (st.bind p))
  val : ∀ z, st.bind p = some z → z.1 = x
  only : Only r h h'
theorem StepT.bind {α β : Type} {N r : Nat} {p : Pr α} {st : Option (List UInt8)} {x : α} {h h' : Heap} (S : StepT N r p st x h h') (f : α → Pr β) : st.bind (p.then f) = (left (st.bind p)).bind (f x) := by
  cases st with
  | none => rfl
  | some l =>
    show (p l).bind (fun z => f z.1 z.2) = ((p l).map (·.2)).bind (f x)
    cases hp : p l with
    | none => rfl
    | some z =>
      have := S.val z hp
      rw [← this]
      rfl
theorem stepT_end {α : Type} {N r : Nat} {p : Pr α} {st st' : Option (List UInt8)} {x : α} {h h' : Heap} (ms : MT N r h' st') (e : st.bind p = st'.bind (Pr.ret x)) (o : Only r h h') : StepT N r p st x h h' := by
  refine ⟨?_, ?_, o⟩
  · rw [e]
    cases st' <;> exact ms
  · intro z hz
    rw [e] at hz
    cases st' with
    | none => cases hz
    | some l => cases hz; rfl
theorem stepT_then {α β : Type} {N r : Nat} {p : Pr α} {f : α → Pr β} {st : Option (List UInt8)} {x : α} {y : β} {h h1 h2 : Heap} (S : StepT N r p st x h h1) (T : StepT N r (f x) (left (st.bind p)) y h1 h2) : StepT N r (p.then f) st y h h2 :=
  ⟨by rw [S.bind]; exact T.ms, fun z hz => T.val z (by rw [← S.bind]; exact hz), S.only.trans T.only⟩
section
variable {N r : Nat} {h : Heap} {st : Option (List UInt8)}
theorem tbyte (Q : MT N r h st) : ∃ (x : Nat) (h' : Heap), E tbl 81 [.ptr r 0] h = some (.int .i64 x, h') ∧ x ≤ 255 ∧ StepT N r byteP st x h h' ∧ h'.next = h.next := by
  obtain ⟨l, bad, Q, rfl⟩ := Q
  obtain ⟨s, h', _, e, T⟩ := rdByte_eq Q.rd
  refine ⟨_, h', e, by unfold byteV; have := UInt8.toNat_lt ((takeF 1 l bad).1.headD 0); omega, ⟨⟨_, _, Q.took T, ?_⟩, ?_, T.only1⟩, T.next⟩
  · cases bad with
    | true => rw [take_none rfl]; rfl
    | false => cases l <;> simp [takeF, left, byteP]
  · intro z hz
    cases bad with
    | true => cases hz
    | false => cases l with
        | nil => cases hz
        | cons c l => cases hz; simp [takeF, byteV]
theorem tint (Q : MT N r h st) : ∃ (x : Int) (h' : Heap), E tbl 82 [.ptr r 0] h = some (.int .i64 x, h') ∧ I64 x ∧ StepT N r intP st x h h' ∧ h'.next = h.next := by
  obtain ⟨l, bad, Q, rfl⟩ := Q
  obtain ⟨s, h', _, e, T⟩ := rdInt_eq Q.rd
  refine ⟨_, h', e, wrap64_range _, ⟨⟨_, _, Q.took T, ?_⟩, ?_, T.only1⟩, T.next⟩
  · cases bad with
    | true => rw [take_none rfl]; rfl
    | false =>
      by_cases hl : l.length < 8
      · rw [take_short hl]; simp [left, intP, hl]
      · rw [take_long hl]; simp [left, intP, hl]
  · intro z hz
    cases bad with
    | true => cases hz
    | false =>
      by_cases hl : l.length < 8
      · simp [intP, hl] at hz
      · rw [take_long hl]
        simp [intP, hl] at hz
        subst hz
        rfl
theorem ttext (Q : MT N r h st) : ∃ (x : List UInt8) (h' : Heap), E tbl 94 [.ptr r 0] h = some (.str x, h') ∧ x.length ≤ 255 ∧ StepT N r textP st x h h' ∧ h'.next = h.next := by
  obtain ⟨l, bad, Q, rfl⟩ := Q
  obtain ⟨s, h', _, e, T⟩ := rdText_eq Q.rd
  have hlen : (textF l bad).1.length ≤ 255 := by
    have hn : byteV (takeF 1 l bad).1 ≤ 255 := by unfold byteV; have := UInt8.toNat_lt ((takeF 1 l bad).1.headD 0); omega
    exact Nat.le_trans (take_len _ _ _) hn
  refine ⟨_, h', e, hlen, ⟨⟨_, _, Q.took T, ?_⟩, ?_, T.only1⟩, T.next⟩
  · cases bad with
    | true => unfold textF; rw [take_none rfl, take_none rfl]; rfl
    | false =>
      cases l with
      | nil => simp [textF, takeF, left, textP, Pr.then, byteP]
      | cons c l =>
        have e1 : takeF 1 (c :: l) false = ([c], l, false) := by simp [takeF]
        have e2 : byteV [c] = c.toNat := rfl
        unfold textF
        rw [e1]
        simp only [e2]
        by_cases hl : l.length < c.toNat
        · rw [take_short hl]; simp [left, textP, Pr.then, byteP, hl]
        · rw [take_long hl]; simp [left, textP, Pr.then, byteP, hl]
  · intro z hz
    cases bad with
    | true => cases hz
    | false =>
      cases l with
      | nil => cases hz
      | cons c l =>
        have e1 : takeF 1 (c :: l) false = ([c], l, false) := by simp [takeF]
        have e2 : byteV [c] = c.toNat := rfl
        unfold textF
        rw [e1]
        simp only [e2]
        by_cases hl : l.length < c.toNat
        · simp [textP, Pr.then, byteP, hl] at hz
        · rw [take_long hl]
          simp [textP, Pr.then, byteP, hl] at hz
          subst hz
          rfl
theorem tkey (Q : MT N r h st) : ∃ (x : Ky) (h' : Heap), E tbl 83 [.ptr r 0] h = some (.agg [.str x.1, .str x.2], h') ∧ (x.1.length ≤ 255 ∧ x.2.length ≤ 255) ∧ StepT N r keyP st x h h' ∧ h'.next = h.next := by
  obtain ⟨a, h1, e1, l1, S1, n1⟩ := ttext Q
  obtain ⟨i, h2, e2, l2, S2, n2⟩ := ttext S1.ms
  refine ⟨(a, i), h2, ?_, ⟨l1, l2⟩, stepT_end S2.ms ?_ (S1.only.trans S2.only), n2.trans n1⟩
  · rw [c83]
    simp [S83, e1, e2, aFill, aCells, AVal.cells?, splice, rdL_z, rdL_t]
  · unfold keyP Pr.map
    rw [S1.bind, S2.bind]
theorem tbit (Q : MT N r h st) : ∃ (x : Bool) (h' : Heap), E tbl 84 [.ptr r 0] h = some (.bool x, h') ∧ StepT N r bitP st x h h' ∧ h'.next = h.next := by
  obtain ⟨n, h1, e1, hn, S1, n1⟩ := tbyte Q
  have r1 := S1.ms.fellV
  obtain ⟨l, bad, Q1, el⟩ := S1.ms
  obtain ⟨h2, w1, Q2, O2, n2⟩ := Q1.fell (bad || decide ((n : Int) > 1))
  have hb0 : (left (st.bind byteP)).isNone = bad := by rw [el]; cases bad <;> rfl
  rw [hb0] at r1
  refine ⟨decide (n = 1), h2, ?_, ⟨⟨l, _, Q2, ?_⟩, ?_, S1.only.trans O2⟩, n2.trans n1⟩
  · have hb : ((n : Int) == 1) = decide (n = 1) := by rw [Bool.eq_iff_iff, beq_iff_eq, decide_eq_true_eq]; omega
    rw [c84]
    simp only [S84, store_ptr, e1, r1, w1, hb, List.getD_cons_zero, Option.bind_some, aCells_bool, Nat.zero_add, nilchk_ptr, faddr_ptr, load_ptr, from_one, bin_eql, bin_gtr, ans_one, g_or, p_or]
  · unfold bitP
    rw [S1.bind, el]
    have hd : decide ((n : Int) > 1) = decide (n > 1) := by rw [Bool.eq_iff_iff, decide_eq_true_eq, decide_eq_true_eq]; omega
    rw [hd]
    by_cases hg : n > 1
    · have : decide (n > 1) = true := decide_eq_true hg
      rw [this]
      cases bad <;> simp [left, hg]
    · have : decide (n > 1) = false := decide_eq_false hg
      rw [this]
      cases bad <;> simp [left, hg]
  · intro z hz
    unfold bitP at hz
    rw [S1.bind, el] at hz
    cases bad with
    | true => cases hz
    | false =>
      by_cases hg : n > 1
      · simp [hg] at hz
      · simp [hg] at hz
        subst hz
        rfl
end
end Go.Proofs.YtjibfbphiemljaaGreatDoor.Code
