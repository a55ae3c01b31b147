/- Rows of cells: what is read, what is owned, append. -/
import Derived.Test.YtfdhljghamkgjaaFwZi
namespace Go.Fw
set_option linter.unusedSimpArgs false
set_option linter.unusedVariables false

/-- A row that can be read: m elements of es cells. -/
def Src (es : Nat) (s : AVal) (h : Heap) (m : Nat) (cells : List AVal) : Prop :=
  cells.length = m * es ∧ ((s = .nilSlice ∧ m = 0) ∨ ∃ b off cap ex, s = .slice b off m cap es ex ∧ b < h.next ∧ h.rd b off (m * es) = some cells)

/-- A row that was made behind block n0, and fills its block. -/
def Own (es : Nat) (s : AVal) (h : Heap) (n0 m : Nat) (cells : List AVal) : Prop :=
  cells.length = m * es ∧ ((s = .nilSlice ∧ m = 0) ∨ ∃ b ex, s = .slice b 0 m m es ex ∧ n0 ≤ b ∧ b < h.next ∧ h.blk b = some ⟨cells, true⟩)

theorem Own.src {es : Nat} {s : AVal} {h : Heap} {n0 m : Nat} {cells : List AVal} (O : Own es s h n0 m cells) : Src es s h m cells := by
  obtain ⟨hl, h1 | ⟨b, ex, rfl, h1, h2, h3⟩⟩ := O
  · exact ⟨hl, .inl h1⟩
  · refine ⟨hl, .inr ⟨b, 0, m, ex, rfl, h2, ?_⟩⟩
    rw [rd_of h3 0 _ (by simp [hl]), ← hl]
    simp

theorem Own.nil (es : Nat) (h : Heap) (n0 : Nat) : Own es .nilSlice h n0 0 [] := ⟨by simp, .inl ⟨rfl, rfl⟩⟩
theorem Own.blk {es : Nat} {s : AVal} {h : Heap} {n0 m : Nat} {cells : List AVal} (O : Own es s h n0 m cells) : ∀ b, slBlk s = some b → n0 ≤ b ∧ b < h.next := by
  intro b hb
  obtain ⟨_, ⟨rfl, _⟩ | ⟨b', ex, rfl, h1, h2, _⟩⟩ := O
  · cases hb
  · cases hb; exact ⟨h1, h2⟩
theorem Own.kept {es : Nat} {s : AVal} {h : Heap} {n0 m : Nat} {cells : List AVal} (O : Own es s h n0 m cells) {h' : Heap} (hn : h.next ≤ h'.next) (ho : ∀ b, slBlk s = some b → h'.blk b = h.blk b) : Own es s h' n0 m cells := by
  obtain ⟨hl, h1 | ⟨b, ex, rfl, a1, a2, a4⟩⟩ := O
  · exact ⟨hl, .inl h1⟩
  · exact ⟨hl, .inr ⟨b, ex, rfl, a1, by omega, by rw [ho b rfl, a4]⟩⟩
theorem Own.base {es : Nat} {s : AVal} {h : Heap} {n0 m : Nat} {cells : List AVal} (O : Own es s h n0 m cells) {n1 : Nat} (hn : n1 ≤ n0) : Own es s h n1 m cells := by
  obtain ⟨hl, h1 | ⟨b, ex, rfl, a1, a2, a4⟩⟩ := O
  · exact ⟨hl, .inl h1⟩
  · exact ⟨hl, .inr ⟨b, ex, rfl, by omega, a2, a4⟩⟩

theorem Src.blk {es : Nat} {s : AVal} {h : Heap} {m : Nat} {cells : List AVal} (O : Src es s h m cells) : ∀ b, slBlk s = some b → b < h.next := by
  intro b hb
  obtain ⟨_, ⟨rfl, _⟩ | ⟨b', off, cap, ex, rfl, h2, _⟩⟩ := O
  · cases hb
  · cases hb; exact h2
theorem Src.kept {es : Nat} {s : AVal} {h : Heap} {m : Nat} {cells : List AVal} (O : Src es s h m cells) {h' : Heap} (hn : h.next ≤ h'.next) (ho : ∀ b, slBlk s = some b → h'.blk b = h.blk b) : Src es s h' m cells := by
  obtain ⟨hl, h1 | ⟨b, off, cap, ex, rfl, a2, a4⟩⟩ := O
  · exact ⟨hl, .inl h1⟩
  · refine ⟨hl, .inr ⟨b, off, cap, ex, rfl, by omega, ?_⟩⟩
    unfold Heap.rd at a4 ⊢
    rw [ho b rfl]
    exact a4
theorem Src.len {es : Nat} {s : AVal} {h : Heap} {m : Nat} {cells : List AVal} (O : Src es s h m cells) : aLen false s = some (.int .i64 m) := by
  obtain ⟨_, ⟨rfl, rfl⟩ | ⟨b, off, cap, ex, rfl, _⟩⟩ := O <;> rfl

theorem Src.at {es : Nat} {s : AVal} {h : Heap} {m : Nat} {cells : List AVal} (O : Src es s h m cells) (i : Nat) (hi : i < m) : ∃ p, aIaddr es s (.int .i64 i) = some p ∧ aLoad h es p = some ((cells.drop (i * es)).take es) := by
  obtain ⟨hl, ⟨rfl, rfl⟩ | ⟨b, off, cap, ex, rfl, a2, a4⟩⟩ := O
  · omega
  · refine ⟨.ptr b (off + i * es), ?_, ?_⟩
    · have h1 : ((i : Int) < (m : Int)) := by omega
      simp [aIaddr, aIdx, h1]
    · have hle : (i + 1) * es ≤ m * es := Nat.mul_le_mul_right es hi
      rw [Nat.succ_mul] at hle
      obtain ⟨x, hx, hlx, rfl⟩ := rd_inv a4
      rw [load_ptr, rd_of hx _ _ (by omega)]
      simp only [Option.some.injEq]
      rw [List.drop_take, List.take_take, List.drop_drop, Nat.min_eq_left (by omega)]

/-- Append: a row that is owned grows. -/
theorem Own.app {es bytes : Nat} {zero : List AVal} {s x : AVal} {h : Heap} {n0 n m : Nat} {cells news : List AVal} (O : Own es s h n0 n cells) (S : Src es x h m news) (hes : 0 < es) (h0 : n0 ≤ h.next) (hb : (n + m) * bytes ≤ 140737488355328) (hc : n + m ≤ 4611686018427387904) :
    ∃ s' h', aAppend es bytes zero false s x h = some (s', h') ∧ Own es s' h' n0 (n + m) (cells ++ news) ∧ Kept h s h' s' := by
  have hee : Nat.beq es es = true := Nat.beq_refl es
  have hnews : aNews es bytes zero false x h = some (m, news) := by
    obtain ⟨hl, ⟨rfl, rfl⟩ | ⟨b, off, cap, ex, rfl, a2, a4⟩⟩ := S
    · have : news = [] := by
        cases news with
        | nil => rfl
        | cons a l => simp at hl
      subst this
      rfl
    · unfold aNews
      by_cases hm : m = 0
      · subst hm
        have : news = [] := by
          cases news with
          | nil => rfl
          | cons a l => simp at hl
        subst this
        rfl
      · have : Nat.beq m 0 = false := by rw [beq_dec]; simpa using hm
        simp only [this, hee, a4, cond_true, cond_false, Option.bind_some]
  have hl := S.1
  have hlO := O.1
  by_cases hm : m = 0
  · subst hm
    have : news = [] := by
      cases news with
      | nil => rfl
      | cons a l => simp at hl
    subst this
    refine ⟨s, h, ?_, by simpa using O, Kept.refl _ _⟩
    unfold aAppend
    rw [hnews]
    obtain ⟨_, ⟨rfl, rfl⟩ | ⟨b, ex, rfl, a1, a2, a4⟩⟩ := O
    · rfl
    · simp only [Option.bind_some, hee, cond_true]
      rfl
  · have hm0 : Nat.beq m 0 = false := by rw [beq_dec]; simpa using hm
    have hadd : ∀ k, k * es + m * es = (k + m) * es := fun k => by rw [Nat.add_mul]
    unfold aAppend
    rw [hnews]
    obtain ⟨_, ⟨rfl, rfl⟩ | ⟨b, ex, rfl, a1, a2, a4⟩⟩ := O
    · have hcn : cells = [] := by
        cases cells with
        | nil => rfl
        | cons a l => simp at hlO
      subst hcn
      simp only [Option.bind_some, hm0, cond_false]
      have hb' : m * bytes ≤ 140737488355328 := by simpa using hb
      rw [if_pos ⟨hb', by omega⟩]
      refine ⟨_, _, rfl, ⟨by simp [hl], .inr ⟨h.next, false, by rw [Nat.zero_add], h0, by simp, ?_⟩⟩, ⟨by simp, fun c hc _ => alloc_old _ _ (by omega), fun c hc => by cases hc; exact .inr (Nat.le_refl _)⟩⟩
      rw [alloc_same, List.nil_append]
    · have e2 : Nat.ble (n + m) n = false := by
        cases hh : Nat.ble (n + m) n with
        | false => rfl
        | true => have := Nat.le_of_ble_eq_true hh; omega
      have hold : h.rd b 0 (n * es) = some cells := by
        rw [rd_of a4 0 _ (by simp [hlO]), ← hlO]
        simp
      simp only [Option.bind_some, hee, cond_true, hm0, cond_false, e2]
      rw [if_pos ⟨hb, hc⟩]
      cases ex with
      | true =>
        simp only [cond_true]
        by_cases hn : n = 0
        · subst hn
          have hcn : cells = [] := by
            cases cells with
            | nil => rfl
            | cons a l => simp at hlO
          subst hcn
          have h00 : Nat.beq 0 0 = true := rfl
          simp only [h00, cond_true]
          refine ⟨_, _, rfl, ⟨by simp [hl], .inr ⟨h.next, false, by rw [Nat.zero_add], h0, by simp, ?_⟩⟩, ⟨by simp, fun c hc _ => alloc_old _ _ (by omega), fun c hc => by cases hc; exact .inr (Nat.le_refl _)⟩⟩
          rw [alloc_same, List.nil_append]
        · have hn0 : Nat.beq n 0 = false := by rw [beq_dec]; simpa using hn
          simp only [hn0, cond_false, hold, Option.bind_some]
          refine ⟨_, _, rfl, ⟨by rw [List.length_append, hl, hlO, hadd], .inr ⟨h.next, false, rfl, h0, by simp, ?_⟩⟩, ⟨by simp, fun c hc _ => alloc_old _ _ (by omega), fun c hc => by cases hc; exact .inr (Nat.le_refl _)⟩⟩
          rw [alloc_same]
      | false =>
        simp only [cond_false, a4, hold, Option.bind_some]
        refine ⟨_, _, rfl, ⟨by rw [List.length_append, hl, hlO, hadd], .inr ⟨h.next, false, rfl, h0, by simp, ?_⟩⟩, ⟨by simp, fun c hc hne => ?_, fun c hc => by cases hc; exact .inr (Nat.le_refl _)⟩⟩
        · rw [setBlk_ne _ _ (by omega), alloc_same]
        · have : c ≠ b := fun e => hne (by rw [e]; rfl)
          rw [setBlk_ne _ _ this, alloc_old _ _ (by omega)]

theorem rdL_full (es : Nat) (h : Heap) (cs : List AVal) (n : Nat) (hn : cs.length = n * es) : (h.alloc cs).rd h.next 0 (n * es) = some cs := alloc_rd0 h cs _ hn.symm

/-- A new row of so many elements, as it is laid. -/
theorem Own.lit (es : Nat) (h : Heap) (cs : List AVal) (n : Nat) (hn : cs.length = n * es) (ex : Bool) : Own es (.slice h.next 0 n n es ex) (h.alloc cs) h.next n cs :=
  ⟨hn, .inr ⟨h.next, ex, rfl, Nat.le_refl _, by simp, alloc_same _ _⟩⟩

/-- One more, out of a row that was laid for it. -/
theorem Own.snoc {es bytes : Nat} {zero : List AVal} {s : AVal} {h : Heap} {n0 n : Nat} {cells news : List AVal} (O : Own es s h n0 n cells) (hes : 0 < es) (hl : news.length = es) (h0 : n0 ≤ h.next) (hb : (n + 1) * bytes ≤ 140737488355328) (hc : n + 1 ≤ 4611686018427387904) :
    ∃ s' h', aAppend es bytes zero false s (.slice h.next 0 1 1 es true) (h.alloc news) = some (s', h') ∧ Own es s' h' n0 (n + 1) (cells ++ news) ∧ Kept h s h' s' := by
  have K := Kept.alloc h s news
  have O' : Own es s (h.alloc news) n0 n cells := O.kept K.next fun b hb => alloc_old _ _ (by have := (O.blk b hb).2; omega)
  have S := (Own.lit es h news 1 (by omega) true).src
  obtain ⟨s', h', e, O2, K2⟩ := O'.app (bytes := bytes) (zero := zero) S hes (by simp; omega) hb hc
  exact ⟨s', h', e, O2, K.trans K2⟩

/-- Nothing that was there has changed. -/
structure Went (h h' : Heap) : Prop where
  next : h.next ≤ h'.next
  old : ∀ i, i < h.next → h'.blk i = h.blk i
theorem Went.refl (h : Heap) : Went h h := ⟨Nat.le_refl _, fun _ _ => rfl⟩
theorem Went.trans {a b c : Heap} (h : Went a b) (k : Went b c) : Went a c := ⟨Nat.le_trans h.next k.next, fun i hi => (k.old i (Nat.lt_of_lt_of_le hi h.next)).trans (h.old i hi)⟩
theorem Went.alloc (h : Heap) (cs : List AVal) : Went h (h.alloc cs) := ⟨by simp, fun _ hi => alloc_old _ _ (by omega)⟩
theorem Went.src {a b : Heap} (W : Went a b) {es : Nat} {s : AVal} {m : Nat} {cells : List AVal} (S : Src es s a m cells) : Src es s b m cells := S.kept W.next fun c hc => W.old c (S.blk c hc)
theorem Went.own {a b : Heap} (W : Went a b) {es : Nat} {s : AVal} {n0 m : Nat} {cells : List AVal} (S : Own es s a n0 m cells) : Own es s b n0 m cells := S.kept W.next fun c hc => W.old c (S.blk c hc).2
/-- A row that was let grow, where its block came behind. -/
theorem Kept.went {h0 h h' : Heap} {s s' : AVal} (W : Went h0 h) (hs : ∀ b, slBlk s = some b → h0.next ≤ b) (K : Kept h s h' s') : Went h0 h' :=
  ⟨Nat.le_trans W.next K.next, fun i hi => by
    rw [K.old i (Nat.lt_of_lt_of_le hi W.next), W.old i hi]
    intro hh
    have := hs i hh
    omega⟩

@[simp] theorem byteCells_len (l : List UInt8) : (byteCells l).length = l.length := by simp [byteCells]
theorem byteCells_app (l m : List UInt8) : byteCells (l ++ m) = byteCells l ++ byteCells m := by simp [byteCells]
theorem cellBytes_of : ∀ l : List UInt8, cellBytes (byteCells l) = some l
  | [] => rfl
  | b :: l => by
    have h1 : cellBytes (byteCells (b :: l)) = (cellBytes (byteCells l)).bind fun r => some (UInt8.ofNat (Int.toNat (b.toNat : Int)) :: r) := rfl
    rw [h1, cellBytes_of l]
    simp

/-- Bytes that are read as a text. -/
theorem Src.text {s : AVal} {h : Heap} {l : List UInt8} (S : Src 1 s h l.length (byteCells l)) : aConv .bytesStr s h = some (.str l, h) := by
  obtain ⟨_, ⟨rfl, h0⟩ | ⟨b, off, cap, ex, rfl, _, hr⟩⟩ := S
  · have : l = [] := List.length_eq_zero_iff.1 h0
    subst this
    rfl
  · rw [Nat.mul_one] at hr
    have h1 : Nat.beq 1 1 = true := rfl
    simp only [aConv, h1, cond_true, hr, Option.bind_some, cellBytes_of]

theorem Src.byte {s : AVal} {h : Heap} {l : List UInt8} (S : Src 1 s h l.length (byteCells l)) (i : Nat) (hi : i < l.length) : ∃ p, aIaddr 1 s (.int .i64 i) = some p ∧ aLoad h 1 p = some [.int .u8 ((l.getD i 0).toNat : Int)] := by
  obtain ⟨p, e1, e2⟩ := S.at i hi
  refine ⟨p, e1, ?_⟩
  rw [e2, Nat.mul_one]
  have : i < (byteCells l).length := by simpa using hi
  rw [List.drop_eq_getElem_cons this]
  simp [byteCells, List.getD_eq_getElem?_getD, List.getElem?_eq_getElem hi]

/-- A text behind bytes. -/
theorem Own.text {bytes : Nat} {zero : List AVal} {s : AVal} {h : Heap} {n0 n : Nat} {cells : List AVal} {l : List UInt8} (O : Own 1 s h n0 n cells) (h0 : n0 ≤ h.next) (hb : (n + l.length) * bytes ≤ 140737488355328) (hc : n + l.length ≤ 4611686018427387904) :
    ∃ s' h', aAppend 1 bytes zero false s (.str l) h = some (s', h') ∧ Own 1 s' h' n0 (n + l.length) (cells ++ byteCells l) ∧ Kept h s h' s' := by
  -- as if the text lay in memory
  have hS : ∀ x H, aNews 1 bytes zero false x H = aNews 1 bytes zero false (.str l) H → aAppend 1 bytes zero false s x H = aAppend 1 bytes zero false s (.str l) H := by
    intro x H e
    unfold aAppend
    rw [e]
  have hO := O.1
  by_cases hl : l = []
  · subst hl
    refine ⟨s, h, ?_, by simpa [byteCells] using O, Kept.refl _ _⟩
    rw [← hS .nilSlice h rfl]
    obtain ⟨s', h', e, _, _⟩ := O.app (bytes := bytes) (zero := zero) (x := .nilSlice) (m := 0) (news := []) ⟨by simp, .inl ⟨rfl, rfl⟩⟩ (by omega) h0 (by simpa using hb) (by simpa using hc)
    unfold aAppend aNews
    obtain ⟨_, ⟨rfl, rfl⟩ | ⟨b, ex, rfl, a1, a2, a4⟩⟩ := O <;> rfl
  · have hm : Nat.beq l.length 0 = false := by
      rw [beq_dec]
      have : l.length ≠ 0 := fun e => hl (List.length_eq_zero_iff.1 e)
      simpa using this
    have h11 : Nat.beq 1 1 = true := rfl
    unfold aAppend aNews
    simp only [h11, cond_true, Option.bind_some, hm, cond_false]
    obtain ⟨_, ⟨rfl, rfl⟩ | ⟨b, ex, rfl, a1, a2, a4⟩⟩ := O
    · have hcn : cells = [] := by
        cases cells with
        | nil => rfl
        | cons a l => simp at hO
      subst hcn
      have hb' : l.length * bytes ≤ 140737488355328 := by simpa using hb
      simp only
      rw [if_pos ⟨hb', by omega⟩]
      refine ⟨_, _, rfl, ⟨by simp, .inr ⟨h.next, false, by rw [Nat.zero_add], h0, by simp, ?_⟩⟩, ⟨by simp, fun c hc _ => alloc_old _ _ (by omega), fun c hc => by cases hc; exact .inr (Nat.le_refl _)⟩⟩
      rw [alloc_same, List.nil_append]
    · have e2 : Nat.ble (n + l.length) n = false := by
        cases hh : Nat.ble (n + l.length) n with
        | false => rfl
        | true =>
          have := Nat.le_of_ble_eq_true hh
          have : l.length ≠ 0 := fun e => hl (List.length_eq_zero_iff.1 e)
          omega
      have hold : h.rd b 0 (n * 1) = some cells := by
        rw [rd_of a4 0 _ (by simp [hO]), ← hO]
        simp
      simp only [h11, cond_true, e2, cond_false]
      rw [if_pos ⟨hb, hc⟩]
      cases ex with
      | true =>
        simp only [cond_true]
        by_cases hn : n = 0
        · subst hn
          have hcn : cells = [] := by
            cases cells with
            | nil => rfl
            | cons a l => simp at hO
          subst hcn
          have h00 : Nat.beq 0 0 = true := rfl
          simp only [h00, cond_true]
          refine ⟨_, _, rfl, ⟨by simp, .inr ⟨h.next, false, by rw [Nat.zero_add], h0, by simp, ?_⟩⟩, ⟨by simp, fun c hc _ => alloc_old _ _ (by omega), fun c hc => by cases hc; exact .inr (Nat.le_refl _)⟩⟩
          rw [alloc_same, List.nil_append]
        · have hn0 : Nat.beq n 0 = false := by rw [beq_dec]; simpa using hn
          simp only [hn0, cond_false, hold, Option.bind_some]
          refine ⟨_, _, rfl, ⟨by simp [hO], .inr ⟨h.next, false, rfl, h0, by simp, ?_⟩⟩, ⟨by simp, fun c hc _ => alloc_old _ _ (by omega), fun c hc => by cases hc; exact .inr (Nat.le_refl _)⟩⟩
          rw [alloc_same]
      | false =>
        simp only [cond_false, a4, hold, Option.bind_some]
        refine ⟨_, _, rfl, ⟨by simp [hO], .inr ⟨h.next, false, rfl, h0, by simp, ?_⟩⟩, ⟨by simp, fun c hc hne => ?_, fun c hc => by cases hc; exact .inr (Nat.le_refl _)⟩⟩
        · rw [setBlk_ne _ _ (by omega), alloc_same]
        · have : c ≠ b := fun e => hne (by rw [e]; rfl)
          rw [setBlk_ne _ _ this, alloc_old _ _ (by omega)]

/-- slices.Clone, as the programs have it. -/
noncomputable def cloneS (es bytes : Nat) (zero : List AVal) (a0 : AVal) (h : Heap) : Option J :=
 (aBin .eql .slice a0 (.nilSlice)).bind fun v1 =>
 condV v1
 (some (0, [(.nilSlice)], h))
 ((aFill (reps zero 0) []).bind fun c2 =>
 (aAppend es bytes zero false (.slice h.next 0 0 0 es true) a0 (h.alloc c2)).bind fun r3 =>
 some (0, [r3.1], r3.2))

theorem clone_of {es bytes : Nat} {zero : List AVal} {x : AVal} {h : Heap} {m : Nat} {news : List AVal} (S : Src es x h m news) (hes : 0 < es) (hb : m * bytes ≤ 140737488355328) (hc : m ≤ 4611686018427387904) :
    ∃ s h', cloneS es bytes zero x h = some (0, [s], h') ∧ Own es s h' h.next m news ∧ Went h h' := by
  have S0 := S
  obtain ⟨hl, ⟨rfl, rfl⟩ | ⟨b, off, cap, ex, rfl, a2, a4⟩⟩ := S
  · have : news = [] := by
      cases news with
      | nil => rfl
      | cons a l => simp at hl
    subst this
    exact ⟨.nilSlice, h, rfl, Own.nil _ _ _, Went.refl _⟩
  · have O := Own.lit es h [] 0 (by simp) true
    have S' := (Went.alloc h []).src S0
    obtain ⟨s', h', e, O', K⟩ := O.app (bytes := bytes) (zero := zero) S' hes (by simp) (by simpa using hb) (by simpa using hc)
    refine ⟨s', h', ?_, by simpa using O', K.went (Went.alloc h []) fun b hb => by cases hb; exact Nat.le_refl _⟩
    have e1 : aBin .eql .slice (.slice b off m cap es ex) .nilSlice = some (.bool false) := rfl
    have e2 : aFill (reps zero 0) [] = some [] := rfl
    simp only [cloneS, e1, e2, Option.bind_some, cond_bool, cond_false, e]

theorem ints_bytes {s : AVal} {h : Heap} {l : List Int} (I : Ints .u8 s h l) (lt : ∀ b, slBlk s = some b → b < h.next) (wf : ∀ x ∈ l, (Lit.int .u8 x).wf = true) : ∃ bl : List UInt8, bl.length = l.length ∧ Src 1 s h bl.length (byteCells bl) := by
  have hm : byteCells (l.map fun x => UInt8.ofNat x.toNat) = l.map (.int .u8) := by
    unfold byteCells
    rw [List.map_map]
    apply List.map_congr_left
    intro x hx
    have := wf x hx
    have h1 : IntKind.u8.min = 0 := by decide
    have h2 : IntKind.u8.max = 255 := by decide
    simp only [Lit.wf, h1, h2, Bool.and_eq_true, decide_eq_true_eq] at this
    simp only [Function.comp, AVal.int.injEq, true_and]
    rw [UInt8.toNat_ofNat']
    omega
  refine ⟨l.map fun x => UInt8.ofNat x.toNat, by simp, by simp, ?_⟩
  rw [hm]
  rcases I with ⟨rfl, rfl⟩ | ⟨b, off, cap, ex, rfl, hr⟩
  · exact .inl ⟨rfl, rfl⟩
  · exact .inr ⟨b, off, cap, ex, by simp, lt b rfl, by simpa using hr⟩

theorem Src.ints {k : IntKind} {s : AVal} {h : Heap} {m : Nat} {l : List Int} (S : Src 1 s h m (l.map (.int k))) : Ints k s h l := by
  obtain ⟨hl, ⟨rfl, h0⟩ | ⟨b, off, cap, ex, rfl, a2, a3⟩⟩ := S
  · have : l = [] := List.length_eq_zero_iff.1 (by simpa [h0] using hl)
    exact .inl ⟨rfl, this⟩
  · have hm : l.length = m := by simpa using hl
    refine .inr ⟨b, off, cap, ex, by rw [hm], ?_⟩
    rw [hm, ← Nat.mul_one m]
    exact a3

theorem ints_src {k : IntKind} {s : AVal} {h : Heap} {l : List Int} (I : Ints k s h l) (lt : ∀ b, slBlk s = some b → b < h.next) : Src 1 s h l.length (l.map (.int k)) := by
  rcases I with ⟨rfl, rfl⟩ | ⟨b, off, cap, ex, rfl, hr⟩
  · exact ⟨rfl, .inl ⟨rfl, rfl⟩⟩
  · exact ⟨by simp, .inr ⟨b, off, cap, ex, rfl, lt b rfl, by simpa using hr⟩⟩

end Go.Fw
