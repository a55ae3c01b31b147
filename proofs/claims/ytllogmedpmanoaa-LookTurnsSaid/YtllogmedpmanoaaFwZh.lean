import Derived.Test.YtllogmedpmanoaaFwZb
import Derived.SliceStrings
/- Arguments that are structures of plain cells, strings, bools. -/
namespace Go.Fw
set_option linter.unusedSimpArgs false
set_option linter.unusedVariables false
open Go.WideShapes

def FlatRel (P : Program) (w : World) (r : Reach) (base : Nat) : List TypeId → List Value → Prop
  | [], [] => True
  | u :: us, x :: xs => Cell.okWide P w r base u x ∧ FlatRel P w r base us xs
  | _, _ => False

section
variable {P : Program} {w : World} {r : Reach} {base : Nat}

theorem FlatRel.cons {u : TypeId} {us : List TypeId} {xs : List Value} (F : FlatRel P w r base (u :: us) xs) : ∃ x ys, xs = x :: ys ∧ Cell.okWide P w r base u x ∧ FlatRel P w r base us ys := by
  cases xs with
  | nil => exact F.elim
  | cons x ys => exact ⟨x, ys, rfl, F.1, F.2⟩
theorem FlatRel.nil {xs : List Value} (F : FlatRel P w r base [] xs) : xs = [] := by
  cases xs with
  | nil => rfl
  | cons x ys => exact F.elim

theorem FlatRel.of : ∀ {ts : List TypeId} {cs : List Value}, cs.length = ts.length → (∀ (i : Nat) (v : Value), cs[i]? = some v → ∃ u, ts[i]? = some u ∧ Cell.okWide P w r base u v) → FlatRel P w r base ts cs
  | [], [], _, _ => trivial
  | [], _ :: _, h, _ => by simp at h
  | _ :: _, [], h, _ => by simp at h
  | t :: ts, c :: cs, hl, h => by
    refine ⟨?_, FlatRel.of (by simpa using hl) fun i v hv => ?_⟩
    · obtain ⟨u, h1, h2⟩ := h 0 c rfl
      simp at h1
      subst h1
      exact h2
    · obtain ⟨u, h1, h2⟩ := h (i + 1) v (by simpa using hv)
      exact ⟨u, by simpa using h1, h2⟩

theorem open_flat {t : TypeId} {fs : Array Field} {ts : List TypeId} {v : Value} (ht : P.underlying t = some (.struct fs)) (hc : P.cellTypes P.depth t = some ts) (hn : P.cellsOf t = ts.length) (hv : Value.okWide P w r base t v) : ∃ cs : List Value, v = .agg ⟨cs⟩ ∧ FlatRel P w r base ts cs := by
  simp only [Value.okWide, ht] at hv
  obtain ⟨cs, rfl, hs, ts', h1, _, h3⟩ := hv
  rw [hc] at h1
  cases h1
  refine ⟨cs.toList, rfl, FlatRel.of (by simpa [hn] using hs) fun i v hv => ?_⟩
  have hv' : cs[i]? = some v := by simpa using hv
  obtain ⟨u, h4, h5⟩ := h3 i v hv'
  have hi : i < ts.length := by
    rw [← hn, ← hs]
    exact (Array.getElem?_eq_some_iff.1 hv').1
  rw [Nat.mod_eq_of_lt hi] at h4
  exact ⟨u, h4, h5⟩

theorem cell_int {u : TypeId} {k : IntKind} {x : Value} (hu : P.underlying u = some (.int k)) (h : Cell.okWide P w r base u x) : ∃ n, x = .int k n ∧ (Lit.int k n).wf = true := by
  unfold Cell.okWide at h
  rw [hu] at h
  simp only [Cell.ok, hu] at h
  cases x <;> simp only at h
  obtain ⟨rfl, h⟩ := h
  exact ⟨_, rfl, by simpa [Lit.wf, IntKind.has] using h⟩

theorem cell_bool {u : TypeId} {x : Value} (hu : P.underlying u = some .bool) (h : Cell.okWide P w r base u x) : ∃ b, x = .bool b := by
  unfold Cell.okWide at h
  rw [hu] at h
  simp only [Cell.ok, hu] at h
  cases x <;> simp only at h
  exact ⟨_, rfl⟩

theorem cell_str {u : TypeId} {x : Value} (hu : P.underlying u = some .string) (h : Cell.okWide P w r base u x) : ∃ l : List UInt8, x = .string ⟨l.toArray⟩ ∧ (l.length : Int) ≤ 9223372036854775807 := by
  unfold Cell.okWide at h
  rw [hu] at h
  simp only [Cell.ok, hu] at h
  cases x <;> simp only at h
  rename_i s
  refine ⟨s.data.toList, rfl, ?_⟩
  have h2 : IntKind.i64.max = 9223372036854775807 := by decide
  rw [h2] at h
  have h3 : s.data.toList.length = s.size := Array.length_toList
  rw [h3]
  exact h

theorem okWide_cell {t : TypeId} {v : Value} (hn : (match P.underlying t with | some (.struct _) | some (.array _ _) => false | _ => true) = true) (hv : Value.okWide P w r base t v) : Cell.okWide P w r base t v := by
  unfold Value.okWide at hv
  split at hv
  · rename_i h; rw [h] at hn; simp at hn
  · rename_i h; rw [h] at hn; simp at hn
  · exact hv
end

@[simp] theorem oneOr_one (v : AVal) : oneOr [v] = v := rfl
theorem vrel_flat {φ : Phi} {as : List AVal} {vs : List Value} (h : VRels φ as vs) (ho : ∀ u ∈ vs, u.oneCell' = true) : VRel φ (.agg as) (.agg ⟨vs⟩) := by
  unfold VRel
  exact ⟨⟨vs⟩, rfl, h, ho⟩

end Go.Fw

/- Lists that grow beside other memory. -/
namespace Go.Fw
set_option linter.unusedSimpArgs false
set_option linter.unusedVariables false

/-- From (hs, os) to (h, o): nothing but the block of the list that grows was let go. -/
structure Kept (hs : Heap) (os : AVal) (h : Heap) (o : AVal) : Prop where
  next : hs.next ≤ h.next
  old : ∀ b, b < hs.next → slBlk os ≠ some b → h.blk b = hs.blk b
  blk : ∀ b, slBlk o = some b → slBlk os = some b ∨ hs.next ≤ b

theorem Kept.refl (h : Heap) (o : AVal) : Kept h o h o := ⟨Nat.le_refl _, fun _ _ _ => rfl, fun _ hb => .inl hb⟩
theorem Kept.trans {a b c : Heap} {x y z : AVal} (p : Kept a x b y) (q : Kept b y c z) : Kept a x c z where
  next := Nat.le_trans p.next q.next
  old := fun i hi hx => by
    rw [q.old i (Nat.lt_of_lt_of_le hi p.next), p.old i hi hx]
    intro hy
    rcases p.blk i hy with h | h
    · exact hx h
    · omega
  blk := fun i hi => by
    rcases q.blk i hi with h | h
    · exact p.blk i h
    · exact .inr (Nat.le_trans p.next h)
theorem Kept.alloc (h : Heap) (o : AVal) (cs : List AVal) : Kept h o (h.alloc cs) o := ⟨by simp, fun b hb _ => alloc_old _ _ (by omega), fun _ hb => .inl hb⟩

theorem Grow.one' {es bytes : Nat} {zero : List AVal} {s : AVal} {h : Heap} {n0 n : Nat} {cells news : List AVal} (G : Grow es s h n0 n cells) (h0 : n0 ≤ h.next) (hn : news.length = es) (hb : (n + 1) * bytes ≤ 140737488355328) (hc : n + 1 ≤ 4611686018427387904) :
    ∃ s' h', aAppend es bytes zero false s (.slice h.next 0 1 1 es true) (h.alloc news) = some (s', h') ∧ Grow es s' h' n0 (n + 1) (cells ++ news) ∧ Kept h s h' s' := by
  have hr : (h.alloc news).rd h.next 0 (1 * es) = some news := alloc_rd0 h news _ (by omega)
  have hes : Nat.beq es es = true := Nat.beq_refl es
  obtain ⟨hl, ⟨rfl, rfl⟩ | ⟨b, rfl, a1, a2, a3, a4⟩⟩ := G
  · have hcn : cells = [] := by
      cases cells with
      | nil => rfl
      | cons a l => simp at hl
    subst hcn
    refine ⟨.slice (h.next + 1) 0 1 1 es false, (h.alloc news).alloc news, ?_, ⟨by simp [hn], .inr ⟨h.next + 1, rfl, by omega, ?_, by omega, ?_⟩⟩, ?_, ?_, ?_⟩
    · simp only [aAppend, aNews, hes, hr, cond_true, Option.bind_some]
      have e1 : Nat.beq 1 0 = false := rfl
      rw [e1]
      simp only [cond_false, Option.bind_some]
      rw [if_pos (by omega)]
      rfl
    · simp
    · simp only [List.nil_append]
      exact alloc_same (h.alloc news) news
    · simp; omega
    · intro b hb' _
      rw [alloc_old _ _ (by simp; omega), alloc_old _ _ (by omega)]
    · intro b hb'
      cases hb'
      exact .inr (by omega)
  · have hbk : (h.alloc news).blk b = some ⟨cells, true⟩ := by rw [alloc_old _ _ (by omega)]; exact a4
    have hold : (h.alloc news).rd b 0 (n * es) = some cells := by
      rw [rd_of hbk 0 _ (by simp [hl])]
      simp [← hl]
    refine ⟨.slice (h.next + 1) 0 (n + 1) (n + 1) es false, ((h.alloc news).alloc (cells ++ news)).setBlk b none, ?_, ⟨by simp [hl, hn, Nat.add_mul], .inr ⟨h.next + 1, rfl, by omega, by simp, by omega, ?_⟩⟩, by simp; omega, ?_, ?_⟩
    · simp only [aAppend, aNews, hes, hr, cond_true, Option.bind_some]
      have e1 : Nat.beq 1 0 = false := rfl
      have e2 : Nat.ble (n + 1) n = false := by
        cases hh : Nat.ble (n + 1) n with
        | false => rfl
        | true => have := Nat.le_of_ble_eq_true hh; omega
      rw [e1]
      simp only [cond_false, Option.bind_some, e2]
      rw [if_pos (by omega)]
      rw [hbk]
      simp only [hold, Option.bind_some]
      rfl
    · rw [setBlk_ne _ _ (by omega)]
      exact alloc_same (h.alloc news) (cells ++ news)
    · intro b' hb' hne
      have : b' ≠ b := fun e => hne (by rw [e]; rfl)
      rw [setBlk_ne _ _ this, alloc_old _ _ (by simp; omega), alloc_old _ _ (by omega)]
    · intro b' hb'
      cases hb'
      exact .inr (by omega)

theorem Grow.at {es : Nat} {s : AVal} {h : Heap} {n0 n : Nat} {cells : List AVal} (G : Grow es s h n0 n cells) (i : Nat) (hi : i < n) :
    ∃ p, aIaddr es s (.int .i64 i) = some p ∧ aLoad h es p = some ((cells.drop (i * es)).take es) := by
  obtain ⟨hl, ⟨rfl, rfl⟩ | ⟨b, rfl, a1, a2, a3, a4⟩⟩ := G
  · omega
  · refine ⟨.ptr b (i * es), ?_, ?_⟩
    · have h1 : ((i : Int) < (n : Int)) := by omega
      simp [aIaddr, aIdx, h1]
    · rw [load_ptr, rd_of a4]
      simp only [hl]
      rw [← Nat.succ_mul]
      exact Nat.mul_le_mul_right es hi

theorem Grow.kept {es : Nat} {s : AVal} {h : Heap} {n0 n : Nat} {cells : List AVal} (G : Grow es s h n0 n cells) {h' : Heap} (hn : h.next ≤ h'.next) (ho : ∀ b, slBlk s = some b → h'.blk b = h.blk b) : Grow es s h' n0 n cells := by
  obtain ⟨hl, h1 | ⟨b, rfl, a1, a2, a3, a4⟩⟩ := G
  · exact ⟨hl, .inl h1⟩
  · exact ⟨hl, .inr ⟨b, rfl, a1, by omega, a3, by rw [ho b rfl, a4]⟩⟩

end Go.Fw

/- Rows of cells: what is read, what is owned, append. -/
namespace Go.Fw
set_option linter.unusedSimpArgs false
set_option linter.unusedVariables false

/-- A row that can be read: m elements of es cells. -/
def Src (es : Nat) (s : AVal) (h : Heap) (m : Nat) (cells : List AVal) : Prop :=
  cells.length = m * es ∧ ((s = .nilSlice ∧ m = 0) ∨ ∃ b off cap ex, s = .slice b off m cap es ex ∧ b < h.next ∧ h.rd b off (m * es) = some cells)

/-- A row that was made behind block n0, and fills its block. -/
def Own (es : Nat) (s : AVal) (h : Heap) (n0 m : Nat) (cells : List AVal) : Prop :=
  cells.length = m * es ∧ ((s = .nilSlice ∧ m = 0) ∨ ∃ b ex, s = .slice b 0 m m es ex ∧ n0 ≤ b ∧ b < h.next ∧ h.blk b = some ⟨cells, true⟩)

theorem Own.src {es : Nat} {s : AVal} {h : Heap} {n0 m : Nat} {cells : List AVal} (O : Own es s h n0 m cells) : Src es s h m cells := by
  obtain ⟨hl, h1 | ⟨b, ex, rfl, h1, h2, h3⟩⟩ := O
  · exact ⟨hl, .inl h1⟩
  · refine ⟨hl, .inr ⟨b, 0, m, ex, rfl, h2, ?_⟩⟩
    rw [rd_of h3 0 _ (by simp [hl]), ← hl]
    simp

theorem Own.nil (es : Nat) (h : Heap) (n0 : Nat) : Own es .nilSlice h n0 0 [] := ⟨by simp, .inl ⟨rfl, rfl⟩⟩
theorem Own.blk {es : Nat} {s : AVal} {h : Heap} {n0 m : Nat} {cells : List AVal} (O : Own es s h n0 m cells) : ∀ b, slBlk s = some b → n0 ≤ b ∧ b < h.next := by
  intro b hb
  obtain ⟨_, ⟨rfl, _⟩ | ⟨b', ex, rfl, h1, h2, _⟩⟩ := O
  · cases hb
  · cases hb; exact ⟨h1, h2⟩
theorem Own.kept {es : Nat} {s : AVal} {h : Heap} {n0 m : Nat} {cells : List AVal} (O : Own es s h n0 m cells) {h' : Heap} (hn : h.next ≤ h'.next) (ho : ∀ b, slBlk s = some b → h'.blk b = h.blk b) : Own es s h' n0 m cells := by
  obtain ⟨hl, h1 | ⟨b, ex, rfl, a1, a2, a4⟩⟩ := O
  · exact ⟨hl, .inl h1⟩
  · exact ⟨hl, .inr ⟨b, ex, rfl, a1, by omega, by rw [ho b rfl, a4]⟩⟩
theorem Own.base {es : Nat} {s : AVal} {h : Heap} {n0 m : Nat} {cells : List AVal} (O : Own es s h n0 m cells) {n1 : Nat} (hn : n1 ≤ n0) : Own es s h n1 m cells := by
  obtain ⟨hl, h1 | ⟨b, ex, rfl, a1, a2, a4⟩⟩ := O
  · exact ⟨hl, .inl h1⟩
  · exact ⟨hl, .inr ⟨b, ex, rfl, by omega, a2, a4⟩⟩

theorem Src.blk {es : Nat} {s : AVal} {h : Heap} {m : Nat} {cells : List AVal} (O : Src es s h m cells) : ∀ b, slBlk s = some b → b < h.next := by
  intro b hb
  obtain ⟨_, ⟨rfl, _⟩ | ⟨b', off, cap, ex, rfl, h2, _⟩⟩ := O
  · cases hb
  · cases hb; exact h2
theorem Src.kept {es : Nat} {s : AVal} {h : Heap} {m : Nat} {cells : List AVal} (O : Src es s h m cells) {h' : Heap} (hn : h.next ≤ h'.next) (ho : ∀ b, slBlk s = some b → h'.blk b = h.blk b) : Src es s h' m cells := by
  obtain ⟨hl, h1 | ⟨b, off, cap, ex, rfl, a2, a4⟩⟩ := O
  · exact ⟨hl, .inl h1⟩
  · refine ⟨hl, .inr ⟨b, off, cap, ex, rfl, by omega, ?_⟩⟩
    unfold Heap.rd at a4 ⊢
    rw [ho b rfl]
    exact a4
theorem Src.len {es : Nat} {s : AVal} {h : Heap} {m : Nat} {cells : List AVal} (O : Src es s h m cells) : aLen false s = some (.int .i64 m) := by
  obtain ⟨_, ⟨rfl, rfl⟩ | ⟨b, off, cap, ex, rfl, _⟩⟩ := O <;> rfl

theorem Src.at {es : Nat} {s : AVal} {h : Heap} {m : Nat} {cells : List AVal} (O : Src es s h m cells) (i : Nat) (hi : i < m) : ∃ p, aIaddr es s (.int .i64 i) = some p ∧ aLoad h es p = some ((cells.drop (i * es)).take es) := by
  obtain ⟨hl, ⟨rfl, rfl⟩ | ⟨b, off, cap, ex, rfl, a2, a4⟩⟩ := O
  · omega
  · refine ⟨.ptr b (off + i * es), ?_, ?_⟩
    · have h1 : ((i : Int) < (m : Int)) := by omega
      simp [aIaddr, aIdx, h1]
    · have hle : (i + 1) * es ≤ m * es := Nat.mul_le_mul_right es hi
      rw [Nat.succ_mul] at hle
      obtain ⟨x, hx, hlx, rfl⟩ := rd_inv a4
      rw [load_ptr, rd_of hx _ _ (by omega)]
      simp only [Option.some.injEq]
      rw [List.drop_take, List.take_take, List.drop_drop, Nat.min_eq_left (by omega)]

/-- Append: a row that is owned grows. -/
theorem Own.app {es bytes : Nat} {zero : List AVal} {s x : AVal} {h : Heap} {n0 n m : Nat} {cells news : List AVal} (O : Own es s h n0 n cells) (S : Src es x h m news) (hes : 0 < es) (h0 : n0 ≤ h.next) (hb : (n + m) * bytes ≤ 140737488355328) (hc : n + m ≤ 4611686018427387904) :
    ∃ s' h', aAppend es bytes zero false s x h = some (s', h') ∧ Own es s' h' n0 (n + m) (cells ++ news) ∧ Kept h s h' s' := by
  have hee : Nat.beq es es = true := Nat.beq_refl es
  have hnews : aNews es bytes zero false x h = some (m, news) := by
    obtain ⟨hl, ⟨rfl, rfl⟩ | ⟨b, off, cap, ex, rfl, a2, a4⟩⟩ := S
    · have : news = [] := by
        cases news with
        | nil => rfl
        | cons a l => simp at hl
      subst this
      rfl
    · unfold aNews
      by_cases hm : m = 0
      · subst hm
        have : news = [] := by
          cases news with
          | nil => rfl
          | cons a l => simp at hl
        subst this
        rfl
      · have : Nat.beq m 0 = false := by rw [beq_dec]; simpa using hm
        simp only [this, hee, a4, cond_true, cond_false, Option.bind_some]
  have hl := S.1
  have hlO := O.1
  by_cases hm : m = 0
  · subst hm
    have : news = [] := by
      cases news with
      | nil => rfl
      | cons a l => simp at hl
    subst this
    refine ⟨s, h, ?_, by simpa using O, Kept.refl _ _⟩
    unfold aAppend
    rw [hnews]
    obtain ⟨_, ⟨rfl, rfl⟩ | ⟨b, ex, rfl, a1, a2, a4⟩⟩ := O
    · rfl
    · simp only [Option.bind_some, hee, cond_true]
      rfl
  · have hm0 : Nat.beq m 0 = false := by rw [beq_dec]; simpa using hm
    have hadd : ∀ k, k * es + m * es = (k + m) * es := fun k => by rw [Nat.add_mul]
    unfold aAppend
    rw [hnews]
    obtain ⟨_, ⟨rfl, rfl⟩ | ⟨b, ex, rfl, a1, a2, a4⟩⟩ := O
    · have hcn : cells = [] := by
        cases cells with
        | nil => rfl
        | cons a l => simp at hlO
      subst hcn
      simp only [Option.bind_some, hm0, cond_false]
      have hb' : m * bytes ≤ 140737488355328 := by simpa using hb
      rw [if_pos ⟨hb', by omega⟩]
      refine ⟨_, _, rfl, ⟨by simp [hl], .inr ⟨h.next, false, by rw [Nat.zero_add], h0, by simp, ?_⟩⟩, ⟨by simp, fun c hc _ => alloc_old _ _ (by omega), fun c hc => by cases hc; exact .inr (Nat.le_refl _)⟩⟩
      rw [alloc_same, List.nil_append]
    · have e2 : Nat.ble (n + m) n = false := by
        cases hh : Nat.ble (n + m) n with
        | false => rfl
        | true => have := Nat.le_of_ble_eq_true hh; omega
      have hold : h.rd b 0 (n * es) = some cells := by
        rw [rd_of a4 0 _ (by simp [hlO]), ← hlO]
        simp
      simp only [Option.bind_some, hee, cond_true, hm0, cond_false, e2]
      rw [if_pos ⟨hb, hc⟩]
      cases ex with
      | true =>
        simp only [cond_true]
        by_cases hn : n = 0
        · subst hn
          have hcn : cells = [] := by
            cases cells with
            | nil => rfl
            | cons a l => simp at hlO
          subst hcn
          have h00 : Nat.beq 0 0 = true := rfl
          simp only [h00, cond_true]
          refine ⟨_, _, rfl, ⟨by simp [hl], .inr ⟨h.next, false, by rw [Nat.zero_add], h0, by simp, ?_⟩⟩, ⟨by simp, fun c hc _ => alloc_old _ _ (by omega), fun c hc => by cases hc; exact .inr (Nat.le_refl _)⟩⟩
          rw [alloc_same, List.nil_append]
        · have hn0 : Nat.beq n 0 = false := by rw [beq_dec]; simpa using hn
          simp only [hn0, cond_false, hold, Option.bind_some]
          refine ⟨_, _, rfl, ⟨by rw [List.length_append, hl, hlO, hadd], .inr ⟨h.next, false, rfl, h0, by simp, ?_⟩⟩, ⟨by simp, fun c hc _ => alloc_old _ _ (by omega), fun c hc => by cases hc; exact .inr (Nat.le_refl _)⟩⟩
          rw [alloc_same]
      | false =>
        simp only [cond_false, a4, hold, Option.bind_some]
        refine ⟨_, _, rfl, ⟨by rw [List.length_append, hl, hlO, hadd], .inr ⟨h.next, false, rfl, h0, by simp, ?_⟩⟩, ⟨by simp, fun c hc hne => ?_, fun c hc => by cases hc; exact .inr (Nat.le_refl _)⟩⟩
        · rw [setBlk_ne _ _ (by omega), alloc_same]
        · have : c ≠ b := fun e => hne (by rw [e]; rfl)
          rw [setBlk_ne _ _ this, alloc_old _ _ (by omega)]

theorem rdL_full (es : Nat) (h : Heap) (cs : List AVal) (n : Nat) (hn : cs.length = n * es) : (h.alloc cs).rd h.next 0 (n * es) = some cs := alloc_rd0 h cs _ hn.symm

/-- A new row of so many elements, as it is laid. -/
theorem Own.lit (es : Nat) (h : Heap) (cs : List AVal) (n : Nat) (hn : cs.length = n * es) (ex : Bool) : Own es (.slice h.next 0 n n es ex) (h.alloc cs) h.next n cs :=
  ⟨hn, .inr ⟨h.next, ex, rfl, Nat.le_refl _, by simp, alloc_same _ _⟩⟩

/-- One more, out of a row that was laid for it. -/
theorem Own.snoc {es bytes : Nat} {zero : List AVal} {s : AVal} {h : Heap} {n0 n : Nat} {cells news : List AVal} (O : Own es s h n0 n cells) (hes : 0 < es) (hl : news.length = es) (h0 : n0 ≤ h.next) (hb : (n + 1) * bytes ≤ 140737488355328) (hc : n + 1 ≤ 4611686018427387904) :
    ∃ s' h', aAppend es bytes zero false s (.slice h.next 0 1 1 es true) (h.alloc news) = some (s', h') ∧ Own es s' h' n0 (n + 1) (cells ++ news) ∧ Kept h s h' s' := by
  have K := Kept.alloc h s news
  have O' : Own es s (h.alloc news) n0 n cells := O.kept K.next fun b hb => alloc_old _ _ (by have := (O.blk b hb).2; omega)
  have S := (Own.lit es h news 1 (by omega) true).src
  obtain ⟨s', h', e, O2, K2⟩ := O'.app (bytes := bytes) (zero := zero) S hes (by simp; omega) hb hc
  exact ⟨s', h', e, O2, K.trans K2⟩

/-- Nothing that was there has changed. -/
structure Went (h h' : Heap) : Prop where
  next : h.next ≤ h'.next
  old : ∀ i, i < h.next → h'.blk i = h.blk i
theorem Went.refl (h : Heap) : Went h h := ⟨Nat.le_refl _, fun _ _ => rfl⟩
theorem Went.trans {a b c : Heap} (h : Went a b) (k : Went b c) : Went a c := ⟨Nat.le_trans h.next k.next, fun i hi => (k.old i (Nat.lt_of_lt_of_le hi h.next)).trans (h.old i hi)⟩
theorem Went.alloc (h : Heap) (cs : List AVal) : Went h (h.alloc cs) := ⟨by simp, fun _ hi => alloc_old _ _ (by omega)⟩
theorem Went.src {a b : Heap} (W : Went a b) {es : Nat} {s : AVal} {m : Nat} {cells : List AVal} (S : Src es s a m cells) : Src es s b m cells := S.kept W.next fun c hc => W.old c (S.blk c hc)
theorem Went.own {a b : Heap} (W : Went a b) {es : Nat} {s : AVal} {n0 m : Nat} {cells : List AVal} (S : Own es s a n0 m cells) : Own es s b n0 m cells := S.kept W.next fun c hc => W.old c (S.blk c hc).2
/-- A row that was let grow, where its block came behind. -/
theorem Kept.went {h0 h h' : Heap} {s s' : AVal} (W : Went h0 h) (hs : ∀ b, slBlk s = some b → h0.next ≤ b) (K : Kept h s h' s') : Went h0 h' :=
  ⟨Nat.le_trans W.next K.next, fun i hi => by
    rw [K.old i (Nat.lt_of_lt_of_le hi W.next), W.old i hi]
    intro hh
    have := hs i hh
    omega⟩

@[simp] theorem byteCells_len (l : List UInt8) : (byteCells l).length = l.length := by simp [byteCells]
theorem byteCells_app (l m : List UInt8) : byteCells (l ++ m) = byteCells l ++ byteCells m := by simp [byteCells]
theorem cellBytes_of : ∀ l : List UInt8, cellBytes (byteCells l) = some l
  | [] => rfl
  | b :: l => by
    have h1 : cellBytes (byteCells (b :: l)) = (cellBytes (byteCells l)).bind fun r => some (UInt8.ofNat (Int.toNat (b.toNat : Int)) :: r) := rfl
    rw [h1, cellBytes_of l]
    simp

/-- Bytes that are read as a text. -/
theorem Src.text {s : AVal} {h : Heap} {l : List UInt8} (S : Src 1 s h l.length (byteCells l)) : aConv .bytesStr s h = some (.str l, h) := by
  obtain ⟨_, ⟨rfl, h0⟩ | ⟨b, off, cap, ex, rfl, _, hr⟩⟩ := S
  · have : l = [] := List.length_eq_zero_iff.1 h0
    subst this
    rfl
  · rw [Nat.mul_one] at hr
    have h1 : Nat.beq 1 1 = true := rfl
    simp only [aConv, h1, cond_true, hr, Option.bind_some, cellBytes_of]

theorem Src.byte {s : AVal} {h : Heap} {l : List UInt8} (S : Src 1 s h l.length (byteCells l)) (i : Nat) (hi : i < l.length) : ∃ p, aIaddr 1 s (.int .i64 i) = some p ∧ aLoad h 1 p = some [.int .u8 ((l.getD i 0).toNat : Int)] := by
  obtain ⟨p, e1, e2⟩ := S.at i hi
  refine ⟨p, e1, ?_⟩
  rw [e2, Nat.mul_one]
  have : i < (byteCells l).length := by simpa using hi
  rw [List.drop_eq_getElem_cons this]
  simp [byteCells, List.getD_eq_getElem?_getD, List.getElem?_eq_getElem hi]

/-- A text behind bytes. -/
theorem Own.text {bytes : Nat} {zero : List AVal} {s : AVal} {h : Heap} {n0 n : Nat} {cells : List AVal} {l : List UInt8} (O : Own 1 s h n0 n cells) (h0 : n0 ≤ h.next) (hb : (n + l.length) * bytes ≤ 140737488355328) (hc : n + l.length ≤ 4611686018427387904) :
    ∃ s' h', aAppend 1 bytes zero false s (.str l) h = some (s', h') ∧ Own 1 s' h' n0 (n + l.length) (cells ++ byteCells l) ∧ Kept h s h' s' := by
  -- as if the text lay in memory
  have hS : ∀ x H, aNews 1 bytes zero false x H = aNews 1 bytes zero false (.str l) H → aAppend 1 bytes zero false s x H = aAppend 1 bytes zero false s (.str l) H := by
    intro x H e
    unfold aAppend
    rw [e]
  have hO := O.1
  by_cases hl : l = []
  · subst hl
    refine ⟨s, h, ?_, by simpa [byteCells] using O, Kept.refl _ _⟩
    rw [← hS .nilSlice h rfl]
    obtain ⟨s', h', e, _, _⟩ := O.app (bytes := bytes) (zero := zero) (x := .nilSlice) (m := 0) (news := []) ⟨by simp, .inl ⟨rfl, rfl⟩⟩ (by omega) h0 (by simpa using hb) (by simpa using hc)
    unfold aAppend aNews
    obtain ⟨_, ⟨rfl, rfl⟩ | ⟨b, ex, rfl, a1, a2, a4⟩⟩ := O <;> rfl
  · have hm : Nat.beq l.length 0 = false := by
      rw [beq_dec]
      have : l.length ≠ 0 := fun e => hl (List.length_eq_zero_iff.1 e)
      simpa using this
    have h11 : Nat.beq 1 1 = true := rfl
    unfold aAppend aNews
    simp only [h11, cond_true, Option.bind_some, hm, cond_false]
    obtain ⟨_, ⟨rfl, rfl⟩ | ⟨b, ex, rfl, a1, a2, a4⟩⟩ := O
    · have hcn : cells = [] := by
        cases cells with
        | nil => rfl
        | cons a l => simp at hO
      subst hcn
      have hb' : l.length * bytes ≤ 140737488355328 := by simpa using hb
      simp only
      rw [if_pos ⟨hb', by omega⟩]
      refine ⟨_, _, rfl, ⟨by simp, .inr ⟨h.next, false, by rw [Nat.zero_add], h0, by simp, ?_⟩⟩, ⟨by simp, fun c hc _ => alloc_old _ _ (by omega), fun c hc => by cases hc; exact .inr (Nat.le_refl _)⟩⟩
      rw [alloc_same, List.nil_append]
    · have e2 : Nat.ble (n + l.length) n = false := by
        cases hh : Nat.ble (n + l.length) n with
        | false => rfl
        | true =>
          have := Nat.le_of_ble_eq_true hh
          have : l.length ≠ 0 := fun e => hl (List.length_eq_zero_iff.1 e)
          omega
      have hold : h.rd b 0 (n * 1) = some cells := by
        rw [rd_of a4 0 _ (by simp [hO]), ← hO]
        simp
      simp only [h11, cond_true, e2, cond_false]
      rw [if_pos ⟨hb, hc⟩]
      cases ex with
      | true =>
        simp only [cond_true]
        by_cases hn : n = 0
        · subst hn
          have hcn : cells = [] := by
            cases cells with
            | nil => rfl
            | cons a l => simp at hO
          subst hcn
          have h00 : Nat.beq 0 0 = true := rfl
          simp only [h00, cond_true]
          refine ⟨_, _, rfl, ⟨by simp, .inr ⟨h.next, false, by rw [Nat.zero_add], h0, by simp, ?_⟩⟩, ⟨by simp, fun c hc _ => alloc_old _ _ (by omega), fun c hc => by cases hc; exact .inr (Nat.le_refl _)⟩⟩
          rw [alloc_same, List.nil_append]
        · have hn0 : Nat.beq n 0 = false := by rw [beq_dec]; simpa using hn
          simp only [hn0, cond_false, hold, Option.bind_some]
          refine ⟨_, _, rfl, ⟨by simp [hO], .inr ⟨h.next, false, rfl, h0, by simp, ?_⟩⟩, ⟨by simp, fun c hc _ => alloc_old _ _ (by omega), fun c hc => by cases hc; exact .inr (Nat.le_refl _)⟩⟩
          rw [alloc_same]
      | false =>
        simp only [cond_false, a4, hold, Option.bind_some]
        refine ⟨_, _, rfl, ⟨by simp [hO], .inr ⟨h.next, false, rfl, h0, by simp, ?_⟩⟩, ⟨by simp, fun c hc hne => ?_, fun c hc => by cases hc; exact .inr (Nat.le_refl _)⟩⟩
        · rw [setBlk_ne _ _ (by omega), alloc_same]
        · have : c ≠ b := fun e => hne (by rw [e]; rfl)
          rw [setBlk_ne _ _ this, alloc_old _ _ (by omega)]

/-- slices.Clone, as the programs have it. -/
noncomputable def cloneS (es bytes : Nat) (zero : List AVal) (a0 : AVal) (h : Heap) : Option J :=
 (aBin .eql .slice a0 (.nilSlice)).bind fun v1 =>
 condV v1
 (some (0, [(.nilSlice)], h))
 ((aFill (reps zero 0) []).bind fun c2 =>
 (aAppend es bytes zero false (.slice h.next 0 0 0 es true) a0 (h.alloc c2)).bind fun r3 =>
 some (0, [r3.1], r3.2))

theorem clone_of {es bytes : Nat} {zero : List AVal} {x : AVal} {h : Heap} {m : Nat} {news : List AVal} (S : Src es x h m news) (hes : 0 < es) (hb : m * bytes ≤ 140737488355328) (hc : m ≤ 4611686018427387904) :
    ∃ s h', cloneS es bytes zero x h = some (0, [s], h') ∧ Own es s h' h.next m news ∧ Went h h' := by
  have S0 := S
  obtain ⟨hl, ⟨rfl, rfl⟩ | ⟨b, off, cap, ex, rfl, a2, a4⟩⟩ := S
  · have : news = [] := by
      cases news with
      | nil => rfl
      | cons a l => simp at hl
    subst this
    exact ⟨.nilSlice, h, rfl, Own.nil _ _ _, Went.refl _⟩
  · have O := Own.lit es h [] 0 (by simp) true
    have S' := (Went.alloc h []).src S0
    obtain ⟨s', h', e, O', K⟩ := O.app (bytes := bytes) (zero := zero) S' hes (by simp) (by simpa using hb) (by simpa using hc)
    refine ⟨s', h', ?_, by simpa using O', K.went (Went.alloc h []) fun b hb => by cases hb; exact Nat.le_refl _⟩
    have e1 : aBin .eql .slice (.slice b off m cap es ex) .nilSlice = some (.bool false) := rfl
    have e2 : aFill (reps zero 0) [] = some [] := rfl
    simp only [cloneS, e1, e2, Option.bind_some, cond_bool, cond_false, e]

theorem ints_bytes {s : AVal} {h : Heap} {l : List Int} (I : Ints .u8 s h l) (lt : ∀ b, slBlk s = some b → b < h.next) (wf : ∀ x ∈ l, (Lit.int .u8 x).wf = true) : ∃ bl : List UInt8, bl.length = l.length ∧ Src 1 s h bl.length (byteCells bl) := by
  have hm : byteCells (l.map fun x => UInt8.ofNat x.toNat) = l.map (.int .u8) := by
    unfold byteCells
    rw [List.map_map]
    apply List.map_congr_left
    intro x hx
    have := wf x hx
    have h1 : IntKind.u8.min = 0 := by decide
    have h2 : IntKind.u8.max = 255 := by decide
    simp only [Lit.wf, h1, h2, Bool.and_eq_true, decide_eq_true_eq] at this
    simp only [Function.comp, AVal.int.injEq, true_and]
    rw [UInt8.toNat_ofNat']
    omega
  refine ⟨l.map fun x => UInt8.ofNat x.toNat, by simp, by simp, ?_⟩
  rw [hm]
  rcases I with ⟨rfl, rfl⟩ | ⟨b, off, cap, ex, rfl, hr⟩
  · exact .inl ⟨rfl, rfl⟩
  · exact .inr ⟨b, off, cap, ex, by simp, lt b rfl, by simpa using hr⟩

theorem Src.ints {k : IntKind} {s : AVal} {h : Heap} {m : Nat} {l : List Int} (S : Src 1 s h m (l.map (.int k))) : Ints k s h l := by
  obtain ⟨hl, ⟨rfl, h0⟩ | ⟨b, off, cap, ex, rfl, a2, a3⟩⟩ := S
  · have : l = [] := List.length_eq_zero_iff.1 (by simpa [h0] using hl)
    exact .inl ⟨rfl, this⟩
  · have hm : l.length = m := by simpa using hl
    refine .inr ⟨b, off, cap, ex, by rw [hm], ?_⟩
    rw [hm, ← Nat.mul_one m]
    exact a3

theorem ints_src {k : IntKind} {s : AVal} {h : Heap} {l : List Int} (I : Ints k s h l) (lt : ∀ b, slBlk s = some b → b < h.next) : Src 1 s h l.length (l.map (.int k)) := by
  rcases I with ⟨rfl, rfl⟩ | ⟨b, off, cap, ex, rfl, hr⟩
  · exact ⟨rfl, .inl ⟨rfl, rfl⟩⟩
  · exact ⟨by simp, .inr ⟨b, off, cap, ex, rfl, lt b rfl, by simpa using hr⟩⟩

end Go.Fw

/- Chapter 2: numbers as bytes, in plain arithmetic. -/
namespace Go.Fw
set_option linter.unusedSimpArgs false
set_option linter.unusedVariables false

def bU8 (n : Int) : UInt8 := UInt8.ofNat (IntKind.u8.wrap n).toNat
theorem bU8_int (n : Int) : ((bU8 n).toNat : Int) = IntKind.u8.wrap n := by
  unfold bU8
  rw [UInt8.toNat_ofNat', IntKind.wrap_u8]
  omega

def byteAt (n : Int) (k : Nat) : UInt8 := bU8 (n.fdiv (2 ^ k))
/-- The first so many of a number's eight bytes. -/
def pre8 (n : Int) (j : Nat) : List UInt8 := (List.range j).map fun q => byteAt n (8 * (7 - q))
def be8 (n : Int) : List UInt8 := pre8 n 8
theorem pre8_succ (n : Int) (j : Nat) : pre8 n (j + 1) = pre8 n j ++ [byteAt n (8 * (7 - j))] := by simp [pre8, List.range_succ]
@[simp] theorem be8_len (n : Int) : (be8 n).length = 8 := by simp [be8, pre8]

def dec (l : List UInt8) : Int := l.foldl (fun n c => n * 256 + c.toNat) 0
theorem dec_snoc (l : List UInt8) (c : UInt8) : dec (l ++ [c]) = dec l * 256 + c.toNat := by simp [dec]

theorem dec_be8 (n : Int) (h : -9223372036854775808 ≤ n ∧ n ≤ 9223372036854775807) : IntKind.i64.wrap (dec (be8 n)) = n := by
  have hb : ∀ k : Nat, ((byteAt n k).toNat : Int) = (n / 2 ^ k) % 256 := by
    intro k
    unfold byteAt
    rw [bU8_int, IntKind.wrap_u8, Int.fdiv_eq_ediv_of_nonneg _ (by exact Int.pow_nonneg (by decide))]
  have hd : dec (be8 n) = (((((((n / 2 ^ 56 % 256) * 256 + n / 2 ^ 48 % 256) * 256 + n / 2 ^ 40 % 256) * 256 + n / 2 ^ 32 % 256) * 256 + n / 2 ^ 24 % 256) * 256 + n / 2 ^ 16 % 256) * 256 + n / 2 ^ 8 % 256) * 256 + n / 2 ^ 0 % 256 := by
    have : be8 n = [byteAt n 56, byteAt n 48, byteAt n 40, byteAt n 32, byteAt n 24, byteAt n 16, byteAt n 8, byteAt n 0] := rfl
    rw [this]
    simp only [dec, List.foldl_cons, List.foldl_nil, hb]
    omega
  rw [hd, IntKind.wrap_i64]
  have e1 : n / 2 ^ 8 = n / 256 := rfl
  have e2 : n / 2 ^ 16 = n / 2 ^ 8 / 256 := by omega
  have e3 : n / 2 ^ 24 = n / 2 ^ 16 / 256 := by omega
  have e4 : n / 2 ^ 32 = n / 2 ^ 24 / 256 := by omega
  have e5 : n / 2 ^ 40 = n / 2 ^ 32 / 256 := by omega
  have e6 : n / 2 ^ 48 = n / 2 ^ 40 / 256 := by omega
  have e7 : n / 2 ^ 56 = n / 2 ^ 48 / 256 := by omega
  have e0 : n / 2 ^ 0 = n := by simp
  rw [e7, e6, e5, e4, e3, e2, e1, e0]
  generalize ha1 : n / 256 = a1
  generalize ha2 : a1 / 256 = a2
  generalize ha3 : a2 / 256 = a3
  generalize ha4 : a3 / 256 = a4
  generalize ha5 : a4 / 256 = a5
  generalize ha6 : a5 / 256 = a6
  generalize ha7 : a6 / 256 = a7
  omega

/-- One byte more, on the left. -/
theorem or_byte (k : IntKind) (hk : k = .i64 ∨ k = .u64) (m : Int) (c : Nat) (hc : c < 256) : aBin .or .plain (.int k (k.wrap (k.wrap m * 2 ^ 8))) (.int k (c : Int)) = some (.int k (k.wrap (m * 256 + c))) := by
  have h1 : ∀ x : Int, (BitVec.ofInt 64 x).toNat = (x % 2 ^ 64).toNat := fun x => BitVec.toNat_ofInt ..
  have hq : ((k.wrap (k.wrap m * 2 ^ 8)) % 2 ^ 64).toNat = 2 ^ 8 * (m % 2 ^ 56).toNat := by
    rcases hk with rfl | rfl
    · rw [IntKind.wrap_i64, IntKind.wrap_i64]; omega
    · rw [IntKind.wrap_u64, IntKind.wrap_u64]; omega
  have hcc : ((c : Int) % 2 ^ 64).toNat = c := by omega
  have hor : 2 ^ 8 * (m % 2 ^ 56).toNat ||| c = 2 ^ 8 * (m % 2 ^ 56).toNat + c := (Nat.two_pow_add_eq_or_of_lt (by omega) _).symm
  have hbits : k.bits = 64 := by rcases hk with rfl | rfl <;> rfl
  have key : aBin .or .plain (.int k (k.wrap (k.wrap m * 2 ^ 8))) (.int k (c : Int)) = some (.int k (k.wrap (BitVec.ofInt 64 (k.wrap (k.wrap m * 2 ^ 8)) ||| BitVec.ofInt 64 (c : Int)).toNat)) := by
    rcases hk with rfl | rfl <;> rfl
  rw [key, BitVec.toNat_or, h1, h1, hq, hcc, hor]
  simp only [Option.some.injEq, AVal.int.injEq, true_and]
  rcases hk with rfl | rfl
  · rw [IntKind.wrap_i64, IntKind.wrap_i64]; omega
  · rw [IntKind.wrap_u64, IntKind.wrap_u64]; omega

theorem shl_byte (k : IntKind) (hk : k = .i64 ∨ k = .u64) (x : Int) : aBin .shl .plain (.int k x) (.int .u64 8) = some (.int k (k.wrap (x * 2 ^ 8))) := by
  rcases hk with rfl | rfl <;> simp [aBin, aShift, IntKind.bits]

theorem shr_eq (n : Int) (j : IntKind) (k : Nat) (hk : k ≤ 64) : aBin .shr .plain (.int .i64 n) (.int j (k : Int)) = some (.int .i64 (n.fdiv (2 ^ k))) := by
  have h1 : ¬ (k : Int) < 0 := by omega
  have h2 : min k 64 = k := by omega
  simp [aBin, aShift, h1, IntKind.bits, h2]

end Go.Fw

/- Arguments that are slices of texts. -/
namespace Go.Fw
set_option linter.unusedSimpArgs false
set_option linter.unusedVariables false
open Go.RowKit Go.WideShapes Go.ChangeShapes

/-- An argument whose memory is read only: the blocks that it brings, and the value over the first of their numbers. -/
structure RowArg (es : Nat) (w : World) (v : Value) (bs : List (Loc × List AVal)) (mk : Nat → AVal) (m : Nat) (cells : List AVal) : Prop where
  rel : ∀ (φ : Phi) (i : Nat), (∀ j p, bs[j]? = some p → φ (i + j) = some p.1) → VRel φ (mk i) v
  ro : ∀ φ, ∀ p ∈ bs, RoOk φ w p
  src : ∀ (h : Heap) (i : Nat), i + bs.length ≤ h.next → (∀ j p, bs[j]? = some p → h.blk (i + j) = some ⟨p.2, false⟩) → Src es (mk i) h m cells
  room : ∀ i b off n cap es ex, mk i = .slice b off n cap es ex → n ≤ cap

theorem RowArg.here {es : Nat} {w : World} {v : Value} {bs : List (Loc × List AVal)} {mk : Nat → AVal} {m : Nat} {cells : List AVal} (A : RowArg es w v bs mk m cells) {B pre post : List (Loc × List AVal)} (hB : B = pre ++ (bs ++ post)) :
    VRel (roPhi B) (mk pre.length) v ∧ Src es (mk pre.length) (roHeap B) m cells ∧ ∀ p ∈ bs, RoOk (roPhi B) w p := by
  refine ⟨A.rel _ _ fun j p hp => ?_, A.src _ _ ?_ fun j p hp => ?_, A.ro _⟩
  · simp only [roPhi, ro_at hB hp, Option.map_some]
  · show pre.length + bs.length ≤ B.length
    rw [hB]
    simp
  · simp only [roHeap, ro_at hB hp, Option.map_some]

theorem mem_weightsAll {H : Type} {P : Program} {e : TypeId} : ∀ {l : List (DataW H)} {d : DataW H}, d ∈ l → ∀ x ∈ d.weights P e, x ∈ DataW.weightsAll P e l
  | [], _, h, _, _ => by cases h
  | y :: r, d, h, x, hx => by
    simp only [DataW.weightsAll, List.mem_append]
    rcases List.mem_cons.1 h with rfl | h
    · exact .inl hx
    · exact .inr (mem_weightsAll h x hx)

theorem strs_arg {H : Type} {enc : TypeId × Value → H} {P : Program} {w : World} {t e : TypeId} (ht : P.underlying t = some (.slice e)) (he : P.underlying e = some .string) (hc : P.cellsOf e = 1) {v : Value} {d : DataW H} {ps : List MemPlace}
    (hv : Value.okWide P w .any 0 t v) (h : DataW.Trod enc P w 0 (fun _ => true) true t v d ps) :
    ∃ bs mk, ∃ L : List (List UInt8), RowArg 1 w v bs mk L.length (L.map .str) ∧ ((∀ x ∈ d.weights P t, x ≤ reachBytes) → L.length * P.bytesOf e ≤ reachBytes) ∧ (∀ s ∈ L, s.length ≤ maxLen) ∧ ((∀ x ∈ d.weights P t, x ≤ reachBytes) → ∀ s ∈ L, s.length ≤ reachBytes) := by
  obtain ⟨a0, len, cap, rfl⟩ := okWide_slice ht hv
  obtain ⟨fuel, hf⟩ := h
  have hf' : DataW.trod enc P w 0 (fun _ => true) true fuel t [.slice a0 len cap] = some (d, ps) := hf
  rcases open_strings ht he hc hf' with ⟨h1, hd⟩ | ⟨a, len', cap', zs, h1, _, hl, hm, hz, hd, hcell, hwf⟩
  · simp only [List.cons.injEq, and_true] at h1
    rw [h1]
    exact ⟨[], fun _ => .nilSlice, [], ⟨fun φ i _ => (by unfold VRel; rfl), fun φ p hp => (by cases hp), fun h i _ _ => ⟨rfl, .inl ⟨rfl, rfl⟩⟩, fun _ _ _ _ _ _ _ e => (by cases e)⟩, fun _ => by simp, fun s hs => (by cases hs), fun _ s hs => by cases hs⟩
  · simp only [List.cons.injEq, Value.slice.injEq, and_true] at h1
    obtain ⟨rfl, rfl, rfl⟩ := h1
    simp only [Prod.mk.injEq] at hd
    obtain ⟨hs, c, el, fz, hcb⟩ := okWide_has ht hv
    simp only [if_true] at hz
    have hadd : ∀ i, (a.add i) = ⟨a.block, a.off + i, none⟩ := by
      intro i
      obtain ⟨b, off, sp⟩ := a
      simp only at hs
      subst hs
      exact add_plain b off i
    have hcell' : ∀ i, i < cap → c[a.off + i]? = some (.string (zs.getD i ByteArray.empty)) := by
      intro i hi
      have := hcell i (by omega)
      rw [hadd] at this
      simp only [World.cell?, hcb] at this
      simpa using this
    obtain ⟨L, hL⟩ : ∃ L : List (List UInt8), L = (zs.take len).map fun s => s.data.toList := ⟨_, rfl⟩
    have hlen : L.length = len := by rw [hL]; simp; omega
    have hat : ∀ i, i < len → (L.map AVal.str)[i]? = some (.str (zs.getD i ByteArray.empty).data.toList) := by
      intro i hi
      rw [hL]
      simp only [List.map_map, List.getElem?_map, List.getElem?_take, if_pos hi]
      rw [List.getD_eq_getElem?_getD, List.getElem?_eq_getElem (by omega)]
      rfl
    have hsz : (∀ x ∈ d.weights P t, x ≤ reachBytes) → L.length * P.bytesOf e ≤ reachBytes := by
      intro hw
      rw [hd.1] at hw
      have h1 := hw (((strs (H := H) (zs.take len)).length + (strs (H := H) (zs.drop len)).length) * P.bytesOf e) (by simp [DataW.weights, ht])
      have h2 : (strs (H := H) (zs.take len)).length = len := by simp [strs]; omega
      rw [Nat.add_mul, h2] at h1
      rw [hlen]
      omega
    have hms : ∀ s ∈ L, s.length ≤ maxLen := by
      intro s hs
      rw [hL] at hs
      obtain ⟨z, hz, rfl⟩ := List.mem_map.1 hs
      have := hwf z (List.mem_of_mem_take hz)
      have h3 : z.data.toList.length = z.size := Array.length_toList
      rw [h3]
      exact this
    have hml : (∀ x ∈ d.weights P t, x ≤ reachBytes) → ∀ s ∈ L, s.length ≤ reachBytes := by
      intro hw s hs
      rw [hL] at hs
      obtain ⟨z, hz, rfl⟩ := List.mem_map.1 hs
      rw [hd.1] at hw
      refine hw _ ?_
      simp only [DataW.weights, ht, List.mem_cons, List.mem_append]
      refine .inr (.inl (mem_weightsAll (d := .lit (.string z.data.toList)) (List.mem_map.2 ⟨z, hz, rfl⟩) _ ?_))
      simp [DataW.weights]
    by_cases h0 : cap = 0
    · have hl0 : len = 0 := by omega
      have hLn : L = [] := List.length_eq_zero_iff.1 (by omega)
      subst h0 hl0
      refine ⟨[(⟨a.block, 0, c.size⟩, [])], fun i => .slice i 0 0 0 1 false, [], ⟨fun φ i hi => ?_, fun φ p hp => ?_, fun h i hn hi => ⟨rfl, .inr ⟨i, 0, 0, false, rfl, by simp at hn; omega, ?_⟩⟩, fun _ _ _ _ _ _ _ e => (by cases e; exact Nat.le_refl _)⟩, fun _ => by simp, fun s hs => (by cases hs), fun _ s hs => by cases hs⟩
      · exact vrel_slice.2 ⟨_, a, 0, hi 0 _ rfl, rfl, Nat.le_refl _, Nat.le_refl _, (fun h => by cases h), (fun h => by omega)⟩
      · rw [List.mem_singleton] at hp
        subst hp
        exact ⟨c, el, fz, hcb, rfl, by simp, by simp⟩
      · have : h.blk i = some ⟨[], false⟩ := hi 0 _ rfl
        exact rd_of this 0 _ (by simp)
    · have hszc : a.off + cap ≤ c.size := by
        have := hcell' (cap - 1) (by omega)
        have := (Array.getElem?_eq_some_iff.1 this).1
        omega
      refine ⟨[(⟨a.block, a.off, c.size⟩, L.map .str)], fun i => .slice i 0 L.length L.length 1 false, L, ⟨fun φ i hi => ?_, fun φ p hp => ?_, fun h i hn hi => ⟨by simp, .inr ⟨i, 0, L.length, false, rfl, by simp at hn; omega, ?_⟩⟩, fun _ _ _ _ _ _ _ e => (by cases e; exact Nat.le_refl _)⟩, hsz, hms, hml⟩
      · have hi0 : φ i = some (⟨a.block, a.off, c.size⟩ : Loc) := hi 0 _ rfl
        rw [hlen]
        refine vrel_slice.2 ⟨_, a, cap, hi0, rfl, Nat.le_refl _, hl, (fun h => by cases h), fun _ => ⟨?_, by simp only; omega⟩⟩
        obtain ⟨b, off, sp⟩ := a
        simp only at hs
        subst hs
        simp
      · rw [List.mem_singleton] at hp
        subst hp
        refine ⟨c, el, fz, hcb, rfl, by simp only [List.length_map, hlen]; omega, ?_⟩
        intro i v hi
        have hil : i < len := by
          have := (List.getElem?_eq_some_iff.1 hi).1
          simp at this
          omega
        rw [hat i hil] at hi
        cases hi
        refine ⟨_, hcell' i (by omega), ?_, rfl⟩
        unfold VRel
        rfl
      · have : h.blk i = some ⟨L.map .str, false⟩ := hi 0 _ rfl
        rw [rd_of this 0 _ (by simp)]
        simp only [List.drop_zero, Nat.mul_one]
        rw [List.take_of_length_le (by simp)]

theorem Src.str {s : AVal} {h : Heap} {L : List (List UInt8)} (S : Src 1 s h L.length (L.map .str)) (i : Nat) (hi : i < L.length) : ∃ p, aIaddr 1 s (.int .i64 i) = some p ∧ aLoad h 1 p = some [.str (L.getD i [])] := by
  obtain ⟨p, e1, e2⟩ := S.at i hi
  refine ⟨p, e1, ?_⟩
  rw [e2, Nat.mul_one]
  have : i < (L.map AVal.str).length := by simpa using hi
  rw [List.drop_eq_getElem_cons this]
  simp [List.getD_eq_getElem?_getD, List.getElem?_eq_getElem hi]

end Go.Fw
