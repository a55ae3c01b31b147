/- Lists that grow beside other memory. -/
import Derived.Test.YtfdhljghamkgjaaFwZh
namespace Go.Fw
set_option linter.unusedSimpArgs false
set_option linter.unusedVariables false

/-- From (hs, os) to (h, o): nothing but the block of the list that grows was let go. -/
structure Kept (hs : Heap) (os : AVal) (h : Heap) (o : AVal) : Prop where
  next : hs.next ≤ h.next
  old : ∀ b, b < hs.next → slBlk os ≠ some b → h.blk b = hs.blk b
  blk : ∀ b, slBlk o = some b → slBlk os = some b ∨ hs.next ≤ b

theorem Kept.refl (h : Heap) (o : AVal) : Kept h o h o := ⟨Nat.le_refl _, fun _ _ _ => rfl, fun _ hb => .inl hb⟩
theorem Kept.trans {a b c : Heap} {x y z : AVal} (p : Kept a x b y) (q : Kept b y c z) : Kept a x c z where
  next := Nat.le_trans p.next q.next
  old := fun i hi hx => by
    rw [q.old i (Nat.lt_of_lt_of_le hi p.next), p.old i hi hx]
    intro hy
    rcases p.blk i hy with h | h
    · exact hx h
    · omega
  blk := fun i hi => by
    rcases q.blk i hi with h | h
    · exact p.blk i h
    · exact .inr (Nat.le_trans p.next h)
theorem Kept.alloc (h : Heap) (o : AVal) (cs : List AVal) : Kept h o (h.alloc cs) o := ⟨by simp, fun b hb _ => alloc_old _ _ (by omega), fun _ hb => .inl hb⟩

theorem Grow.one' {es bytes : Nat} {zero : List AVal} {s : AVal} {h : Heap} {n0 n : Nat} {cells news : List AVal} (G : Grow es s h n0 n cells) (h0 : n0 ≤ h.next) (hn : news.length = es) (hb : (n + 1) * bytes ≤ 140737488355328) (hc : n + 1 ≤ 4611686018427387904) :
    ∃ s' h', aAppend es bytes zero false s (.slice h.next 0 1 1 es true) (h.alloc news) = some (s', h') ∧ Grow es s' h' n0 (n + 1) (cells ++ news) ∧ Kept h s h' s' := by
  have hr : (h.alloc news).rd h.next 0 (1 * es) = some news := alloc_rd0 h news _ (by omega)
  have hes : Nat.beq es es = true := Nat.beq_refl es
  obtain ⟨hl, ⟨rfl, rfl⟩ | ⟨b, rfl, a1, a2, a3, a4⟩⟩ := G
  · have hcn : cells = [] := by
      cases cells with
      | nil => rfl
      | cons a l => simp at hl
    subst hcn
    refine ⟨.slice (h.next + 1) 0 1 1 es false, (h.alloc news).alloc news, ?_, ⟨by simp [hn], .inr ⟨h.next + 1, rfl, by omega, ?_, by omega, ?_⟩⟩, ?_, ?_, ?_⟩
    · simp only [aAppend, aNews, hes, hr, cond_true, Option.bind_some]
      have e1 : Nat.beq 1 0 = false := rfl
      rw [e1]
      simp only [cond_false, Option.bind_some]
      rw [if_pos (by omega)]
      rfl
    · simp
    · simp only [List.nil_append]
      exact alloc_same (h.alloc news) news
    · simp; omega
    · intro b hb' _
      rw [alloc_old _ _ (by simp; omega), alloc_old _ _ (by omega)]
    · intro b hb'
      cases hb'
      exact .inr (by omega)
  · have hbk : (h.alloc news).blk b = some ⟨cells, true⟩ := by rw [alloc_old _ _ (by omega)]; exact a4
    have hold : (h.alloc news).rd b 0 (n * es) = some cells := by
      rw [rd_of hbk 0 _ (by simp [hl])]
      simp [← hl]
    refine ⟨.slice (h.next + 1) 0 (n + 1) (n + 1) es false, ((h.alloc news).alloc (cells ++ news)).setBlk b none, ?_, ⟨by simp [hl, hn, Nat.add_mul], .inr ⟨h.next + 1, rfl, by omega, by simp, by omega, ?_⟩⟩, by simp; omega, ?_, ?_⟩
    · simp only [aAppend, aNews, hes, hr, cond_true, Option.bind_some]
      have e1 : Nat.beq 1 0 = false := rfl
      have e2 : Nat.ble (n + 1) n = false := by
        cases hh : Nat.ble (n + 1) n with
        | false => rfl
        | true => have := Nat.le_of_ble_eq_true hh; omega
      rw [e1]
      simp only [cond_false, Option.bind_some, e2]
      rw [if_pos (by omega)]
      rw [hbk]
      simp only [hold, Option.bind_some]
      rfl
    · rw [setBlk_ne _ _ (by omega)]
      exact alloc_same (h.alloc news) (cells ++ news)
    · intro b' hb' hne
      have : b' ≠ b := fun e => hne (by rw [e]; rfl)
      rw [setBlk_ne _ _ this, alloc_old _ _ (by simp; omega), alloc_old _ _ (by omega)]
    · intro b' hb'
      cases hb'
      exact .inr (by omega)

theorem Grow.at {es : Nat} {s : AVal} {h : Heap} {n0 n : Nat} {cells : List AVal} (G : Grow es s h n0 n cells) (i : Nat) (hi : i < n) :
    ∃ p, aIaddr es s (.int .i64 i) = some p ∧ aLoad h es p = some ((cells.drop (i * es)).take es) := by
  obtain ⟨hl, ⟨rfl, rfl⟩ | ⟨b, rfl, a1, a2, a3, a4⟩⟩ := G
  · omega
  · refine ⟨.ptr b (i * es), ?_, ?_⟩
    · have h1 : ((i : Int) < (n : Int)) := by omega
      simp [aIaddr, aIdx, h1]
    · rw [load_ptr, rd_of a4]
      simp only [hl]
      rw [← Nat.succ_mul]
      exact Nat.mul_le_mul_right es hi

theorem Grow.kept {es : Nat} {s : AVal} {h : Heap} {n0 n : Nat} {cells : List AVal} (G : Grow es s h n0 n cells) {h' : Heap} (hn : h.next ≤ h'.next) (ho : ∀ b, slBlk s = some b → h'.blk b = h.blk b) : Grow es s h' n0 n cells := by
  obtain ⟨hl, h1 | ⟨b, rfl, a1, a2, a3, a4⟩⟩ := G
  · exact ⟨hl, .inl h1⟩
  · exact ⟨hl, .inr ⟨b, rfl, a1, by omega, a3, by rw [ho b rfl, a4]⟩⟩

end Go.Fw
