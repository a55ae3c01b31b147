/- Blocks by computation. -/
import Derived.Test.YtfdhljghamkgjaaFwZo
namespace Go.Fw
set_option linter.unusedSimpArgs false
set_option linter.unusedVariables false
theorem blk_set (h : Heap) (b c : Nat) (x : Option Blk) : (h.setBlk b x).blk c = if c = b then x else h.blk c := by
  by_cases e : c = b
  · subst e; simp
  · rw [if_neg e, setBlk_ne _ _ e]
theorem blk_alloc (h : Heap) (c : Nat) (x : List AVal) : (h.alloc x).blk c = if c = h.next then some ⟨x, true⟩ else h.blk c := by
  by_cases e : c = h.next
  · subst e; simp
  · rw [if_neg e, alloc_old _ _ e]
theorem rd_bind (h : Heap) (b o n : Nat) : h.rd b o n = (h.blk b).bind fun x => rdL x.cells o n := by
  unfold Heap.rd rdL
  cases h.blk b <;> rfl
theorem wr_bind (h : Heap) (b o : Nat) (vs : List AVal) : h.wr b o vs = (h.blk b).bind fun x => if x.rw = true ∧ o + vs.length ≤ x.cells.length then some (h.setBlk b (some ⟨splice x.cells o vs, true⟩)) else none := by
  unfold Heap.wr
  cases h.blk b with
  | none => rfl
  | some x => by_cases h1 : x.rw <;> by_cases h2 : o + vs.length ≤ x.cells.length <;> simp [h1, h2]

/-- Blocks were made; none that was there was touched. -/
structure Keeps (h h' : Heap) : Prop where
  next : h.next ≤ h'.next
  old : ∀ b, b < h.next → h'.blk b = h.blk b
theorem Keeps.refl (h : Heap) : Keeps h h := ⟨Nat.le_refl _, fun _ _ => rfl⟩
theorem Keeps.trans {a b c : Heap} (x : Keeps a b) (y : Keeps b c) : Keeps a c := ⟨Nat.le_trans x.next y.next, fun i hi => (y.old i (Nat.lt_of_lt_of_le hi x.next)).trans (x.old i hi)⟩
theorem Keeps.alloc (h : Heap) (cs : List AVal) : Keeps h (h.alloc cs) := ⟨by simp, fun b hb => alloc_old _ _ (by omega)⟩
theorem Keeps.set {h h' : Heap} (K : Keeps h h') {b : Nat} (hb : h.next ≤ b) (x : Option Blk) : Keeps h (h'.setBlk b x) := ⟨K.next, fun c hc => by rw [setBlk_ne _ _ (by omega)]; exact K.old c hc⟩
theorem Keeps.res (h : Heap) (m : Nat) : Keeps h (h.res m) := ⟨by rw [Heap.res_next]; omega, fun _ _ => rfl⟩
theorem Keeps.only {h h' : Heap} (K : Keeps h h') (p : Nat) : Only p h h' := ⟨K.next, fun b hb _ => K.old b hb⟩
theorem Tape.keeps {p : Nat} {s : AVal} {l : List Int} {h h' : Heap} (T : Tape p s l h) (K : Keeps h h') : Tape p s l h' := T.mono K.next K.old
theorem Ints.keeps {k : IntKind} {s : AVal} {h h' : Heap} {l : List Int} (I : Ints k s h l) (hs : ∀ b, slBlk s = some b → b < h.next) (K : Keeps h h') : Ints k s h' l := I.mono fun b hb => K.old b (hs b hb)
theorem Ints.cell {k : IntKind} {s : AVal} {h : Heap} {l : List Int} (I : Ints k s h l) : aCells 1 s = some [s] := by
  rcases I with ⟨rfl, _⟩ | ⟨b, off, cap, ex, rfl, _⟩ <;> rfl
/-- A loop that counts up, with what holds of memory. -/
theorem loop_up {f : List AVal → Heap → Option J} (N : Nat) (xs : Nat → List AVal) (ys : List AVal) (P : Heap → Prop)
    (step : ∀ i h, i < N → P h → ∃ h', f (xs i) h = some (0, xs (i + 1), h') ∧ P h') (stop : ∀ h, P h → ∃ h', f (xs N) h = some (1, ys, h') ∧ P h') :
    ∀ h, P h → ∃ h', loop f (xs 0) h = some (1, ys, h') ∧ P h' := by
  have go : ∀ m i h, m + i = N → P h → ∃ h', loop f (xs i) h = some (1, ys, h') ∧ P h' := by
    intro m
    induction m with
    | zero =>
      intro i h e p
      obtain rfl : i = N := by omega
      obtain ⟨h', e, p⟩ := stop h p
      exact ⟨h', loop_done e, p⟩
    | succ m ih =>
      intro i h e p
      obtain ⟨h1, e1, p1⟩ := step i h (by omega) p
      obtain ⟨h2, e2, p2⟩ := ih (i + 1) h1 (by omega) p1
      exact ⟨h2, (loop_more e1).trans e2, p2⟩
  intro h p
  exact go N 0 h rfl p
theorem setBlk_twice (h : Heap) (b : Nat) (x y : Option Blk) : (h.setBlk b x).setBlk b y = h.setBlk b y := by
  unfold Heap.setBlk
  congr 1
  funext c
  cases e : Nat.beq c b <;> simp [e]
end Go.Fw
