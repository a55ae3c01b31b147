/- Rows of numbers in memory. -/
import Derived.Test.YtfdhljghamkgjaaFwZc
namespace Go.Fw
set_option linter.unusedSimpArgs false
set_option linter.unusedVariables false

/-- A slice of numbers. -/
def Ints (k : IntKind) (s : AVal) (h : Heap) (l : List Int) : Prop :=
  (s = .nilSlice ∧ l = []) ∨ ∃ b off cap ex, s = .slice b off l.length cap 1 ex ∧ h.rd b off l.length = some (l.map (.int k))

def slBlk : AVal → Option Nat
  | .slice b .. => some b
  | _ => none

theorem Ints.len {k : IntKind} {s : AVal} {h : Heap} {l : List Int} (H : Ints k s h l) : aLen false s = some (.int .i64 l.length) := by
  rcases H with ⟨rfl, rfl⟩ | ⟨b, off, cap, ex, rfl, _⟩ <;> rfl

theorem rd_inv {h : Heap} {b off n : Nat} {cs : List AVal} (e : h.rd b off n = some cs) : ∃ x, h.blk b = some x ∧ off + n ≤ x.cells.length ∧ cs = (x.cells.drop off).take n := by
  unfold Heap.rd at e
  split at e
  · rename_i x hx
    cases hb : Nat.ble (off + n) x.cells.length with
    | false => rw [hb] at e; cases e
    | true =>
      rw [hb] at e
      cases e
      exact ⟨x, hx, Nat.le_of_ble_eq_true hb, rfl⟩
  · cases e

theorem rd_at {h : Heap} {b off n : Nat} {cs : List AVal} (e : h.rd b off n = some cs) (i : Nat) (hi : i < n) : h.rd b (off + i) 1 = some [cs.getD i .undef] := by
  obtain ⟨x, hx, hl, rfl⟩ := rd_inv e
  rw [rd_of hx _ _ (by omega)]
  simp only [Option.some.injEq]
  have h1 : off + i < x.cells.length := by omega
  rw [List.drop_eq_getElem_cons h1]
  simp only [List.take_succ_cons, List.take_zero, List.cons.injEq, and_true]
  rw [List.getD_eq_getElem?_getD, List.getElem?_take, if_pos hi, List.getElem?_drop, List.getElem?_eq_getElem h1]
  rfl

theorem Ints.at {k : IntKind} {s : AVal} {h : Heap} {l : List Int} (H : Ints k s h l) (i : Nat) (hi : i < l.length) : ∃ p, aIaddr 1 s (.int .i64 i) = some p ∧ aLoad h 1 p = some [.int k (l.getD i 0)] := by
  rcases H with ⟨rfl, rfl⟩ | ⟨b, off, cap, ex, rfl, hr⟩
  · simp at hi
  · refine ⟨.ptr b (off + i), ?_, ?_⟩
    · have h1 : ((i : Int) < (l.length : Int)) := by omega
      simp [aIaddr, aIdx, h1]
    · rw [load_ptr, rd_at hr i hi]
      simp [List.getD_eq_getElem?_getD, List.getElem?_map, List.getElem?_eq_getElem hi]

theorem Ints.mono {k : IntKind} {s : AVal} {h h' : Heap} {l : List Int} (H : Ints k s h l) (hb : ∀ b, slBlk s = some b → h'.blk b = h.blk b) : Ints k s h' l := by
  rcases H with ⟨rfl, rfl⟩ | ⟨b, off, cap, ex, rfl, hr⟩
  · exact .inl ⟨rfl, rfl⟩
  · refine .inr ⟨b, off, cap, ex, rfl, ?_⟩
    unfold Heap.rd at hr ⊢
    rw [hb b rfl]
    exact hr

end Go.Fw
