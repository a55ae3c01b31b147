/- YtjibfbphiemljaaGreatDoorHelp -/
import Derived.Test.YtjibfbphiemljaaGreatDoorKnown
set_option linter.unusedSimpArgs false
set_option linter.unusedVariables false
namespace Go.Proofs.YtjibfbphiemljaaGreatDoor.Code
open Go.Fw
theorem reps_z (z : List AVal) : reps z 0 = [] := rfl
theorem ints_cell {s : AVal} {h : Heap} {l : List Int} (I : Ints .i64 s h l) : aCells 1 s = some [s] := by
  obtain ⟨rfl, rfl⟩ | ⟨b, off, cap, ex, rfl, _⟩ := I <;> rfl
theorem Rep.up {h H : Heap} {e : Er} {v : AVal} (r : Rep h h.next e v) (W : Went h H) : Rep H H.next e v := (r.went (Nat.le_refl _) W).mono W.next (Nat.le_refl _) fun _ _ => rfl
theorem Only.went {h H : Heap} (O : Only h.next (h.alloc []) H) : True := trivial
theorem new_tape {h : Heap} {s : AVal} {l : List Int} (I : Ints .i64 s h l) (lt : ∀ b, slBlk s = some b → b < h.next) (hl : l.length * 8 ≤ 140737488355328) :
    ∃ m sc sk H, E tbl 6 [.ptr h.next 0] (h.alloc [s, .int .i64 0]) = some (.agg (m.cells sc sk), H) ∧ MsgOk h.next s l (h.alloc [s, .int .i64 0]) m sc sk H ∧ Went h H := by
  obtain ⟨m, sc, sk, H, e, K⟩ := tmsg_ok (Tape.make I lt (by omega))
  refine ⟨m, sc, sk, H, e, K, by have := K.only.next; simp at this; omega, fun b hb => ?_⟩
  rw [K.only.old b (by simp; omega) (by omega), alloc_old _ _ (by omega)]
theorem bytes_small (m : Ms) (R : RightM m) : (bytesM m).length ≤ 100000 := by
  have hk := keyBs_len (m.ka, m.ki)
  have hc : ∀ l : List Cd, (cardsBs l).length ≤ 600 * l.length + 1 := by
    intro l
    have : (l.map cardBs).flatten.length ≤ 600 * l.length := by
      induction l with
      | nil => simp
      | cons x l ih => have := cardBs_len x; simp only [List.map_cons, List.flatten_cons, List.length_append, List.length_cons]; omega
    unfold cardsBs
    rw [List.length_append]
    simp only [List.length_cons, List.length_nil]
    omega
  have hy : ∀ l : List Ky, (keysBs l).length ≤ 600 * l.length + 1 := by
    intro l
    have : (l.map keyBs).flatten.length ≤ 600 * l.length := by
      induction l with
      | nil => simp
      | cons x l ih => have := keyBs_len x; simp only [List.map_cons, List.flatten_cons, List.length_append, List.length_cons]; omega
    unfold keysBs
    rw [List.length_append]
    simp only [List.length_cons, List.length_nil]
    omega
  have h1 := hc m.cards
  have h2 := hy m.keys
  have h3 := R.len
  unfold bytesM bodyBs askBs ansBs
  split
  · simp only [List.length_append, be8_len, List.length_cons, List.length_nil]; omega
  · split
    · simp only [List.length_append, be8_len, List.length_cons, List.length_nil]; omega
    · split
      · simp only [List.length_append, List.length_cons, List.length_nil]; omega
      · simp only [List.length_append, List.length_cons, List.length_nil]; omega
end Go.Proofs.YtjibfbphiemljaaGreatDoor.Code
