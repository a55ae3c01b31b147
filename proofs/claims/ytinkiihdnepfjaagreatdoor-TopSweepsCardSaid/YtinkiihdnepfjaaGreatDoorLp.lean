/- runs -/
import Derived.Test.YtinkiihdnepfjaaGreatDoorFwZc
set_option linter.unusedSimpArgs false
set_option linter.unusedVariables false
namespace Go.Fw
theorem loop_eq (f : List AVal → Heap → Option J) (xs : List AVal) (h : Heap) : loop f xs h = match f xs h with | some (0, xs', h') => loop f xs' h' | r => r := by
  apply Option.ext
  intro r
  constructor
  · intro e
    obtain ⟨n, hn⟩ := loop_some.1 e
    cases n with
    | zero => simp [iter] at hn
    | succ n =>
      rw [iter] at hn
      split at hn
      · rename_i xs' h' hf
        rw [hf]
        exact loop_some.2 ⟨n, hn⟩
      · rename_i hne
        split
        · rename_i xs' h' hf
          exact (hne xs' h' hf).elim
        · exact hn
  · intro e
    split at e
    · rename_i xs' h' hf
      obtain ⟨n, hn⟩ := loop_some.1 e
      refine loop_some.2 ⟨n + 1, ?_⟩
      rw [iter, hf]
      exact hn
    · rename_i hne
      refine loop_some.2 ⟨1, ?_⟩
      rw [iter]
      split
      · rename_i xs' h' hf
        exact (hne xs' h' hf).elim
      · exact e
theorem loop_more {f : List AVal → Heap → Option J} {xs xs' : List AVal} {h h' : Heap} (e : f xs h = some (0, xs', h')) : loop f xs h = loop f xs' h' := by
  rw [loop_eq]
  simp only [e]
theorem loop_done {f : List AVal → Heap → Option J} {xs : List AVal} {h : Heap} {i : Nat} {ys : List AVal} {h' : Heap} (e : f xs h = some (i + 1, ys, h')) : loop f xs h = some (i + 1, ys, h') := by
  rw [loop_eq]
  simp only [e]
end Go.Fw
