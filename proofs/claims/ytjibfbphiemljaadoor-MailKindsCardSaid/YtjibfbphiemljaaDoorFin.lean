/- Slices of numbers as arguments, over pinned blocks. -/
import Derived.Test.YtjibfbphiemljaaDoorLaws
namespace Go.Fw
set_option linter.unusedSimpArgs false
set_option linter.unusedVariables false
theorem IntsArg.hereP {k : IntKind} {w : World} {v : Value} {bs : List (Loc × List AVal)} {mk : Nat → AVal} {l : List Int} (A : IntsArg k w v bs mk l) (n : Nat) (g : List AVal) {B pre post : List (Loc × List AVal)} (hB : B = pre ++ (bs ++ post)) :
    VRel (pinPhi n B) (mk (pre.length + 2)) v ∧ Ints k (mk (pre.length + 2)) (pinHeap g B) l ∧ (∀ b, slBlk (mk (pre.length + 2)) = some b → b < (pinHeap g B).next) ∧ ∀ p ∈ bs, RoOk (pinPhi n B) w p := by
  have hi : ∀ j : Nat, pre.length + 2 + j = (pre.length + j) + 2 := fun j => by omega
  refine ⟨A.rel _ _ fun j p hp => ?_, A.ints _ _ fun j p hp => ?_, fun b hb => ?_, A.ro _⟩
  · rw [hi]
    simp only [pinPhi, ro_at hB hp, Option.map_some]
  · rw [hi]
    simp only [pinHeap, ro_at hB hp, Option.map_some]
  · have h1 := A.lt _ _ hb
    have h2 : B.length = pre.length + (bs.length + post.length) := by rw [hB]; simp
    show b < B.length + 2
    omega
end Go.Fw
