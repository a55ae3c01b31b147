/- runs -/
import Derived.Test.YtinkiihdnepfjaaGreatDoorKX
import Derived.Test.YtinkiihdnepfjaaGreatDoorLp
set_option linter.unusedSimpArgs false
set_option linter.unusedVariables false
namespace Go.Fw.K
open Go.Fw
variable {j : Nat}
theorem body_rel {call : TCall} {callE : Call} (hc : CR j call callE) {c : ACode} (hp : pCode c = true) (live : Live) (alts : List (AExit × Live)) (xs : List AVal) (t : TH) (h : Heap) (S : Sub j t h) :
    JR j (un (live.vals.length + live.locs.length) (fun ys => kC call c (kMk live ys) t (kloopK live alts)) xs) (runC callE c (Env.mk' live (repL j xs)) h (loopK live alts)) := by
  refine JR_un (code_rel hc c hp (ER.mkE live xs) S fun x s' e' t' h' E' S' => ?_)
  cases x with
  | normal =>
    unfold kloopK loopK
    simp only
    cases hq : s'.out live with
    | none => exact JR.no _
    | some q => rw [E'.out hq]; exact JR.out S' _ _
  | exit i => exact leave_rel alts 1 _ _ _ _ _ E' S'
  | ret => exact leave_rel alts 1 _ _ _ _ _ E' S'
def loopsOf : ACode → List (Live × List (AExit × Live) × ACode)
  | .seq a b => loopsOf a ++ loopsOf b
  | .cond _ a b => loopsOf a ++ loopsOf b
  | .block _ c => loopsOf c
  | .join _ c => loopsOf c
  | .loop live alts c => (live, alts, c) :: loopsOf c
  | _ => []
noncomputable def rounds (f : List AVal → TH → KJ) (n : Nat) : List AVal → TH → KJ :=
  Nat.rec (motive := fun _ => List AVal → TH → KJ) (fun xs t => .out 0 xs t) (fun _ ih xs t => Jn (f xs t) fun i ys t' => ifB (Nat.beq i 0) (ih ys t') .no) n
noncomputable def isJ (r : KJ) (xs : List AVal) (next : Nat) (l : List (Nat × List AVal)) : Bool := KJ.rec false (fun _ ys t => ifB (AVal.beqL ys xs) (atLeast t next l) false) r
theorem rounds_rel {f : List AVal → TH → KJ} {fE : List AVal → Heap → Option J} (hf : ∀ xs t h, Sub j t h → JR j (f xs t) (fE (repL j xs) h)) {xs' : List AVal} {next : Nat} {l : List (Nat × List AVal)} :
    ∀ (n : Nat) (xs : List AVal) (t : TH) (h : Heap), Sub j t h → isJ (rounds f n xs t) xs' next l = true → ∃ h', loop fE (repL j xs) h = loop fE (repL j xs') h' ∧ Sub j (ofL next l) h'
  | 0, xs, t, h, S, e => by
    have e' : ifB (AVal.beqL xs xs') (atLeast t next l) false = true := e
    cases hb : AVal.beqL xs xs' with
    | false => rw [hb] at e'; cases e'
    | true => rw [hb] at e'; rw [beqL_eq _ _ hb]; exact ⟨h, rfl, S.less e'⟩
  | n + 1, xs, t, h, S, e => by
    have e' : isJ (Jn (f xs t) fun i ys t' => ifB (Nat.beq i 0) (rounds f n ys t') .no) xs' next l = true := e
    cases hx : f xs t with
    | no => rw [hx] at e'; cases e'
    | out i ys t' =>
      rw [hx] at e'
      have e2 : isJ (ifB (Nat.beq i 0) (rounds f n ys t') .no) xs' next l = true := e'
      cases i with
      | succ i => cases e2
      | zero =>
        obtain ⟨h1, eh, S1⟩ := hf xs t h S 0 ys t' hx
        rw [loop_more eh]
        exact rounds_rel hf n ys t' h1 S1 e2
end Go.Fw.K
