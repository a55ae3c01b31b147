/- Insert -/
import Derived.Test.YtinkiihdnepfjaaGreatDoorDKX
import Derived.Test.YtinkiihdnepfjaaGreatDoorDOv
set_option linter.unusedSimpArgs false
set_option linter.unusedVariables false
namespace Go.Fw.K
open Go.Fw
noncomputable def leafK (v : AVal) : Bool := onLn v (leafB v) fun _ => true
theorem leafK_rep {j : Nat} {v : AVal} (h : leafK v = true) : leafB (rep j v) = true := by
  cases v with
  | func g c =>
    have h' : ifB (Nat.beq g VF) true (leafB (.func g c)) = true := h
    cases hg : Nat.beq g VF with
    | true =>
      rw [rep_lanes hg]
      rcases laneOf_leaf (j := j) c with ⟨k, n, e⟩ | ⟨s, e⟩ | ⟨b, e⟩ <;> rw [e] <;> rfl
    | false => rw [hg] at h'; cases h'
  | int k n => simp [leafB]
  | str s => simp [leafB]
  | bool b => simp [leafB]
  | _ => cases h
noncomputable def FInsNil (i : AVal) (bv ov : Nat) (t : TH) : KR :=
  onInt i .no fun _ n => Int.rec (fun a => ifB (Nat.beq a 0) (VR (t.rd bv ov 10) fun vc => .yes (.slice t.next 0 1 1 10 false) (t.alloc vc)) .no) (fun _ => .no) n
noncomputable def FInsAt (b off n bv ov i : Nat) (t : TH) : KR :=
  VR (t.m.get b) fun x => VR (t.m.get bv) fun y => ifB x.rw (ifB y.rw (ifB (Nat.beq b bv) .no (ifB (Nat.ble i n) (ifB (Nat.ble n 1000000)
    (VR (t.rd b off (Nat.mul n 10)) fun old => VR (t.rd bv ov 10) fun vc => ifB (allB leafK (old ++ vc)) (.yes (.slice t.next 0 (Nat.add n 1) (Nat.add n 1) 10 false) ((t.alloc (old.take (i * 10) ++ vc ++ old.drop (i * 10))).setBlk b none)) .no) .no) .no)) .no) .no
noncomputable def FIns : TFn := fun _ args t =>
  match args with
  | [.nilSlice, .int .i64 (.ofNat i), .slice bv ov 1 _ 10 _] => ifB (Nat.beq i 0) (VR (t.rd bv ov 10) fun vc => .yes (.slice t.next 0 1 1 10 false) (t.alloc vc)) .no
  | [.slice b off n _ 10 _, .int .i64 (.ofNat i), .slice bv ov 1 _ 10 _] => FInsAt b off n bv ov i t
  | _ => .no
theorem is_Ins : Is FIns (.prim Ins.sem) := by
  intro j call callE hc args t h S v t' e
  unfold FIns at e
  split at e
  · rename_i i bv ov cv ev
    obtain ⟨h1, e⟩ := ifB_yes e
    obtain ⟨vc, hv, e⟩ := VR_yes e
    cases e
    have := Nat.eq_of_beq_eq_true h1
    subst this
    refine ⟨_, ?_, S.alloc vc⟩
    simp only [repL_cons, repL_nil, rep_nilSlice, rep_int, rep_slice, runFn, Ins.sem]
    rw [if_pos (show Int.ofNat 0 = 0 from rfl), S.rd hv, S.next]
    rfl
  · rename_i b off n cap ex i bv ov cv ev
    unfold FInsAt at e
    obtain ⟨x, hx, e⟩ := VR_yes e
    obtain ⟨y, hy, e⟩ := VR_yes e
    obtain ⟨hxr, e⟩ := ifB_yes e
    obtain ⟨hyr, e⟩ := ifB_yes e
    cases hbb : Nat.beq b bv with
    | true => rw [hbb] at e; cases e
    | false =>
      rw [hbb, ifB_f] at e
      obtain ⟨h2, e⟩ := ifB_yes e
      obtain ⟨h3, e⟩ := ifB_yes e
      obtain ⟨old, ho, e⟩ := VR_yes e
      obtain ⟨vc, hv, e⟩ := VR_yes e
      obtain ⟨h4, e⟩ := ifB_yes e
      cases e
      have hb := S.blk b x hx
      have hbv := S.blk bv y hy
      rw [hxr] at hb
      rw [hyr] at hbv
      have S1 := (S.alloc (old.take (i * 10) ++ vc ++ old.drop (i * 10))).set b none
      rw [repL_append, repL_append, repL_take, repL_drop] at S1
      refine ⟨_, ?_, S1⟩
      have hleaf : (repL j old ++ repL j vc).all leafB = true := by
        rw [← repL_append, List.all_eq_true]
        intro u hu
        rw [repL_map] at hu
        obtain ⟨a, ha, rfl⟩ := List.mem_map.1 hu
        exact leafK_rep (allB_mem h4 a ha)
      have e1 := S.rd ho
      have e2 := S.rd hv
      simp only [repL_cons, repL_nil, rep_int, rep_slice, runFn, Ins.sem, hb, hbv]
      rw [if_pos ⟨Nat.ne_of_beq_eq_false hbb, by simp, by have := Nat.le_of_ble_eq_true h2; simp only [Int.ofNat_eq_natCast]; omega, Nat.le_of_ble_eq_true h3⟩]
      rw [show n * 10 = Nat.mul n 10 from rfl, e1, e2]
      simp only [Option.bind_some]
      rw [if_pos hleaf, S.next]
      simp only [Int.ofNat_eq_natCast, Int.toNat_natCast]
      rfl
  · cases e
end Go.Fw.K
