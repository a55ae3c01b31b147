/- Handy: loops unrolled, operations on known values, calls from an empty heap. -/
import Derived.Test.YtfdhljghamkgjaaFwZb
import Derived.IntWalk
import Derived.Below
import Derived.ChangeSame
namespace Go.Fw
set_option linter.unusedSimpArgs false
set_option linter.unusedVariables false

theorem loop_some {f : List AVal → Heap → Option J} {xs : List AVal} {h : Heap} {r : J} : loop f xs h = some r ↔ ∃ n, iter f n xs h = some r := by
  constructor
  · intro e; exact lim_some' e
  · rintro ⟨n, e⟩; exact lim_eq (g := fun n => iter f n xs h) (fun m r hh => iter_mono _ m xs h r hh) e

/-- One round. -/
theorem loop_eq (f : List AVal → Heap → Option J) (xs : List AVal) (h : Heap) : loop f xs h = match f xs h with | some (0, xs', h') => loop f xs' h' | r => r := by
  apply Option.ext
  intro r
  constructor
  · intro e
    obtain ⟨n, hn⟩ := loop_some.1 e
    cases n with
    | zero => simp [iter] at hn
    | succ n =>
      rw [iter] at hn
      split at hn
      · rename_i xs' h' hf
        rw [hf]
        exact loop_some.2 ⟨n, hn⟩
      · rename_i hne
        split
        · rename_i xs' h' hf
          exact (hne xs' h' hf).elim
        · exact hn
  · intro e
    split at e
    · rename_i xs' h' hf
      obtain ⟨n, hn⟩ := loop_some.1 e
      refine loop_some.2 ⟨n + 1, ?_⟩
      rw [iter, hf]
      exact hn
    · rename_i hne
      refine loop_some.2 ⟨1, ?_⟩
      rw [iter]
      split
      · rename_i xs' h' hf
        exact (hne xs' h' hf).elim
      · exact e

theorem loop_more {f : List AVal → Heap → Option J} {xs xs' : List AVal} {h h' : Heap} (e : f xs h = some (0, xs', h')) : loop f xs h = loop f xs' h' := by
  rw [loop_eq]
  simp only [e]
theorem loop_done {f : List AVal → Heap → Option J} {xs : List AVal} {h : Heap} {i : Nat} {ys : List AVal} {h' : Heap} (e : f xs h = some (i + 1, ys, h')) : loop f xs h = some (i + 1, ys, h') := by
  rw [loop_eq]
  simp only [e]

theorem beq_dec (a b : Nat) : Nat.beq a b = decide (a = b) := by
  cases h : Nat.beq a b with
  | true => simp [Nat.eq_of_beq_eq_true h]
  | false =>
    have : a ≠ b := fun e => by rw [e] at h; simp at h
    simp [this]

section ops
@[simp] theorem bin_add (k : IntKind) (a b : Int) : aBin .add .plain (.int k a) (.int k b) = some (.int k (k.wrap (a + b))) := by simp [aBin, aInt]
@[simp] theorem bin_sub (k : IntKind) (a b : Int) : aBin .sub .plain (.int k a) (.int k b) = some (.int k (k.wrap (a - b))) := by simp [aBin, aInt]
@[simp] theorem bin_mul (k : IntKind) (a b : Int) : aBin .mul .plain (.int k a) (.int k b) = some (.int k (k.wrap (a * b))) := by simp [aBin, aInt]
theorem bin_quo (k : IntKind) (a b : Int) : aBin .quo .plain (.int k a) (.int k b) = if b = 0 then none else some (.int k (k.wrap (a.tdiv b))) := by simp [aBin, aInt]
theorem bin_rem (k : IntKind) (a b : Int) : aBin .rem .plain (.int k a) (.int k b) = if b = 0 then none else some (.int k (a.tmod b)) := by simp [aBin, aInt]
@[simp] theorem bin_eql (k : IntKind) (a b : Int) : aBin .eql .plain (.int k a) (.int k b) = some (.bool (a == b)) := by simp [aBin, aInt]
@[simp] theorem bin_neq (k : IntKind) (a b : Int) : aBin .neq .plain (.int k a) (.int k b) = some (.bool (a != b)) := by simp [aBin, aInt]
@[simp] theorem bin_lss (k : IntKind) (a b : Int) : aBin .lss .plain (.int k a) (.int k b) = some (.bool (decide (a < b))) := by simp [aBin, aInt]
@[simp] theorem bin_leq (k : IntKind) (a b : Int) : aBin .leq .plain (.int k a) (.int k b) = some (.bool (decide (a ≤ b))) := by simp [aBin, aInt]
@[simp] theorem bin_gtr (k : IntKind) (a b : Int) : aBin .gtr .plain (.int k a) (.int k b) = some (.bool (decide (a > b))) := by simp [aBin, aInt]
@[simp] theorem bin_geq (k : IntKind) (a b : Int) : aBin .geq .plain (.int k a) (.int k b) = some (.bool (decide (a ≥ b))) := by simp [aBin, aInt]
@[simp] theorem bin_ptr_nil (b o : Nat) : aBin .eql .ptr (.ptr b o) .nilPtr = some (.bool false) := rfl
@[simp] theorem bin_ptr_nil' (b o : Nat) : aBin .neq .ptr (.ptr b o) .nilPtr = some (.bool true) := rfl
@[simp] theorem bin_bool_eql (a b : Bool) : aBin .eql .bool (.bool a) (.bool b) = some (.bool (a == b)) := rfl
@[simp] theorem bin_bool_neq (a b : Bool) : aBin .neq .bool (.bool a) (.bool b) = some (.bool !(a == b)) := rfl
@[simp] theorem un_not (b : Bool) : aUn .not (.bool b) = some (.bool !b) := rfl
@[simp] theorem guard_bool (x want : Bool) (a b : Option J) : guardV (.bool x) want a b = bif (x == want) then a else b := rfl
@[simp] theorem cond_bool (x : Bool) (a b : Option J) : condV (.bool x) a b = bif x then a else b := rfl
@[simp] theorem pick_bool (x : Bool) (a b : AVal) : aPick (.bool x) a b = some (bif x then a else b) := rfl
@[simp] theorem nilchk_ptr (b o : Nat) : aNilchk (.ptr b o) = some (.ptr b o) := rfl
@[simp] theorem faddr_ptr (f b o : Nat) : aFaddr f (.ptr b o) = some (.ptr b (o + f)) := rfl
@[simp] theorem from_one (v : AVal) : fromCells false [v] = some v := rfl
@[simp] theorem from_agg (cs : List AVal) : fromCells true cs = some (.agg cs) := rfl
@[simp] theorem load_ptr (h : Heap) (n b o : Nat) : aLoad h n (.ptr b o) = h.rd b o n := rfl
@[simp] theorem store_ptr (h : Heap) (b o : Nat) (cs : List AVal) : aStore h (.ptr b o) cs = h.wr b o cs := rfl
@[simp] theorem conv_int (k j : IntKind) (n : Int) (h : Heap) : aConv (.toInt k) (.int j n) h = some (.int k (k.wrap n), h) := rfl
@[simp] theorem aCells_int (k : IntKind) (a : Int) : aCells 1 (.int k a) = some [.int k a] := rfl
@[simp] theorem aCells_bool (a : Bool) : aCells 1 (.bool a) = some [.bool a] := rfl
@[simp] theorem cellsQ_agg (cs : List AVal) : AVal.cells? (.agg cs) = some cs := rfl
@[simp] theorem max_two (k : IntKind) (a b : Int) : aMinMaxL true [.int k a, .int k b] = some (.int k (max a b)) := by
  simp only [aMinMaxL, aMinMax, aMax2, cond_true, if_true, Option.bind_some, Option.some.injEq, AVal.int.injEq, true_and]
  split <;> omega
@[simp] theorem min_two (k : IntKind) (a b : Int) : aMinMaxL false [.int k a, .int k b] = some (.int k (min a b)) := by
  simp only [aMinMaxL, aMinMax, aMin2, cond_false, if_true, Option.bind_some, Option.some.injEq, AVal.int.injEq, true_and]
  split <;> omega
@[simp] theorem ans_one (i : Nat) (v : AVal) (h : Heap) : ansOf (i, [v], h) = some (v, h) := rfl
theorem rd_of {h : Heap} {b : Nat} {x : Blk} (hb : h.blk b = some x) (off n : Nat) (hn : off + n ≤ x.cells.length) : h.rd b off n = some ((x.cells.drop off).take n) := by
  unfold Heap.rd
  rw [hb]
  have : Nat.ble (off + n) x.cells.length = true := Nat.ble_eq_true_of_le hn
  simp [this]
theorem wr_of {h : Heap} {b : Nat} {cs : List AVal} (hb : h.blk b = some ⟨cs, true⟩) (off : Nat) (vs : List AVal) (hn : off + vs.length ≤ cs.length) : h.wr b off vs = some (h.setBlk b (some ⟨splice cs off vs, true⟩)) := by
  unfold Heap.wr
  rw [hb]
  have : Nat.ble (off + vs.length) cs.length = true := Nat.ble_eq_true_of_le hn
  simp [this]
@[simp] theorem setBlk_same (h : Heap) (b : Nat) (x : Option Blk) : (h.setBlk b x).blk b = x := by simp [Heap.setBlk]
theorem setBlk_ne (h : Heap) {b b' : Nat} (x : Option Blk) (hb : b' ≠ b) : (h.setBlk b x).blk b' = h.blk b' := by
  have : Nat.beq b' b = false := by
    cases hh : Nat.beq b' b with
    | false => rfl
    | true => exact (hb (Nat.eq_of_beq_eq_true hh)).elim
  simp [Heap.setBlk, this]
@[simp] theorem setBlk_next (h : Heap) (b : Nat) (x : Option Blk) : (h.setBlk b x).next = h.next := rfl
@[simp] theorem alloc_same (h : Heap) (cs : List AVal) : (h.alloc cs).blk h.next = some ⟨cs, true⟩ := by simp [Heap.alloc]
theorem alloc_old (h : Heap) (cs : List AVal) {b : Nat} (hb : b ≠ h.next) : (h.alloc cs).blk b = h.blk b := by
  have : Nat.beq b h.next = false := by
    cases hh : Nat.beq b h.next with
    | false => rfl
    | true => exact (hb (Nat.eq_of_beq_eq_true hh)).elim
  simp [Heap.alloc, this]
@[simp] theorem alloc_next (h : Heap) (cs : List AVal) : (h.alloc cs).next = h.next + 1 := rfl
end ops

def emptyHeap : Heap := ⟨0, fun _ => none⟩

theorem empty_rel (w : World) : HRel (fun _ => none) emptyHeap w where
  dom := fun b L h => by cases h
  live := fun b x h => by cases h
  blk := fun b x L h => by cases h
  apart := fun b b' x x' L L' _ h => by cases h

theorem below_of_step {w w' : World} {φ φ' : Phi} {h h' : Heap} (s : Step φ h w φ' h' w') (hno : ∀ b x, h.blk b = some x → x.rw = true → False) : Go.RowKit.Below w.heap.size w w' :=
  ⟨s.os, s.tape, s.output, s.size, fun k hk => s.frame k hk fun b x L hb hrw _ => (hno b x hb hrw).elim⟩

section
open Go.RowKit Go.WideShapes Go.ChangeShapes
variable {H : Type} {enc : TypeId × Value → H} {P : Program}
/-- The row's last step, where of the world behind the call no more is known than that what was there has not changed. -/
theorem post_below {f : Func} {s : ChangeSpec} {apart fresh handsOn again : Bool} {W W' : World} {args : Array Value} {v : Value} {ds gs : List (DataW H)} {before pa pv : List MemPlace}
    (hW : DataW.Whole enc P f.params.toList s.vars apart W args.toList ds gs before)
    (hres : ∀ (b : Nat) (sp : Nat → Bool) (hd : Bool), DataW.TrodAll enc P W' b sp hd f.resultTypes.toList (v.resultList f.resultTypes.size) (s.fn H (ds ++ gs)).results [])
    (hargs : ∀ sp : Nat → Bool, (∀ p ∈ before, sp p.block = true) → DataW.TrodAll enc P W' 0 sp true f.params.toList args.toList (s.fn H (ds ++ gs)).args pa)
    (hvars : ∀ sp : Nat → Bool, (∀ p ∈ before, sp p.block = true) → DataW.TrodVars enc P W' sp s.vars (s.fn H (ds ++ gs)).vars pv)
    (hps : before = pa ++ pv) (hb : Below W.heap.size W W')
    (hok : ∀ (j : Nat) (t : TypeId) (r : Value), f.resultTypes[j]? = some t → (v.resultList f.resultTypes.size)[j]? = some r → Value.okWide P W' .any 0 t r) :
    s.post enc P f apart fresh handsOn again W args v W' := by
  have hlt : ∀ p ∈ before, p.block < W.heap.size := fun p hp => hW.lt p hp
  have hold : ∀ p ∈ before, (fun b => decide (b < W.heap.size)) p.block = true := fun p hp => by simpa using hlt p hp
  refine ⟨ds, gs, before, [], pa, pv, hW, hres _ _ _, hargs _ hold, hvars _ hold, World.keptBut_mono (fun p hp => ⟨hp, ?_⟩) (hb.frame (· ∈ before)), fun _ => ?_⟩
  · rw [hps, List.mem_append] at hp
    exact Or.inr hp
  · obtain ⟨_, _, _, _, _, hz, hn⟩ := hW
    refine ⟨hok, _, _, ([] ++ pa) ++ pv, ⟨[] ++ pa, pv, trodAll_append (hargs _ (fun _ _ => rfl)) (hres _ _ _), hvars _ (fun _ _ => rfl), rfl, ?_, ?_⟩, ?_⟩
    · intro b off hp
      have hin : MemPlace.cell b off ∈ before := by rw [hps]; simpa using hp
      rw [hb.frozen (hlt _ hin)]
      exact hz b off hin
    · intro ha
      have := hn ha
      rw [hps] at this
      simpa using this
    · intro p hp _
      rw [hps]
      simpa using hp
end

/-- From the abstract answer to the call, where no memory comes in. -/
theorem call_of {P : Program} {call : Call} (hc : CallOk P call) {f : Nat} {args : List AVal} {vs : Array Value} (hargs : VRels (fun _ => none) args vs.toList) {v : AVal} {u : Value} {h' : Heap} (hr : call f args emptyHeap = some (v, h'))
    (hv : ∀ φ x, VRel φ v x → x = u) (w : World) : Calls P f vs w fun e w' => e = .returned u ∧ Go.RowKit.Below w.heap.size w w' := by
  obtain ⟨_, h2⟩ := hc f args emptyHeap v h' hr (fun _ => none) w vs (empty_rel w) hargs
  refine h2.mono ?_
  rintro e w' ⟨φ', x, rfl, hx, _, S⟩
  exact ⟨by rw [hv φ' x hx], below_of_step S fun b x hb => by cases hb⟩

end Go.Fw
