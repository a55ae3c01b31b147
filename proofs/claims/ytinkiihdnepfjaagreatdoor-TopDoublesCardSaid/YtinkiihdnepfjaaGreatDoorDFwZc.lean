/- framework -/
import Derived.Test.YtinkiihdnepfjaaGreatDoorDFwU
import Derived.IntWalk
import Derived.Below
import Derived.ChangeSame
import Derived.Carry
import Derived.OpenShut
import Derived.SizedLaws
import Derived.SliceStrings
set_option linter.unusedSimpArgs false
set_option linter.unusedVariables false
namespace Go.Fw
theorem loop_some {f : List AVal → Heap → Option J} {xs : List AVal} {h : Heap} {r : J} : loop f xs h = some r ↔ ∃ n, iter f n xs h = some r := by
  constructor
  · intro e; exact lim_some' e
  · rintro ⟨n, e⟩; exact lim_eq (g := fun n => iter f n xs h) (fun m r hh => iter_mono _ m xs h r hh) e
theorem loop_eq (f : List AVal → Heap → Option J) (xs : List AVal) (h : Heap) : loop f xs h = match f xs h with | some (0, xs', h') => loop f xs' h' | r => r := by
  apply Option.ext
  intro r
  constructor
  · intro e
    obtain ⟨n, hn⟩ := loop_some.1 e
    cases n with
    | zero => simp [iter] at hn
    | succ n =>
      rw [iter] at hn
      split at hn
      · rename_i xs' h' hf
        rw [hf]
        exact loop_some.2 ⟨n, hn⟩
      · rename_i hne
        split
        · rename_i xs' h' hf
          exact (hne xs' h' hf).elim
        · exact hn
  · intro e
    split at e
    · rename_i xs' h' hf
      obtain ⟨n, hn⟩ := loop_some.1 e
      refine loop_some.2 ⟨n + 1, ?_⟩
      rw [iter, hf]
      exact hn
    · rename_i hne
      refine loop_some.2 ⟨1, ?_⟩
      rw [iter]
      split
      · rename_i xs' h' hf
        exact (hne xs' h' hf).elim
      · exact e
theorem loop_more {f : List AVal → Heap → Option J} {xs xs' : List AVal} {h h' : Heap} (e : f xs h = some (0, xs', h')) : loop f xs h = loop f xs' h' := by
  rw [loop_eq]
  simp only [e]
theorem loop_done {f : List AVal → Heap → Option J} {xs : List AVal} {h : Heap} {i : Nat} {ys : List AVal} {h' : Heap} (e : f xs h = some (i + 1, ys, h')) : loop f xs h = some (i + 1, ys, h') := by
  rw [loop_eq]
  simp only [e]
theorem beq_dec (a b : Nat) : Nat.beq a b = decide (a = b) := by
  cases h : Nat.beq a b with
  | true => simp [Nat.eq_of_beq_eq_true h]
  | false =>
    have : a ≠ b := fun e => by rw [e] at h; simp at h
    simp [this]
section ops
@[simp] theorem bin_add (k : IntKind) (a b : Int) : aBin .add .plain (.int k a) (.int k b) = some (.int k (k.wrap (a + b))) := by simp [aBin, aInt]
@[simp] theorem bin_sub (k : IntKind) (a b : Int) : aBin .sub .plain (.int k a) (.int k b) = some (.int k (k.wrap (a - b))) := by simp [aBin, aInt]
@[simp] theorem bin_mul (k : IntKind) (a b : Int) : aBin .mul .plain (.int k a) (.int k b) = some (.int k (k.wrap (a * b))) := by simp [aBin, aInt]
theorem bin_quo (k : IntKind) (a b : Int) : aBin .quo .plain (.int k a) (.int k b) = if b = 0 then none else some (.int k (k.wrap (a.tdiv b))) := by simp [aBin, aInt]
theorem bin_rem (k : IntKind) (a b : Int) : aBin .rem .plain (.int k a) (.int k b) = if b = 0 then none else some (.int k (a.tmod b)) := by simp [aBin, aInt]
@[simp] theorem bin_eql (k : IntKind) (a b : Int) : aBin .eql .plain (.int k a) (.int k b) = some (.bool (a == b)) := by simp [aBin, aInt]
@[simp] theorem bin_neq (k : IntKind) (a b : Int) : aBin .neq .plain (.int k a) (.int k b) = some (.bool (a != b)) := by simp [aBin, aInt]
@[simp] theorem bin_lss (k : IntKind) (a b : Int) : aBin .lss .plain (.int k a) (.int k b) = some (.bool (decide (a < b))) := by simp [aBin, aInt]
@[simp] theorem bin_leq (k : IntKind) (a b : Int) : aBin .leq .plain (.int k a) (.int k b) = some (.bool (decide (a ≤ b))) := by simp [aBin, aInt]
@[simp] theorem bin_gtr (k : IntKind) (a b : Int) : aBin .gtr .plain (.int k a) (.int k b) = some (.bool (decide (a > b))) := by simp [aBin, aInt]
@[simp] theorem bin_geq (k : IntKind) (a b : Int) : aBin .geq .plain (.int k a) (.int k b) = some (.bool (decide (a ≥ b))) := by simp [aBin, aInt]
@[simp] theorem bin_ptr_nil (b o : Nat) : aBin .eql .ptr (.ptr b o) .nilPtr = some (.bool false) := rfl
@[simp] theorem bin_ptr_nil' (b o : Nat) : aBin .neq .ptr (.ptr b o) .nilPtr = some (.bool true) := rfl
@[simp] theorem bin_bool_eql (a b : Bool) : aBin .eql .bool (.bool a) (.bool b) = some (.bool (a == b)) := rfl
@[simp] theorem bin_bool_neq (a b : Bool) : aBin .neq .bool (.bool a) (.bool b) = some (.bool !(a == b)) := rfl
@[simp] theorem un_not (b : Bool) : aUn .not (.bool b) = some (.bool !b) := rfl
@[simp] theorem guard_bool (x want : Bool) (a b : Option J) : guardV (.bool x) want a b = bif (x == want) then a else b := rfl
@[simp] theorem cond_bool (x : Bool) (a b : Option J) : condV (.bool x) a b = bif x then a else b := rfl
@[simp] theorem pick_bool (x : Bool) (a b : AVal) : aPick (.bool x) a b = some (bif x then a else b) := rfl
@[simp] theorem nilchk_ptr (b o : Nat) : aNilchk (.ptr b o) = some (.ptr b o) := rfl
@[simp] theorem faddr_ptr (f b o : Nat) : aFaddr f (.ptr b o) = some (.ptr b (o + f)) := rfl
@[simp] theorem from_one (v : AVal) : fromCells false [v] = some v := rfl
@[simp] theorem from_agg (cs : List AVal) : fromCells true cs = some (.agg cs) := rfl
@[simp] theorem load_ptr (h : Heap) (n b o : Nat) : aLoad h n (.ptr b o) = h.rd b o n := rfl
@[simp] theorem store_ptr (h : Heap) (b o : Nat) (cs : List AVal) : aStore h (.ptr b o) cs = h.wr b o cs := rfl
@[simp] theorem conv_int (k j : IntKind) (n : Int) (h : Heap) : aConv (.toInt k) (.int j n) h = some (.int k (k.wrap n), h) := rfl
@[simp] theorem aCells_int (k : IntKind) (a : Int) : aCells 1 (.int k a) = some [.int k a] := rfl
@[simp] theorem aCells_bool (a : Bool) : aCells 1 (.bool a) = some [.bool a] := rfl
@[simp] theorem cellsQ_agg (cs : List AVal) : AVal.cells? (.agg cs) = some cs := rfl
@[simp] theorem max_two (k : IntKind) (a b : Int) : aMinMaxL true [.int k a, .int k b] = some (.int k (max a b)) := by
  simp only [aMinMaxL, aMinMax, aMax2, cond_true, if_true, Option.bind_some, Option.some.injEq, AVal.int.injEq, true_and]
  split <;> omega
@[simp] theorem min_two (k : IntKind) (a b : Int) : aMinMaxL false [.int k a, .int k b] = some (.int k (min a b)) := by
  simp only [aMinMaxL, aMinMax, aMin2, cond_false, if_true, Option.bind_some, Option.some.injEq, AVal.int.injEq, true_and]
  split <;> omega
@[simp] theorem ans_one (i : Nat) (v : AVal) (h : Heap) : ansOf (i, [v], h) = some (v, h) := rfl
theorem rd_of {h : Heap} {b : Nat} {x : Blk} (hb : h.blk b = some x) (off n : Nat) (hn : off + n ≤ x.cells.length) : h.rd b off n = some ((x.cells.drop off).take n) := by
  unfold Heap.rd
  rw [hb]
  have : Nat.ble (off + n) x.cells.length = true := Nat.ble_eq_true_of_le hn
  simp [this]
theorem wr_of {h : Heap} {b : Nat} {cs : List AVal} (hb : h.blk b = some ⟨cs, true⟩) (off : Nat) (vs : List AVal) (hn : off + vs.length ≤ cs.length) : h.wr b off vs = some (h.setBlk b (some ⟨splice cs off vs, true⟩)) := by
  unfold Heap.wr
  rw [hb]
  have : Nat.ble (off + vs.length) cs.length = true := Nat.ble_eq_true_of_le hn
  simp [this]
@[simp] theorem setBlk_same (h : Heap) (b : Nat) (x : Option Blk) : (h.setBlk b x).blk b = x := by simp [Heap.setBlk]
theorem setBlk_ne (h : Heap) {b b' : Nat} (x : Option Blk) (hb : b' ≠ b) : (h.setBlk b x).blk b' = h.blk b' := by
  have : Nat.beq b' b = false := by
    cases hh : Nat.beq b' b with
    | false => rfl
    | true => exact (hb (Nat.eq_of_beq_eq_true hh)).elim
  simp [Heap.setBlk, this]
@[simp] theorem setBlk_next (h : Heap) (b : Nat) (x : Option Blk) : (h.setBlk b x).next = h.next := rfl
@[simp] theorem alloc_same (h : Heap) (cs : List AVal) : (h.alloc cs).blk h.next = some ⟨cs, true⟩ := by simp [Heap.alloc]
theorem alloc_old (h : Heap) (cs : List AVal) {b : Nat} (hb : b ≠ h.next) : (h.alloc cs).blk b = h.blk b := by
  have : Nat.beq b h.next = false := by
    cases hh : Nat.beq b h.next with
    | false => rfl
    | true => exact (hb (Nat.eq_of_beq_eq_true hh)).elim
  simp [Heap.alloc, this]
@[simp] theorem alloc_next (h : Heap) (cs : List AVal) : (h.alloc cs).next = h.next + 1 := rfl
end ops
def emptyHeap : Heap := ⟨0, fun _ => none⟩
theorem empty_rel (hp : pinsN = 0) (w : World) : HRel (fun _ => none) emptyHeap w where
  dom := fun b L h => by cases h
  live := fun b x h => by cases h
  blk := fun b x L h => by cases h
  apart := fun b b' x x' L L' _ h => by cases h
  pin := fun b hb => by rw [hp] at hb; cases hb
theorem below_of_step {w w' : World} {φ φ' : Phi} {h h' : Heap} (s : Step φ h w φ' h' w') (hno : ∀ b x, h.blk b = some x → x.rw = true → False) : Go.RowKit.Below w.heap.size w w' :=
  ⟨s.os, s.tape, s.output, s.size, fun k hk => s.frame k hk fun b x L hb hrw _ => (hno b x hb hrw).elim⟩
section
open Go.RowKit Go.WideShapes Go.ChangeShapes
variable {H : Type} {enc : TypeId × Value → H} {P : Program}
theorem post_below {f : Func} {s : ChangeSpec} {apart fresh handsOn again : Bool} {W W' : World} {args : Array Value} {v : Value} {ds gs : List (DataW H)} {before pa pv : List MemPlace}
    (hW : DataW.Whole enc P f.params.toList s.vars apart W args.toList ds gs before)
    (hres : ∀ (b : Nat) (sp : Nat → Bool) (hd : Bool), DataW.TrodAll enc P W' b sp hd f.resultTypes.toList (v.resultList f.resultTypes.size) (s.fn H (ds ++ gs)).results [])
    (hargs : ∀ sp : Nat → Bool, (∀ p ∈ before, sp p.block = true) → DataW.TrodAll enc P W' 0 sp true f.params.toList args.toList (s.fn H (ds ++ gs)).args pa)
    (hvars : ∀ sp : Nat → Bool, (∀ p ∈ before, sp p.block = true) → DataW.TrodVars enc P W' sp s.vars (s.fn H (ds ++ gs)).vars pv)
    (hps : before = pa ++ pv) (hb : Below W.heap.size W W')
    (hok : ∀ (j : Nat) (t : TypeId) (r : Value), f.resultTypes[j]? = some t → (v.resultList f.resultTypes.size)[j]? = some r → Value.okWide P W' .any 0 t r) :
    s.post enc P f apart fresh handsOn again W args v W' := by
  have hlt : ∀ p ∈ before, p.block < W.heap.size := fun p hp => hW.lt p hp
  have hold : ∀ p ∈ before, (fun b => decide (b < W.heap.size)) p.block = true := fun p hp => by simpa using hlt p hp
  refine ⟨ds, gs, before, [], pa, pv, hW, hres _ _ _, hargs _ hold, hvars _ hold, World.keptBut_mono (fun p hp => ⟨hp, ?_⟩) (hb.frame (· ∈ before)), fun _ => ?_⟩
  · rw [hps, List.mem_append] at hp
    exact Or.inr hp
  · obtain ⟨_, _, _, _, _, hz, hn⟩ := hW
    refine ⟨hok, _, _, ([] ++ pa) ++ pv, ⟨[] ++ pa, pv, trodAll_append (hargs _ (fun _ _ => rfl)) (hres _ _ _), hvars _ (fun _ _ => rfl), rfl, ?_, ?_⟩, ?_⟩
    · intro b off hp
      have hin : MemPlace.cell b off ∈ before := by rw [hps]; simpa using hp
      rw [hb.frozen (hlt _ hin)]
      exact hz b off hin
    · intro ha
      have := hn ha
      rw [hps] at this
      simpa using this
    · intro p hp _
      rw [hps]
      simpa using hp
end
theorem call_of (hp : pinsN = 0) {P : Program} {call : Call} (hc : CallOk P call) {f : Nat} (hbody : hasBody P f = true) {args : List AVal} {vs : Array Value} (hargs : VRels (fun _ => none) args vs.toList) {v : AVal} {u : Value} {h' : Heap} (hr : call f args emptyHeap = some (v, h'))
    (hv : ∀ φ x, VRel φ v x → x = u) (w : World) : Calls P f vs w fun e w' => e = .returned u ∧ Go.RowKit.Below w.heap.size w w' := by
  refine (hc.enter hbody hr (empty_rel hp w) hargs).mono ?_
  rintro e w' ⟨φ', x, rfl, hx, _, S⟩
  exact ⟨by rw [hv φ' x hx], below_of_step S fun b x hb => by cases hb⟩
def Ints (k : IntKind) (s : AVal) (h : Heap) (l : List Int) : Prop :=
  (s = .nilSlice ∧ l = []) ∨ ∃ b off cap ex, s = .slice b off l.length cap 1 ex ∧ h.rd b off l.length = some (l.map (.int k))
def slBlk : AVal → Option Nat
  | .slice b .. => some b
  | _ => none
theorem Ints.len {k : IntKind} {s : AVal} {h : Heap} {l : List Int} (H : Ints k s h l) : aLen false s = some (.int .i64 l.length) := by
  rcases H with ⟨rfl, rfl⟩ | ⟨b, off, cap, ex, rfl, _⟩ <;> rfl
theorem rd_inv {h : Heap} {b off n : Nat} {cs : List AVal} (e : h.rd b off n = some cs) : ∃ x, h.blk b = some x ∧ off + n ≤ x.cells.length ∧ cs = (x.cells.drop off).take n := by
  unfold Heap.rd at e
  split at e
  · rename_i x hx
    cases hb : Nat.ble (off + n) x.cells.length with
    | false => rw [hb] at e; cases e
    | true =>
      rw [hb] at e
      cases e
      exact ⟨x, hx, Nat.le_of_ble_eq_true hb, rfl⟩
  · cases e
theorem rd_at {h : Heap} {b off n : Nat} {cs : List AVal} (e : h.rd b off n = some cs) (i : Nat) (hi : i < n) : h.rd b (off + i) 1 = some [cs.getD i .undef] := by
  obtain ⟨x, hx, hl, rfl⟩ := rd_inv e
  rw [rd_of hx _ _ (by omega)]
  simp only [Option.some.injEq]
  have h1 : off + i < x.cells.length := by omega
  rw [List.drop_eq_getElem_cons h1]
  simp only [List.take_succ_cons, List.take_zero, List.cons.injEq, and_true]
  rw [List.getD_eq_getElem?_getD, List.getElem?_take, if_pos hi, List.getElem?_drop, List.getElem?_eq_getElem h1]
  rfl
theorem Ints.at {k : IntKind} {s : AVal} {h : Heap} {l : List Int} (H : Ints k s h l) (i : Nat) (hi : i < l.length) : ∃ p, aIaddr 1 s (.int .i64 i) = some p ∧ aLoad h 1 p = some [.int k (l.getD i 0)] := by
  rcases H with ⟨rfl, rfl⟩ | ⟨b, off, cap, ex, rfl, hr⟩
  · simp at hi
  · refine ⟨.ptr b (off + i), ?_, ?_⟩
    · have h1 : ((i : Int) < (l.length : Int)) := by omega
      simp [aIaddr, aIdx, h1]
    · rw [load_ptr, rd_at hr i hi]
      simp [List.getD_eq_getElem?_getD, List.getElem?_map, List.getElem?_eq_getElem hi]
theorem Ints.mono {k : IntKind} {s : AVal} {h h' : Heap} {l : List Int} (H : Ints k s h l) (hb : ∀ b, slBlk s = some b → h'.blk b = h.blk b) : Ints k s h' l := by
  rcases H with ⟨rfl, rfl⟩ | ⟨b, off, cap, ex, rfl, hr⟩
  · exact .inl ⟨rfl, rfl⟩
  · refine .inr ⟨b, off, cap, ex, rfl, ?_⟩
    unfold Heap.rd at hr ⊢
    rw [hb b rfl]
    exact hr
open Go.RowKit Go.WideShapes Go.ChangeShapes
section
variable {H : Type} {enc : TypeId × Value → H} {P : Program}
theorem trodAll_keeps (hl : laidOutB P = true) {W W' : World} (hb : Below W.heap.size W W') : ∀ (ts : List TypeId) (vs : List Value) (ds : List (DataW H)) (ps : List MemPlace), (∀ t ∈ ts, P.readableRec t = true ∧ t < P.types.size) →
    DataW.TrodAll enc P W 0 (fun _ => true) true ts vs ds ps → (∀ x ∈ ps, x.block < W.heap.size) → ∀ sp : Nat → Bool, (∀ x ∈ ps, sp x.block = true) → DataW.TrodAll enc P W' 0 sp true ts vs ds ps
  | [], [], [], ps, _, h, _, _, _ => h
  | [], [], _ :: _, _, _, h, _, _, _ => h.elim
  | [], _ :: _, _, _, _, h, _, _, _ => h.elim
  | _ :: _, [], _, _, _, h, _, _, _ => h.elim
  | _ :: _, _ :: _, [], _, _, h, _, _, _ => h.elim
  | t :: ts, v :: vs, d :: ds, ps, hr, h, hlt, sp, hsp => by
    obtain ⟨p, q, h1, h2, rfl⟩ := h
    refine ⟨p, q, ?_, trodAll_keeps hl hb ts vs ds q (fun t ht => hr t (List.mem_cons_of_mem _ ht)) h2 (fun x hx => hlt x (List.mem_append_right _ hx)) sp (fun x hx => hsp x (List.mem_append_right _ hx)), rfl⟩
    exact WideElems.Trod_stays hl (hr t List.mem_cons_self).1 (hr t List.mem_cons_self).2 h1 (fun x hx => hb.same (hlt x (List.mem_append_left _ hx))) (fun x hx => hsp x (List.mem_append_left _ hx))
theorem law_post (hl : laidOutB P = true) {f : Func} {s : ChangeSpec} {apart fresh handsOn again : Bool} {W W' : World} {args : Array Value} {ds gs : List (DataW H)} {before : List MemPlace} {tb : TypeId}
    (hr : ∀ t ∈ f.params.toList, P.readableRec t = true ∧ t < P.types.size) (hres : f.resultTypes = #[tb]) (htb : P.underlying tb = some .bool) (hvars : s.vars = [])
    (hfn : s.fn H ds = { results := [.lit (.bool true)], args := ds })
    (hW : DataW.Whole enc P f.params.toList s.vars apart W args.toList ds gs before) (hb : Below W.heap.size W W') :
    s.post enc P f apart fresh handsOn again W args (.bool true) W' := by
  have hW0 := hW
  obtain ⟨p, q, hA, hV, rfl, hfz, hnd⟩ := hW
  rw [hvars] at hV
  obtain ⟨rfl, rfl⟩ := trodVars_none hV
  have hlt : ∀ x ∈ p, x.block < W.heap.size := fun x hx => hW0.lt x (by simpa using hx)
  refine post_below (pa := p) (pv := []) hW0 (fun b sp hd => ?_) (fun sp hsp => ?_) (fun sp hsp => ?_) rfl hb ?_
  · rw [List.append_nil, hfn, hres]
    exact trodAll_cons_mk (shut_bool htb _) trodAll_mk0
  · rw [List.append_nil, hfn]
    exact trodAll_keeps hl hb _ _ _ _ hr hA hlt sp (fun x hx => hsp x (by simpa using hx))
  · rw [List.append_nil, hfn, hvars]
    rfl
  · exact ok_one hres rfl (okWide_bool_mk htb _)
end
structure RoOk (φ : Phi) (w : World) (p : Loc × List AVal) : Prop where
  blk : ∃ c e fz, w.heap[p.1.blk]? = some (.cells c e fz) ∧ c.size = p.1.size ∧ p.1.base + p.2.length ≤ p.1.size ∧ ∀ i v, p.2[i]? = some v → ∃ u, c[p.1.base + i]? = some u ∧ VRel φ v u ∧ u.oneCell' = true
structure IntsArg (k : IntKind) (w : World) (v : Value) (bs : List (Loc × List AVal)) (mk : Nat → AVal) (l : List Int) : Prop where
  rel : ∀ (φ : Phi) (i : Nat), (∀ j p, bs[j]? = some p → φ (i + j) = some p.1) → VRel φ (mk i) v
  ro : ∀ φ, ∀ p ∈ bs, RoOk φ w p
  ints : ∀ (h : Heap) (i : Nat), (∀ j p, bs[j]? = some p → h.blk (i + j) = some ⟨p.2, false⟩) → Ints k (mk i) h l
  lt : ∀ i b, slBlk (mk i) = some b → b < i + bs.length
  wf : ∀ x ∈ l, (Lit.int k x).wf = true
  room : ∀ i b off n cap es ex, mk i = .slice b off n cap es ex → n ≤ cap
def Grow (es : Nat) (s : AVal) (h : Heap) (n0 n : Nat) (cells : List AVal) : Prop :=
  cells.length = n * es ∧ ((s = .nilSlice ∧ n = 0) ∨ ∃ b, s = .slice b 0 n n es false ∧ n0 ≤ b ∧ b < h.next ∧ 0 < n ∧ h.blk b = some ⟨cells, true⟩)
theorem Grow.nil (es : Nat) (h : Heap) (n0 : Nat) : Grow es .nilSlice h n0 0 [] := ⟨by simp, .inl ⟨rfl, rfl⟩⟩
theorem Grow.len {es : Nat} {s : AVal} {h : Heap} {n0 n : Nat} {cells : List AVal} (G : Grow es s h n0 n cells) : aLen false s = some (.int .i64 n) := by
  obtain ⟨_, ⟨rfl, rfl⟩ | ⟨b, rfl, _⟩⟩ := G <;> rfl
theorem Grow.mono {es : Nat} {s : AVal} {h h' : Heap} {n0 n : Nat} {cells : List AVal} (G : Grow es s h n0 n cells) (hn : h.next ≤ h'.next) (hb : ∀ b, n0 ≤ b → b < h.next → h'.blk b = h.blk b) : Grow es s h' n0 n cells := by
  obtain ⟨hl, h1 | ⟨b, rfl, a1, a2, a3, a4⟩⟩ := G
  · exact ⟨hl, .inl h1⟩
  · exact ⟨hl, .inr ⟨b, rfl, a1, by omega, a3, by rw [hb b a1 a2, a4]⟩⟩
theorem Grow.ints {k : IntKind} {s : AVal} {h : Heap} {n0 n : Nat} {l : List Int} (G : Grow 1 s h n0 n (l.map (.int k))) : Ints k s h l ∧ l.length = n := by
  obtain ⟨hl, ⟨rfl, rfl⟩ | ⟨b, rfl, a1, a2, a3, a4⟩⟩ := G
  · have : l = [] := by
      cases l with
      | nil => rfl
      | cons a l => simp at hl
    exact ⟨.inl ⟨rfl, this⟩, by simp [this]⟩
  · have hln : l.length = n := by simpa using hl
    refine ⟨.inr ⟨b, 0, n, false, by rw [hln], ?_⟩, hln⟩
    rw [rd_of a4 0 l.length (by simp)]
    simp only [List.drop_zero, Option.some.injEq]
    rw [← List.map_take, List.take_length]
theorem alloc_rd0 (h : Heap) (cs : List AVal) (n : Nat) (hn : n = cs.length) : (h.alloc cs).rd h.next 0 n = some cs := by
  rw [rd_of (alloc_same h cs) 0 n (by simp [hn])]
  simp [hn]
theorem Grow.one {es bytes : Nat} {zero : List AVal} {s : AVal} {h : Heap} {n0 n : Nat} {cells news : List AVal} (G : Grow es s h n0 n cells) (h0 : n0 ≤ h.next) (hn : news.length = es) (hb : (n + 1) * bytes ≤ 140737488355328) (hc : n + 1 ≤ 4611686018427387904) :
    ∃ s' h', aAppend es bytes zero false s (.slice h.next 0 1 1 es true) (h.alloc news) = some (s', h') ∧ Grow es s' h' n0 (n + 1) (cells ++ news) ∧ h'.next = h.next + 2 ∧ ∀ b, b < n0 → h'.blk b = h.blk b := by
  have hr : (h.alloc news).rd h.next 0 (1 * es) = some news := alloc_rd0 h news _ (by omega)
  have hes : Nat.beq es es = true := Nat.beq_refl es
  obtain ⟨hl, ⟨rfl, rfl⟩ | ⟨b, rfl, a1, a2, a3, a4⟩⟩ := G
  · have hcn : cells = [] := by
      cases cells with
      | nil => rfl
      | cons a l => simp at hl
    subst hcn
    refine ⟨.slice (h.next + 1) 0 1 1 es false, (h.alloc news).alloc news, ?_, ⟨by simp [hn], .inr ⟨h.next + 1, rfl, by omega, ?_, by omega, ?_⟩⟩, ?_, ?_⟩
    · simp only [aAppend, aNews, hes, hr, cond_true, Option.bind_some]
      have e1 : Nat.beq 1 0 = false := rfl
      rw [e1]
      simp only [cond_false, Option.bind_some]
      rw [if_pos (by omega)]
      rfl
    · simp
    · simp only [List.nil_append]
      exact alloc_same (h.alloc news) news
    · simp
    · intro b hb'
      rw [alloc_old _ _ (by simp; omega), alloc_old _ _ (by omega)]
  · have hold : (h.alloc news).rd b 0 (n * es) = some cells := by
      have : (h.alloc news).blk b = some ⟨cells, true⟩ := by rw [alloc_old _ _ (by omega)]; exact a4
      rw [rd_of this 0 _ (by simp [hl])]
      simp [← hl]
    have hbk : (h.alloc news).blk b = some ⟨cells, true⟩ := by rw [alloc_old _ _ (by omega)]; exact a4
    refine ⟨.slice (h.next + 1) 0 (n + 1) (n + 1) es false, ((h.alloc news).alloc (cells ++ news)).setBlk b none, ?_, ⟨by simp [hl, hn, Nat.add_mul], .inr ⟨h.next + 1, rfl, by omega, by simp, by omega, ?_⟩⟩, by simp, ?_⟩
    · simp only [aAppend, aNews, hes, hr, cond_true, Option.bind_some]
      have e1 : Nat.beq 1 0 = false := rfl
      have e2 : Nat.ble (n + 1) n = false := by
        cases hh : Nat.ble (n + 1) n with
        | false => rfl
        | true => have := Nat.le_of_ble_eq_true hh; omega
      rw [e1]
      simp only [cond_false, Option.bind_some, e2]
      rw [if_pos (by omega)]
      rw [hbk]
      simp only [hold, Option.bind_some]
      rfl
    · rw [setBlk_ne _ _ (by omega)]
      exact alloc_same (h.alloc news) (cells ++ news)
    · intro b' hb'
      rw [setBlk_ne _ _ (by omega), alloc_old _ _ (by simp; omega), alloc_old _ _ (by omega)]
theorem loop_ok {f : List AVal → Heap → Option J} (I : Nat → List AVal → Heap → Prop) (Q : J → Prop)
    (step : ∀ n xs h, I n xs h → (∃ xs' h', f xs h = some (0, xs', h') ∧ ∃ m, m < n ∧ I m xs' h') ∨ (∃ i ys h', f xs h = some (i + 1, ys, h') ∧ Q (i + 1, ys, h'))) :
    ∀ n xs h, I n xs h → ∃ r, loop f xs h = some r ∧ Q r := by
  intro n
  induction n using Nat.strongRecOn with
  | ind n ih =>
    intro xs h hI
    rcases step n xs h hI with ⟨xs', h', e, m, hm, hI'⟩ | ⟨i, ys, h', e, hq⟩
    · obtain ⟨r, e2, hq⟩ := ih m hm xs' h' hI'
      exact ⟨r, (loop_more e).trans e2, hq⟩
    · exact ⟨_, loop_done e, hq⟩
theorem Ints.lit (k : IntKind) (h : Heap) (l : List Int) (n : Nat) (hn : n = l.length) (ex : Bool) : Ints k (.slice h.next 0 n n 1 ex) (h.alloc (l.map (.int k))) l := by
  refine .inr ⟨h.next, 0, n, ex, by rw [hn], ?_⟩
  exact alloc_rd0 h _ _ (by simp)
theorem aIdx_of (len : Nat) (k : IntKind) (i : Int) (h0 : 0 ≤ i) (h1 : i < len) : aIdx len (.int k i) = some i.toNat := by
  simp [aIdx, h0, h1]
mutual
theorem AVal.beq_refl : ∀ a : AVal, AVal.beq a a = true
  | .undef | .nilPtr | .nilSlice | .nilFunc | .nilIface => by simp [AVal.beq]
  | .bool _ | .int _ _ | .str _ | .ptr _ _ | .slice .. => by simp [AVal.beq]
  | .func _ c => by simp [AVal.beq, AVal.beqL_refl c]
  | .iface _ v => by simp [AVal.beq, AVal.beq_refl v]
  | .agg c => by simp [AVal.beq, AVal.beqL_refl c]
  | .tuple c => by simp [AVal.beq, AVal.beqL_refl c]
theorem AVal.beqL_refl : ∀ a : List AVal, AVal.beqL a a = true
  | [] => rfl
  | a :: l => by simp [AVal.beqL, AVal.beq_refl a, AVal.beqL_refl l]
end
@[simp] theorem beqO_same (a : List AVal) : beqO (some a) (some a) = true := AVal.beqL_refl a
@[simp] theorem lookLog_nil (t : Nat) : lookLog [] t = none := rfl
@[simp] theorem lookLog_cons (u : Nat) (v : Option Log) (r : List (Nat × Option Log)) (t : Nat) : lookLog ((u, v) :: r) t = if u = t then some v else lookLog r t := by
  rw [lookLog, beq_dec]
  by_cases h : u = t <;> simp [h]
@[simp] theorem lookB_nil (t : Nat) : lookB [] t = none := rfl
@[simp] theorem lookB_if (u : Nat) (v : List AVal) (r : List (Nat × List AVal)) (t : Nat) : lookB ((u, v) :: r) t = if u = t then some v else lookB r t := by
  rw [lookB, beq_dec]
  by_cases h : u = t <;> simp [h]
@[simp] theorem pairOk_some (a e : Log) : pairOk (some a) (some e) = stays a e := rfl
@[simp] theorem logRd_ptr (b off n : Nat) : logRd (.ptr b off) n = some (.rd b off n) := rfl
@[simp] theorem stays_rd (b off n : Nat) (β β' : List (Nat × List AVal)) (h h' : Heap) : stays (.rd b off n) (.ef β h β' h') = beqO (h.rd b off n) (h'.rd b off n) := rfl
@[simp] theorem stays_lrd (l off n : Nat) (β β' : List (Nat × List AVal)) (h h' : Heap) : stays (.lrd l off n) (.ef β h β' h') = beqO ((lookB β l).bind fun c => rdL c off n) ((lookB β' l).bind fun c => rdL c off n) := rfl
@[simp] theorem checkPairs_nil (log : List (Nat × Option Log)) : checkPairs log [] = true := rfl
@[simp] theorem aggCells_agg (cs : List AVal) : AVal.aggCells (.agg cs) = cs := rfl
theorem wrap_succ (n : Nat) (h : n < 4611686018427387904) : IntKind.i64.wrap ((n : Int) + 1) = ((n + 1 : Nat) : Int) := by
  rw [IntWalk.i64_in _ (by omega)]; omega
def within (a lo hi : Int) : Int := if lo ≤ a ∧ a ≤ hi then a else lo + (if a.tmod (hi - lo + 1) < 0 then a.tmod (hi - lo + 1) + hi - lo + 1 else a.tmod (hi - lo + 1))
theorem tmod_bounds (a n : Int) (hn : 0 < n) : -n < a.tmod n ∧ a.tmod n < n := by
  have h1 := Int.tmod_lt_of_pos a hn
  have h2 := Int.lt_tmod_of_pos a hn
  omega
theorem within_in (a lo hi : Int) (h : lo ≤ hi) : lo ≤ within a lo hi ∧ within a lo hi ≤ hi := by
  obtain ⟨m1, m2⟩ := tmod_bounds a (hi - lo + 1) (by omega)
  unfold within
  split
  · omega
  · split <;> omega
noncomputable def withinS (call : Go.Fw.Call) (a0 a1 a2 : AVal) (h : Heap) : Option J :=
 (aBin .geq .plain a0 a1).bind fun v1 =>
 (guardV v1 true
 ((aBin .leq .plain a0 a2).bind fun v2 =>
 some (0, [v2], h))
 (some (0, [skipV], h))).bind fun g3 =>
 (aPick v1 (g3.2.1.getD 0 .undef) (.bool false)).bind fun v4 =>
 condV v4
 (some (0, [a0], g3.2.2))
 ((aBin .sub .plain a2 a1).bind fun v5 =>
 (aBin .add .plain v5 (.int .i64 1)).bind fun v6 =>
 (aBin .rem .plain a0 v6).bind fun v7 =>
 (aBin .lss .plain v7 (.int .i64 0)).bind fun v8 =>
 (condV v8
 ((aBin .add .plain v7 a2).bind fun v9 =>
 (aBin .sub .plain v9 a1).bind fun v10 =>
 (aBin .add .plain v10 (.int .i64 1)).bind fun v11 =>
 some (0, [v11, a1], g3.2.2))
 (some (0, [v7, a1], g3.2.2))).bind fun x12 =>
 bif Nat.beq x12.1 0 then (aBin .add .plain (x12.2.1.getD 1 .undef) (x12.2.1.getD 0 .undef)).bind fun v13 =>
 some (0, [v13], x12.2.2) else
 none)
theorem withinS_eq (call : Go.Fw.Call) (a lo hi : Int) (h0 : -1000000000000 ≤ lo) (h1 : lo ≤ hi) (h2 : hi ≤ 1000000000000) (h : Heap) : withinS call (.int .i64 a) (.int .i64 lo) (.int .i64 hi) h = some (0, [.int .i64 (within a lo hi)], h) := by
  obtain ⟨m1, m2⟩ := tmod_bounds a (hi - lo + 1) (by omega)
  have hn : ¬ (hi - lo + 1 = 0) := by omega
  have w1 : IntKind.i64.wrap (hi - lo) = hi - lo := IntWalk.i64_in _ (by omega)
  have w2 : IntKind.i64.wrap (hi - lo + 1) = hi - lo + 1 := IntWalk.i64_in _ (by omega)
  have w3 : IntKind.i64.wrap (a.tmod (hi - lo + 1) + hi) = a.tmod (hi - lo + 1) + hi := IntWalk.i64_in _ (by omega)
  have w4 : IntKind.i64.wrap (a.tmod (hi - lo + 1) + hi - lo) = a.tmod (hi - lo + 1) + hi - lo := IntWalk.i64_in _ (by omega)
  have w5 : IntKind.i64.wrap (a.tmod (hi - lo + 1) + hi - lo + 1) = a.tmod (hi - lo + 1) + hi - lo + 1 := IntWalk.i64_in _ (by omega)
  have w6 : IntKind.i64.wrap (lo + (a.tmod (hi - lo + 1) + hi - lo + 1)) = lo + (a.tmod (hi - lo + 1) + hi - lo + 1) := IntWalk.i64_in _ (by omega)
  have w7 : IntKind.i64.wrap (lo + a.tmod (hi - lo + 1)) = lo + a.tmod (hi - lo + 1) := IntWalk.i64_in _ (by omega)
  unfold within
  by_cases ha : lo ≤ a <;> by_cases hb : a ≤ hi <;> by_cases hm : a.tmod (hi - lo + 1) < 0 <;> simp [withinS, ha, hb, bin_rem, w1, w2, hn, hm, w3, w4, w5, w6, w7]
open Go.WideShapes
def FlatRel (P : Program) (w : World) (r : Reach) (base : Nat) : List TypeId → List Value → Prop
  | [], [] => True
  | u :: us, x :: xs => Cell.okWide P w r base u x ∧ FlatRel P w r base us xs
  | _, _ => False
section
variable {P : Program} {w : World} {r : Reach} {base : Nat}
theorem FlatRel.cons {u : TypeId} {us : List TypeId} {xs : List Value} (F : FlatRel P w r base (u :: us) xs) : ∃ x ys, xs = x :: ys ∧ Cell.okWide P w r base u x ∧ FlatRel P w r base us ys := by
  cases xs with
  | nil => exact F.elim
  | cons x ys => exact ⟨x, ys, rfl, F.1, F.2⟩
theorem FlatRel.nil {xs : List Value} (F : FlatRel P w r base [] xs) : xs = [] := by
  cases xs with
  | nil => rfl
  | cons x ys => exact F.elim
theorem FlatRel.of : ∀ {ts : List TypeId} {cs : List Value}, cs.length = ts.length → (∀ (i : Nat) (v : Value), cs[i]? = some v → ∃ u, ts[i]? = some u ∧ Cell.okWide P w r base u v) → FlatRel P w r base ts cs
  | [], [], _, _ => trivial
  | [], _ :: _, h, _ => by simp at h
  | _ :: _, [], h, _ => by simp at h
  | t :: ts, c :: cs, hl, h => by
    refine ⟨?_, FlatRel.of (by simpa using hl) fun i v hv => ?_⟩
    · obtain ⟨u, h1, h2⟩ := h 0 c rfl
      simp at h1
      subst h1
      exact h2
    · obtain ⟨u, h1, h2⟩ := h (i + 1) v (by simpa using hv)
      exact ⟨u, by simpa using h1, h2⟩
end
@[simp] theorem oneOr_one (v : AVal) : oneOr [v] = v := rfl
structure Kept (hs : Heap) (os : AVal) (h : Heap) (o : AVal) : Prop where
  next : hs.next ≤ h.next
  old : ∀ b, b < hs.next → slBlk os ≠ some b → h.blk b = hs.blk b
  blk : ∀ b, slBlk o = some b → slBlk os = some b ∨ hs.next ≤ b
theorem Kept.refl (h : Heap) (o : AVal) : Kept h o h o := ⟨Nat.le_refl _, fun _ _ _ => rfl, fun _ hb => .inl hb⟩
theorem Kept.trans {a b c : Heap} {x y z : AVal} (p : Kept a x b y) (q : Kept b y c z) : Kept a x c z where
  next := Nat.le_trans p.next q.next
  old := fun i hi hx => by
    rw [q.old i (Nat.lt_of_lt_of_le hi p.next), p.old i hi hx]
    intro hy
    rcases p.blk i hy with h | h
    · exact hx h
    · omega
  blk := fun i hi => by
    rcases q.blk i hi with h | h
    · exact p.blk i h
    · exact .inr (Nat.le_trans p.next h)
theorem Kept.alloc (h : Heap) (o : AVal) (cs : List AVal) : Kept h o (h.alloc cs) o := ⟨by simp, fun b hb _ => alloc_old _ _ (by omega), fun _ hb => .inl hb⟩
theorem Grow.at {es : Nat} {s : AVal} {h : Heap} {n0 n : Nat} {cells : List AVal} (G : Grow es s h n0 n cells) (i : Nat) (hi : i < n) :
    ∃ p, aIaddr es s (.int .i64 i) = some p ∧ aLoad h es p = some ((cells.drop (i * es)).take es) := by
  obtain ⟨hl, ⟨rfl, rfl⟩ | ⟨b, rfl, a1, a2, a3, a4⟩⟩ := G
  · omega
  · refine ⟨.ptr b (i * es), ?_, ?_⟩
    · have h1 : ((i : Int) < (n : Int)) := by omega
      simp [aIaddr, aIdx, h1]
    · rw [load_ptr, rd_of a4]
      simp only [hl]
      rw [← Nat.succ_mul]
      exact Nat.mul_le_mul_right es hi
theorem Grow.kept {es : Nat} {s : AVal} {h : Heap} {n0 n : Nat} {cells : List AVal} (G : Grow es s h n0 n cells) {h' : Heap} (hn : h.next ≤ h'.next) (ho : ∀ b, slBlk s = some b → h'.blk b = h.blk b) : Grow es s h' n0 n cells := by
  obtain ⟨hl, h1 | ⟨b, rfl, a1, a2, a3, a4⟩⟩ := G
  · exact ⟨hl, .inl h1⟩
  · exact ⟨hl, .inr ⟨b, rfl, a1, by omega, a3, by rw [ho b rfl, a4]⟩⟩
def Src (es : Nat) (s : AVal) (h : Heap) (m : Nat) (cells : List AVal) : Prop :=
  cells.length = m * es ∧ ((s = .nilSlice ∧ m = 0) ∨ ∃ b off cap ex, s = .slice b off m cap es ex ∧ b < h.next ∧ h.rd b off (m * es) = some cells)
def Own (es : Nat) (s : AVal) (h : Heap) (n0 m : Nat) (cells : List AVal) : Prop :=
  cells.length = m * es ∧ ((s = .nilSlice ∧ m = 0) ∨ ∃ b ex, s = .slice b 0 m m es ex ∧ n0 ≤ b ∧ b < h.next ∧ h.blk b = some ⟨cells, true⟩)
theorem Own.src {es : Nat} {s : AVal} {h : Heap} {n0 m : Nat} {cells : List AVal} (O : Own es s h n0 m cells) : Src es s h m cells := by
  obtain ⟨hl, h1 | ⟨b, ex, rfl, h1, h2, h3⟩⟩ := O
  · exact ⟨hl, .inl h1⟩
  · refine ⟨hl, .inr ⟨b, 0, m, ex, rfl, h2, ?_⟩⟩
    rw [rd_of h3 0 _ (by simp [hl]), ← hl]
    simp
theorem Own.nil (es : Nat) (h : Heap) (n0 : Nat) : Own es .nilSlice h n0 0 [] := ⟨by simp, .inl ⟨rfl, rfl⟩⟩
theorem Own.blk {es : Nat} {s : AVal} {h : Heap} {n0 m : Nat} {cells : List AVal} (O : Own es s h n0 m cells) : ∀ b, slBlk s = some b → n0 ≤ b ∧ b < h.next := by
  intro b hb
  obtain ⟨_, ⟨rfl, _⟩ | ⟨b', ex, rfl, h1, h2, _⟩⟩ := O
  · cases hb
  · cases hb; exact ⟨h1, h2⟩
theorem Own.kept {es : Nat} {s : AVal} {h : Heap} {n0 m : Nat} {cells : List AVal} (O : Own es s h n0 m cells) {h' : Heap} (hn : h.next ≤ h'.next) (ho : ∀ b, slBlk s = some b → h'.blk b = h.blk b) : Own es s h' n0 m cells := by
  obtain ⟨hl, h1 | ⟨b, ex, rfl, a1, a2, a4⟩⟩ := O
  · exact ⟨hl, .inl h1⟩
  · exact ⟨hl, .inr ⟨b, ex, rfl, a1, by omega, by rw [ho b rfl, a4]⟩⟩
theorem Own.base {es : Nat} {s : AVal} {h : Heap} {n0 m : Nat} {cells : List AVal} (O : Own es s h n0 m cells) {n1 : Nat} (hn : n1 ≤ n0) : Own es s h n1 m cells := by
  obtain ⟨hl, h1 | ⟨b, ex, rfl, a1, a2, a4⟩⟩ := O
  · exact ⟨hl, .inl h1⟩
  · exact ⟨hl, .inr ⟨b, ex, rfl, by omega, a2, a4⟩⟩
theorem Src.blk {es : Nat} {s : AVal} {h : Heap} {m : Nat} {cells : List AVal} (O : Src es s h m cells) : ∀ b, slBlk s = some b → b < h.next := by
  intro b hb
  obtain ⟨_, ⟨rfl, _⟩ | ⟨b', off, cap, ex, rfl, h2, _⟩⟩ := O
  · cases hb
  · cases hb; exact h2
theorem Src.kept {es : Nat} {s : AVal} {h : Heap} {m : Nat} {cells : List AVal} (O : Src es s h m cells) {h' : Heap} (hn : h.next ≤ h'.next) (ho : ∀ b, slBlk s = some b → h'.blk b = h.blk b) : Src es s h' m cells := by
  obtain ⟨hl, h1 | ⟨b, off, cap, ex, rfl, a2, a4⟩⟩ := O
  · exact ⟨hl, .inl h1⟩
  · refine ⟨hl, .inr ⟨b, off, cap, ex, rfl, by omega, ?_⟩⟩
    unfold Heap.rd at a4 ⊢
    rw [ho b rfl]
    exact a4
theorem Src.len {es : Nat} {s : AVal} {h : Heap} {m : Nat} {cells : List AVal} (O : Src es s h m cells) : aLen false s = some (.int .i64 m) := by
  obtain ⟨_, ⟨rfl, rfl⟩ | ⟨b, off, cap, ex, rfl, _⟩⟩ := O <;> rfl
theorem Src.at {es : Nat} {s : AVal} {h : Heap} {m : Nat} {cells : List AVal} (O : Src es s h m cells) (i : Nat) (hi : i < m) : ∃ p, aIaddr es s (.int .i64 i) = some p ∧ aLoad h es p = some ((cells.drop (i * es)).take es) := by
  obtain ⟨hl, ⟨rfl, rfl⟩ | ⟨b, off, cap, ex, rfl, a2, a4⟩⟩ := O
  · omega
  · refine ⟨.ptr b (off + i * es), ?_, ?_⟩
    · have h1 : ((i : Int) < (m : Int)) := by omega
      simp [aIaddr, aIdx, h1]
    · have hle : (i + 1) * es ≤ m * es := Nat.mul_le_mul_right es hi
      rw [Nat.succ_mul] at hle
      obtain ⟨x, hx, hlx, rfl⟩ := rd_inv a4
      rw [load_ptr, rd_of hx _ _ (by omega)]
      simp only [Option.some.injEq]
      rw [List.drop_take, List.take_take, List.drop_drop, Nat.min_eq_left (by omega)]
theorem Own.app {es bytes : Nat} {zero : List AVal} {s x : AVal} {h : Heap} {n0 n m : Nat} {cells news : List AVal} (O : Own es s h n0 n cells) (S : Src es x h m news) (hes : 0 < es) (h0 : n0 ≤ h.next) (hb : (n + m) * bytes ≤ 140737488355328) (hc : n + m ≤ 4611686018427387904) :
    ∃ s' h', aAppend es bytes zero false s x h = some (s', h') ∧ Own es s' h' n0 (n + m) (cells ++ news) ∧ Kept h s h' s' := by
  have hee : Nat.beq es es = true := Nat.beq_refl es
  have hnews : aNews es bytes zero false x h = some (m, news) := by
    obtain ⟨hl, ⟨rfl, rfl⟩ | ⟨b, off, cap, ex, rfl, a2, a4⟩⟩ := S
    · have : news = [] := by
        cases news with
        | nil => rfl
        | cons a l => simp at hl
      subst this
      rfl
    · unfold aNews
      by_cases hm : m = 0
      · subst hm
        have : news = [] := by
          cases news with
          | nil => rfl
          | cons a l => simp at hl
        subst this
        rfl
      · have : Nat.beq m 0 = false := by rw [beq_dec]; simpa using hm
        simp only [this, hee, a4, cond_true, cond_false, Option.bind_some]
  have hl := S.1
  have hlO := O.1
  by_cases hm : m = 0
  · subst hm
    have : news = [] := by
      cases news with
      | nil => rfl
      | cons a l => simp at hl
    subst this
    refine ⟨s, h, ?_, by simpa using O, Kept.refl _ _⟩
    unfold aAppend
    rw [hnews]
    obtain ⟨_, ⟨rfl, rfl⟩ | ⟨b, ex, rfl, a1, a2, a4⟩⟩ := O
    · rfl
    · simp only [Option.bind_some, hee, cond_true]
      rfl
  · have hm0 : Nat.beq m 0 = false := by rw [beq_dec]; simpa using hm
    have hadd : ∀ k, k * es + m * es = (k + m) * es := fun k => by rw [Nat.add_mul]
    unfold aAppend
    rw [hnews]
    obtain ⟨_, ⟨rfl, rfl⟩ | ⟨b, ex, rfl, a1, a2, a4⟩⟩ := O
    · have hcn : cells = [] := by
        cases cells with
        | nil => rfl
        | cons a l => simp at hlO
      subst hcn
      simp only [Option.bind_some, hm0, cond_false]
      have hb' : m * bytes ≤ 140737488355328 := by simpa using hb
      rw [if_pos ⟨hb', by omega⟩]
      refine ⟨_, _, rfl, ⟨by simp [hl], .inr ⟨h.next, false, by rw [Nat.zero_add], h0, by simp, ?_⟩⟩, ⟨by simp, fun c hc _ => alloc_old _ _ (by omega), fun c hc => by cases hc; exact .inr (Nat.le_refl _)⟩⟩
      rw [alloc_same, List.nil_append]
    · have e2 : Nat.ble (n + m) n = false := by
        cases hh : Nat.ble (n + m) n with
        | false => rfl
        | true => have := Nat.le_of_ble_eq_true hh; omega
      have hold : h.rd b 0 (n * es) = some cells := by
        rw [rd_of a4 0 _ (by simp [hlO]), ← hlO]
        simp
      simp only [Option.bind_some, hee, cond_true, hm0, cond_false, e2]
      rw [if_pos ⟨hb, hc⟩]
      cases ex with
      | true =>
        simp only [cond_true]
        by_cases hn : n = 0
        · subst hn
          have hcn : cells = [] := by
            cases cells with
            | nil => rfl
            | cons a l => simp at hlO
          subst hcn
          have h00 : Nat.beq 0 0 = true := rfl
          simp only [h00, cond_true]
          refine ⟨_, _, rfl, ⟨by simp [hl], .inr ⟨h.next, false, by rw [Nat.zero_add], h0, by simp, ?_⟩⟩, ⟨by simp, fun c hc _ => alloc_old _ _ (by omega), fun c hc => by cases hc; exact .inr (Nat.le_refl _)⟩⟩
          rw [alloc_same, List.nil_append]
        · have hn0 : Nat.beq n 0 = false := by rw [beq_dec]; simpa using hn
          simp only [hn0, cond_false, hold, Option.bind_some]
          refine ⟨_, _, rfl, ⟨by rw [List.length_append, hl, hlO, hadd], .inr ⟨h.next, false, rfl, h0, by simp, ?_⟩⟩, ⟨by simp, fun c hc _ => alloc_old _ _ (by omega), fun c hc => by cases hc; exact .inr (Nat.le_refl _)⟩⟩
          rw [alloc_same]
      | false =>
        simp only [cond_false, a4, hold, Option.bind_some]
        refine ⟨_, _, rfl, ⟨by rw [List.length_append, hl, hlO, hadd], .inr ⟨h.next, false, rfl, h0, by simp, ?_⟩⟩, ⟨by simp, fun c hc hne => ?_, fun c hc => by cases hc; exact .inr (Nat.le_refl _)⟩⟩
        · rw [setBlk_ne _ _ (by omega), alloc_same]
        · have : c ≠ b := fun e => hne (by rw [e]; rfl)
          rw [setBlk_ne _ _ this, alloc_old _ _ (by omega)]
theorem Own.lit (es : Nat) (h : Heap) (cs : List AVal) (n : Nat) (hn : cs.length = n * es) (ex : Bool) : Own es (.slice h.next 0 n n es ex) (h.alloc cs) h.next n cs :=
  ⟨hn, .inr ⟨h.next, ex, rfl, Nat.le_refl _, by simp, alloc_same _ _⟩⟩
theorem Own.snoc {es bytes : Nat} {zero : List AVal} {s : AVal} {h : Heap} {n0 n : Nat} {cells news : List AVal} (O : Own es s h n0 n cells) (hes : 0 < es) (hl : news.length = es) (h0 : n0 ≤ h.next) (hb : (n + 1) * bytes ≤ 140737488355328) (hc : n + 1 ≤ 4611686018427387904) :
    ∃ s' h', aAppend es bytes zero false s (.slice h.next 0 1 1 es true) (h.alloc news) = some (s', h') ∧ Own es s' h' n0 (n + 1) (cells ++ news) ∧ Kept h s h' s' := by
  have K := Kept.alloc h s news
  have O' : Own es s (h.alloc news) n0 n cells := O.kept K.next fun b hb => alloc_old _ _ (by have := (O.blk b hb).2; omega)
  have S := (Own.lit es h news 1 (by omega) true).src
  obtain ⟨s', h', e, O2, K2⟩ := O'.app (bytes := bytes) (zero := zero) S hes (by simp; omega) hb hc
  exact ⟨s', h', e, O2, K.trans K2⟩
structure Went (h h' : Heap) : Prop where
  next : h.next ≤ h'.next
  old : ∀ i, i < h.next → h'.blk i = h.blk i
theorem Went.refl (h : Heap) : Went h h := ⟨Nat.le_refl _, fun _ _ => rfl⟩
theorem Went.trans {a b c : Heap} (h : Went a b) (k : Went b c) : Went a c := ⟨Nat.le_trans h.next k.next, fun i hi => (k.old i (Nat.lt_of_lt_of_le hi h.next)).trans (h.old i hi)⟩
theorem Went.alloc (h : Heap) (cs : List AVal) : Went h (h.alloc cs) := ⟨by simp, fun _ hi => alloc_old _ _ (by omega)⟩
theorem Went.src {a b : Heap} (W : Went a b) {es : Nat} {s : AVal} {m : Nat} {cells : List AVal} (S : Src es s a m cells) : Src es s b m cells := S.kept W.next fun c hc => W.old c (S.blk c hc)
theorem Went.own {a b : Heap} (W : Went a b) {es : Nat} {s : AVal} {n0 m : Nat} {cells : List AVal} (S : Own es s a n0 m cells) : Own es s b n0 m cells := S.kept W.next fun c hc => W.old c (S.blk c hc).2
theorem Kept.went {h0 h h' : Heap} {s s' : AVal} (W : Went h0 h) (hs : ∀ b, slBlk s = some b → h0.next ≤ b) (K : Kept h s h' s') : Went h0 h' :=
  ⟨Nat.le_trans W.next K.next, fun i hi => by
    rw [K.old i (Nat.lt_of_lt_of_le hi W.next), W.old i hi]
    intro hh
    have := hs i hh
    omega⟩
@[simp] theorem byteCells_len (l : List UInt8) : (byteCells l).length = l.length := by simp [byteCells]
theorem cellBytes_of : ∀ l : List UInt8, cellBytes (byteCells l) = some l
  | [] => rfl
  | b :: l => by
    have h1 : cellBytes (byteCells (b :: l)) = (cellBytes (byteCells l)).bind fun r => some (UInt8.ofNat (Int.toNat (b.toNat : Int)) :: r) := rfl
    rw [h1, cellBytes_of l]
    simp
theorem Src.text {s : AVal} {h : Heap} {l : List UInt8} (S : Src 1 s h l.length (byteCells l)) : aConv .bytesStr s h = some (.str l, h) := by
  obtain ⟨_, ⟨rfl, h0⟩ | ⟨b, off, cap, ex, rfl, _, hr⟩⟩ := S
  · have : l = [] := List.length_eq_zero_iff.1 h0
    subst this
    rfl
  · rw [Nat.mul_one] at hr
    have h1 : Nat.beq 1 1 = true := rfl
    simp only [aConv, h1, cond_true, hr, Option.bind_some, cellBytes_of]
theorem Own.text {bytes : Nat} {zero : List AVal} {s : AVal} {h : Heap} {n0 n : Nat} {cells : List AVal} {l : List UInt8} (O : Own 1 s h n0 n cells) (h0 : n0 ≤ h.next) (hb : (n + l.length) * bytes ≤ 140737488355328) (hc : n + l.length ≤ 4611686018427387904) :
    ∃ s' h', aAppend 1 bytes zero false s (.str l) h = some (s', h') ∧ Own 1 s' h' n0 (n + l.length) (cells ++ byteCells l) ∧ Kept h s h' s' := by
  -- as if the text lay in memory
  have hS : ∀ x H, aNews 1 bytes zero false x H = aNews 1 bytes zero false (.str l) H → aAppend 1 bytes zero false s x H = aAppend 1 bytes zero false s (.str l) H := by
    intro x H e
    unfold aAppend
    rw [e]
  have hO := O.1
  by_cases hl : l = []
  · subst hl
    refine ⟨s, h, ?_, by simpa [byteCells] using O, Kept.refl _ _⟩
    rw [← hS .nilSlice h rfl]
    obtain ⟨s', h', e, _, _⟩ := O.app (bytes := bytes) (zero := zero) (x := .nilSlice) (m := 0) (news := []) ⟨by simp, .inl ⟨rfl, rfl⟩⟩ (by omega) h0 (by simpa using hb) (by simpa using hc)
    unfold aAppend aNews
    obtain ⟨_, ⟨rfl, rfl⟩ | ⟨b, ex, rfl, a1, a2, a4⟩⟩ := O <;> rfl
  · have hm : Nat.beq l.length 0 = false := by
      rw [beq_dec]
      have : l.length ≠ 0 := fun e => hl (List.length_eq_zero_iff.1 e)
      simpa using this
    have h11 : Nat.beq 1 1 = true := rfl
    unfold aAppend aNews
    simp only [h11, cond_true, Option.bind_some, hm, cond_false]
    obtain ⟨_, ⟨rfl, rfl⟩ | ⟨b, ex, rfl, a1, a2, a4⟩⟩ := O
    · have hcn : cells = [] := by
        cases cells with
        | nil => rfl
        | cons a l => simp at hO
      subst hcn
      have hb' : l.length * bytes ≤ 140737488355328 := by simpa using hb
      simp only
      rw [if_pos ⟨hb', by omega⟩]
      refine ⟨_, _, rfl, ⟨by simp, .inr ⟨h.next, false, by rw [Nat.zero_add], h0, by simp, ?_⟩⟩, ⟨by simp, fun c hc _ => alloc_old _ _ (by omega), fun c hc => by cases hc; exact .inr (Nat.le_refl _)⟩⟩
      rw [alloc_same, List.nil_append]
    · have e2 : Nat.ble (n + l.length) n = false := by
        cases hh : Nat.ble (n + l.length) n with
        | false => rfl
        | true =>
          have := Nat.le_of_ble_eq_true hh
          have : l.length ≠ 0 := fun e => hl (List.length_eq_zero_iff.1 e)
          omega
      have hold : h.rd b 0 (n * 1) = some cells := by
        rw [rd_of a4 0 _ (by simp [hO]), ← hO]
        simp
      simp only [h11, cond_true, e2, cond_false]
      rw [if_pos ⟨hb, hc⟩]
      cases ex with
      | true =>
        simp only [cond_true]
        by_cases hn : n = 0
        · subst hn
          have hcn : cells = [] := by
            cases cells with
            | nil => rfl
            | cons a l => simp at hO
          subst hcn
          have h00 : Nat.beq 0 0 = true := rfl
          simp only [h00, cond_true]
          refine ⟨_, _, rfl, ⟨by simp, .inr ⟨h.next, false, by rw [Nat.zero_add], h0, by simp, ?_⟩⟩, ⟨by simp, fun c hc _ => alloc_old _ _ (by omega), fun c hc => by cases hc; exact .inr (Nat.le_refl _)⟩⟩
          rw [alloc_same, List.nil_append]
        · have hn0 : Nat.beq n 0 = false := by rw [beq_dec]; simpa using hn
          simp only [hn0, cond_false, hold, Option.bind_some]
          refine ⟨_, _, rfl, ⟨by simp [hO], .inr ⟨h.next, false, rfl, h0, by simp, ?_⟩⟩, ⟨by simp, fun c hc _ => alloc_old _ _ (by omega), fun c hc => by cases hc; exact .inr (Nat.le_refl _)⟩⟩
          rw [alloc_same]
      | false =>
        simp only [cond_false, a4, hold, Option.bind_some]
        refine ⟨_, _, rfl, ⟨by simp [hO], .inr ⟨h.next, false, rfl, h0, by simp, ?_⟩⟩, ⟨by simp, fun c hc hne => ?_, fun c hc => by cases hc; exact .inr (Nat.le_refl _)⟩⟩
        · rw [setBlk_ne _ _ (by omega), alloc_same]
        · have : c ≠ b := fun e => hne (by rw [e]; rfl)
          rw [setBlk_ne _ _ this, alloc_old _ _ (by omega)]
noncomputable def cloneS (es bytes : Nat) (zero : List AVal) (a0 : AVal) (h : Heap) : Option J :=
 (aBin .eql .slice a0 (.nilSlice)).bind fun v1 =>
 condV v1
 (some (0, [(.nilSlice)], h))
 ((aFill (reps zero 0) []).bind fun c2 =>
 (aAppend es bytes zero false (.slice h.next 0 0 0 es true) a0 (h.alloc c2)).bind fun r3 =>
 some (0, [r3.1], r3.2))
theorem clone_of {es bytes : Nat} {zero : List AVal} {x : AVal} {h : Heap} {m : Nat} {news : List AVal} (S : Src es x h m news) (hes : 0 < es) (hb : m * bytes ≤ 140737488355328) (hc : m ≤ 4611686018427387904) :
    ∃ s h', cloneS es bytes zero x h = some (0, [s], h') ∧ Own es s h' h.next m news ∧ Went h h' := by
  have S0 := S
  obtain ⟨hl, ⟨rfl, rfl⟩ | ⟨b, off, cap, ex, rfl, a2, a4⟩⟩ := S
  · have : news = [] := by
      cases news with
      | nil => rfl
      | cons a l => simp at hl
    subst this
    exact ⟨.nilSlice, h, rfl, Own.nil _ _ _, Went.refl _⟩
  · have O := Own.lit es h [] 0 (by simp) true
    have S' := (Went.alloc h []).src S0
    obtain ⟨s', h', e, O', K⟩ := O.app (bytes := bytes) (zero := zero) S' hes (by simp) (by simpa using hb) (by simpa using hc)
    refine ⟨s', h', ?_, by simpa using O', K.went (Went.alloc h []) fun b hb => by cases hb; exact Nat.le_refl _⟩
    have e1 : aBin .eql .slice (.slice b off m cap es ex) .nilSlice = some (.bool false) := rfl
    have e2 : aFill (reps zero 0) [] = some [] := rfl
    simp only [cloneS, e1, e2, Option.bind_some, cond_bool, cond_false, e]
theorem Src.ints {k : IntKind} {s : AVal} {h : Heap} {m : Nat} {l : List Int} (S : Src 1 s h m (l.map (.int k))) : Ints k s h l := by
  obtain ⟨hl, ⟨rfl, h0⟩ | ⟨b, off, cap, ex, rfl, a2, a3⟩⟩ := S
  · have : l = [] := List.length_eq_zero_iff.1 (by simpa [h0] using hl)
    exact .inl ⟨rfl, this⟩
  · have hm : l.length = m := by simpa using hl
    refine .inr ⟨b, off, cap, ex, by rw [hm], ?_⟩
    rw [hm, ← Nat.mul_one m]
    exact a3
def bU8 (n : Int) : UInt8 := UInt8.ofNat (IntKind.u8.wrap n).toNat
def byteAt (n : Int) (k : Nat) : UInt8 := bU8 (n.fdiv (2 ^ k))
def pre8 (n : Int) (j : Nat) : List UInt8 := (List.range j).map fun q => byteAt n (8 * (7 - q))
def be8 (n : Int) : List UInt8 := pre8 n 8
@[simp] theorem be8_len (n : Int) : (be8 n).length = 8 := by simp [be8, pre8]
open Go.RowKit Go.WideShapes Go.ChangeShapes
structure RowArg (es : Nat) (w : World) (v : Value) (bs : List (Loc × List AVal)) (mk : Nat → AVal) (m : Nat) (cells : List AVal) : Prop where
  rel : ∀ (φ : Phi) (i : Nat), (∀ j p, bs[j]? = some p → φ (i + j) = some p.1) → VRel φ (mk i) v
  ro : ∀ φ, ∀ p ∈ bs, RoOk φ w p
  src : ∀ (h : Heap) (i : Nat), i + bs.length ≤ h.next → (∀ j p, bs[j]? = some p → h.blk (i + j) = some ⟨p.2, false⟩) → Src es (mk i) h m cells
  room : ∀ i b off n cap es ex, mk i = .slice b off n cap es ex → n ≤ cap
theorem Src.str {s : AVal} {h : Heap} {L : List (List UInt8)} (S : Src 1 s h L.length (L.map .str)) (i : Nat) (hi : i < L.length) : ∃ p, aIaddr 1 s (.int .i64 i) = some p ∧ aLoad h 1 p = some [.str (L.getD i [])] := by
  obtain ⟨p, e1, e2⟩ := S.at i hi
  refine ⟨p, e1, ?_⟩
  rw [e2, Nat.mul_one]
  have : i < (L.map AVal.str).length := by simpa using hi
  rw [List.drop_eq_getElem_cons this]
  simp [List.getD_eq_getElem?_getD, List.getElem?_eq_getElem hi]
end Go.Fw
