import Derived.Test.YtllogmedpmanoaaFwJ
import Derived.Test.YtllogmedpmanoaaFwA
/- One operation of a frame: what the abstract step says, the model does. -/
namespace Go.Fw
set_option linter.unusedSimpArgs false
set_option linter.unusedVariables false

section
variable {P : Program}

/-- Within a call: the frame's state, and all that happened since the call began. -/
structure In (B n : Nat) (φ0 : Phi) (h0 : Heap) (w0 : World) (φ : Phi) (L : Nat → Nat) (s : Env) (h : Heap) (a : Act) (w : World) : Prop where
  rel : CRel B n φ L s h a w
  step : Step φ0 h0 w0 φ h w
  base : w0.heap.size = B
  dom : ∀ b L, φ0 b = some L → b < h0.next


section inversions
theorem inv_nilchk {op : Op} {d : Nat} {y : AOpd} (hh : chkOp P op (.nilchk d y) = true) : ∃ x, op = .nilCheck x ∧ opdOk x y = true := by
  cases op <;> first
    | exact (Bool.false_ne_true hh).elim
    | exact ⟨_, rfl, hh⟩
    | exact ⟨_, _, rfl, hh⟩
    | exact ⟨_, _, _, rfl, hh⟩
    | exact ⟨_, _, _, _, _, rfl, hh⟩
    | (rename_i fn _ _; cases fn <;> exact (Bool.false_ne_true hh).elim)
theorem inv_faddr {op : Op} {d off : Nat} {y : AOpd} (hh : chkOp P op (.faddr d off y) = true) : ∃ t x f, op = .fieldAddr t x f ∧ (opdOk x y &&
    (match P.underlying t with | some (.struct fs) => (match fs[f]? with | some fl => Nat.beq fl.offset off && (match (P.info? fl.type).map (·.size) with | some (_ + 1) => true | _ => false) | none => false) | _ => false)) = true := by
  cases op <;> first
    | exact (Bool.false_ne_true hh).elim
    | exact ⟨_, rfl, hh⟩
    | exact ⟨_, _, rfl, hh⟩
    | exact ⟨_, _, _, rfl, hh⟩
    | exact ⟨_, _, _, _, _, rfl, hh⟩
    | (rename_i fn _ _; cases fn <;> exact (Bool.false_ne_true hh).elim)
theorem inv_iaddr {op : Op} {d es : Nat} {arr : Option Nat} {y j : AOpd} (hh : chkOp P op (.iaddr d arr es y j) = true) : ∃ t x i, op = .indexAddr t x i ∧ (opdOk x y && opdOk i j && iaddrOk P t arr es) = true := by
  cases op <;> first
    | exact (Bool.false_ne_true hh).elim
    | exact ⟨_, rfl, hh⟩
    | exact ⟨_, _, rfl, hh⟩
    | exact ⟨_, _, _, rfl, hh⟩
    | exact ⟨_, _, _, _, _, rfl, hh⟩
    | (rename_i fn _ _; cases fn <;> exact (Bool.false_ne_true hh).elim)
theorem inv_conv {op : Op} {d : Nat} {c : AConv} {y : AOpd} (hh : chkOp P op (.conv d c y) = true) : ∃ src dst x, op = .convert src dst x ∧ (opdOk x y && convOk P src dst c) = true := by
  cases op <;> first
    | exact (Bool.false_ne_true hh).elim
    | exact ⟨_, rfl, hh⟩
    | exact ⟨_, _, rfl, hh⟩
    | exact ⟨_, _, _, rfl, hh⟩
    | exact ⟨_, _, _, _, _, rfl, hh⟩
    | (rename_i fn _ _; cases fn <;> exact (Bool.false_ne_true hh).elim)
theorem inv_box {op : Op} {d : Nat} {loc : Bool} {y : AOpd} (hh : chkOp P op (.box d loc y) = true) : ∃ t x, op = .box t x ∧ opdOk x y = true := by
  cases op <;> first
    | exact (Bool.false_ne_true hh).elim
    | exact ⟨_, rfl, hh⟩
    | exact ⟨_, _, rfl, hh⟩
    | exact ⟨_, _, _, rfl, hh⟩
    | exact ⟨_, _, _, _, _, rfl, hh⟩
    | (rename_i fn _ _; cases fn <;> exact (Bool.false_ne_true hh).elim)
theorem inv_alloc {op : Op} {d : Nat} {loc : Bool} {zero : List AVal} (hh : chkOp P op (.alloc d loc zero) = true) : ∃ t, op = .alloc t ∧ zeroOk P t zero = true := by
  cases op <;> first
    | exact (Bool.false_ne_true hh).elim
    | exact ⟨_, rfl, hh⟩
    | exact ⟨_, _, rfl, hh⟩
    | exact ⟨_, _, _, rfl, hh⟩
    | exact ⟨_, _, _, _, _, rfl, hh⟩
    | (rename_i fn _ _; cases fn <;> exact (Bool.false_ne_true hh).elim)
theorem inv_buildSl {op : Op} {d es len : Nat} {zero : List AVal} {as : List (Nat × AOpd)} (hh : chkOp P op (.buildSl d zero es len as) = true) : ∃ t len' parts, op = .buildSlice t len' parts ∧ (Nat.beq len' len && slPartsOk parts.toList as &&
    (match P.underlying t with | some (.slice e) => sizeIs P e es && zeroOk P e zero && Nat.beq zero.length es && Nat.ble (len' * es) 16777216 | _ => false)) = true := by
  cases op <;> first
    | exact (Bool.false_ne_true hh).elim
    | exact ⟨_, rfl, hh⟩
    | exact ⟨_, _, rfl, hh⟩
    | exact ⟨_, _, _, rfl, hh⟩
    | exact ⟨_, _, _, _, _, rfl, hh⟩
    | (rename_i fn _ _; cases fn <;> exact (Bool.false_ne_true hh).elim)
theorem inv_load {op : Op} {d m : Nat} {agg : Bool} {y : AOpd} (hh : chkOp P op (.load d agg m y) = true) : ∃ t x, op = .load t x ∧ (opdOk x y && aggOk P t agg m) = true := by
  cases op <;> first
    | exact (Bool.false_ne_true hh).elim
    | exact ⟨_, rfl, hh⟩
    | exact ⟨_, _, rfl, hh⟩
    | exact ⟨_, _, _, rfl, hh⟩
    | exact ⟨_, _, _, _, _, rfl, hh⟩
    | (rename_i fn _ _; cases fn <;> exact (Bool.false_ne_true hh).elim)
theorem inv_store {op : Op} {m : Nat} {agg : Bool} {y u : AOpd} (hh : chkOp P op (.store agg m y u) = true) : ∃ t x v, op = .store t x v ∧ (opdOk x y && opdOk v u && aggOk P t agg m) = true := by
  cases op <;> first
    | exact (Bool.false_ne_true hh).elim
    | exact ⟨_, rfl, hh⟩
    | exact ⟨_, _, rfl, hh⟩
    | exact ⟨_, _, _, rfl, hh⟩
    | exact ⟨_, _, _, _, _, rfl, hh⟩
    | (rename_i fn _ _; cases fn <;> exact (Bool.false_ne_true hh).elim)
theorem inv_mkSlice {op : Op} {d es bytes : Nat} {zero : List AVal} {l c : AOpd} (hh : chkOp P op (.mkSlice d es bytes zero l c) = true) : ∃ t l' c', op = .makeSlice t l' c' ∧ (opdOk l' l && opdOk c' c &&
    (match P.underlying t with | some (.slice e) => sizeIs P e es && bytesIs P e bytes && zeroOk P e zero && Nat.beq zero.length es | _ => false)) = true := by
  cases op <;> first
    | exact (Bool.false_ne_true hh).elim
    | exact ⟨_, rfl, hh⟩
    | exact ⟨_, _, rfl, hh⟩
    | exact ⟨_, _, _, rfl, hh⟩
    | exact ⟨_, _, _, _, _, rfl, hh⟩
    | (rename_i fn _ _; cases fn <;> exact (Bool.false_ne_true hh).elim)
theorem inv_call {op : Op} {d f : Nat} {args : List AOpd} (hh : chkOp P op (.call d f args) = true) : ∃ c, op = .call c ∧ chkCall P c (.call d f args) = true := by
  cases op <;> first
    | exact (Bool.false_ne_true hh).elim
    | exact ⟨_, rfl, hh⟩
    | exact ⟨_, _, rfl, hh⟩
    | exact ⟨_, _, _, rfl, hh⟩
    | exact ⟨_, _, _, _, _, rfl, hh⟩
    | (rename_i fn _ _; cases fn <;> exact (Bool.false_ne_true hh).elim)
theorem inv_callv {op : Op} {d : Nat} {fn : AOpd} {args : List AOpd} (hh : chkOp P op (.callv d fn args) = true) : ∃ c, op = .call c ∧ chkCall P c (.callv d fn args) = true := by
  cases op <;> first
    | exact (Bool.false_ne_true hh).elim
    | exact ⟨_, rfl, hh⟩
    | exact ⟨_, _, rfl, hh⟩
    | exact ⟨_, _, _, rfl, hh⟩
    | exact ⟨_, _, _, _, _, rfl, hh⟩
    | (rename_i fn _ _; cases fn <;> exact (Bool.false_ne_true hh).elim)
theorem inv_invoke {op : Op} {d : Nat} {tbl : List (Nat × Nat × Option (Nat × Nat × Bool))} {recv : AOpd} {args : List AOpd} (hh : chkOp P op (.invoke d tbl recv args) = true) : ∃ c, op = .call c ∧ chkCall P c (.invoke d tbl recv args) = true := by
  cases op <;> first
    | exact (Bool.false_ne_true hh).elim
    | exact ⟨_, rfl, hh⟩
    | exact ⟨_, _, rfl, hh⟩
    | exact ⟨_, _, _, rfl, hh⟩
    | exact ⟨_, _, _, _, _, rfl, hh⟩
    | (rename_i fn _ _; cases fn <;> exact (Bool.false_ne_true hh).elim)
theorem inv_append {op : Op} {d es bytes : Nat} {zero : List AVal} {zeros : Bool} {x y : AOpd} (hh : chkOp P op (.append d es bytes zero zeros x y) = true) : ∃ c, op = .call c ∧ chkCall P c (.append d es bytes zero zeros x y) = true := by
  cases op <;> first
    | exact (Bool.false_ne_true hh).elim
    | exact ⟨_, rfl, hh⟩
    | exact ⟨_, _, rfl, hh⟩
    | exact ⟨_, _, _, rfl, hh⟩
    | exact ⟨_, _, _, _, _, rfl, hh⟩
    | (rename_i fn _ _; cases fn <;> exact (Bool.false_ne_true hh).elim)
theorem inv_copy {op : Op} {d es : Nat} {x y : AOpd} (hh : chkOp P op (.copy d es x y) = true) : ∃ c, op = .call c ∧ chkCall P c (.copy d es x y) = true := by
  cases op <;> first
    | exact (Bool.false_ne_true hh).elim
    | exact ⟨_, rfl, hh⟩
    | exact ⟨_, _, rfl, hh⟩
    | exact ⟨_, _, _, rfl, hh⟩
    | exact ⟨_, _, _, _, _, rfl, hh⟩
    | (rename_i fn _ _; cases fn <;> exact (Bool.false_ne_true hh).elim)
theorem inv_clear {op : Op} {d : Nat} {zero : List AVal} {x : AOpd} (hh : chkOp P op (.clear d zero x) = true) : ∃ c, op = .call c ∧ chkCall P c (.clear d zero x) = true := by
  cases op <;> first
    | exact (Bool.false_ne_true hh).elim
    | exact ⟨_, rfl, hh⟩
    | exact ⟨_, _, rfl, hh⟩
    | exact ⟨_, _, _, rfl, hh⟩
    | exact ⟨_, _, _, _, _, rfl, hh⟩
    | (rename_i fn _ _; cases fn <;> exact (Bool.false_ne_true hh).elim)
end inversions

variable {B n : Nat} {φ0 : Phi} {h0 : Heap} {w0 : World} {φ : Phi} {L : Nat → Nat} {s : Env} {h : Heap} {a : Act} {w : World}

theorem In.big (I : In B n φ0 h0 w0 φ L s h a w) : B ≤ w.heap.size := by have := I.step.size; have := I.base; omega

theorem In.put (I : In B n φ0 h0 w0 φ L s h a w) {φ' : Phi} {h' : Heap} {w' : World} (S : Step φ h w φ' h' w') (H : HRel φ' h' w') {d : Nat} (hd : d < n) {v : AVal} {u : Value} (hv : VRel φ' v u) :
    In B n φ0 h0 w0 φ' L (s.set d v) h' (a.put (some d) u) w' :=
  ⟨(I.rel.step S H).set hd hv, I.step.trans I.dom S, I.base, I.dom⟩

theorem lad_spec (c : CRel B n φ L s h a w) {x : Operand} {y : AOpd} (ho : opdOk x y = true) {l off : Nat} (hl : s.lad y = some (l, off)) : (∃ cs, lookB s.locs l = some cs) ∧ a.eval x = .pointer (some ⟨L l, off, none⟩) := by
  cases y with
  | tmp t =>
    cases x <;> simp only [opdOk] at ho <;> first | (cases ho; done) | skip
    rename_i u
    have := Nat.eq_of_beq_eq_true ho
    subst this
    exact c.lads _ _ _ hl
  | const v => simp [Env.lad] at hl

theorem wp_value {o : Oper} {u : Value} {w' : World} {K : Act → World → Prop} {Q : Exit → Act → World → Prop} (h : (execOp a.eval o).run P w = .ok (.value u) w') (hk : K (a.put o.dst u) w') : o.wp P a w K Q := by
  unfold Oper.wp
  rw [h]
  exact hk

/-- What one operation may have done. -/
structure Step1 (φ : Phi) (h : Heap) (w : World) (φ' : Phi) (h' : Heap) (w' : World) : Prop where
  ext : Ext φ φ'
  next : h.next ≤ h'.next
  old : ∀ b x', b < h.next → h'.blk b = some x' → ∃ x, h.blk b = some x ∧ x.rw = x'.rw
  new : ∀ b L, φ b = none → φ' b = some L → h.next ≤ b ∧
    (w.heap.size ≤ L.blk ∨ ∃ b0 x0 L0, h.blk b0 = some x0 ∧ x0.rw = true ∧ φ b0 = some L0 ∧ L0.blk = L.blk)
  size : w.heap.size ≤ w'.heap.size
  keep : ∀ b, b < h.next → φ b = none → h'.blk b = h.blk b
  frame : ∀ k b0 L0, k < w.heap.size → φ b0 = some L0 → L0.blk = k → (∀ b x L, h.blk b = some x → x.rw = true → φ b = some L → L.blk ≠ k) → w'.heap[k]? = w.heap[k]?

theorem Step.one {φ φ' : Phi} {h h' : Heap} {w w' : World} (S : Step φ h w φ' h' w') : Step1 φ h w φ' h' w' := ⟨S.ext, S.next, S.old, S.new, S.size, S.keep, fun k _ _ hk _ _ hf => S.frame k hk hf⟩

/-- What an abstract step answers, and what the model does. -/
def Good (P : Program) (B n : Nat) (φ0 : Phi) (h0 : Heap) (w0 : World) (φ : Phi) (h : Heap) (a : Act) (w : World) (o : Oper) (s' : Env) (h' : Heap) : Prop :=
  ∀ (K : Act → World → Prop) (Q : Exit → Act → World → Prop), (∀ φ' L' a' w', In B n φ0 h0 w0 φ' L' s' h' a' w' → Step1 φ h w φ' h' w' → K a' w') → o.wp P a w K Q

theorem good_pure (I : In B n φ0 h0 w0 φ L s h a w) {o : Oper} {ao : AOp} (hchk : chkOp P o.op ao = true) {d : Nat} (hdst : o.dst = some d) (hd : d < n) {v : AVal} (hv : pureOp ao s.ev = some v) :
    Good P B n φ0 h0 w0 φ h a w o (s.set d v) h := by
  intro K Q hk
  obtain ⟨u, hu, hr⟩ := pure_exec w (φ := φ) (ρ := a.eval) hchk (fun x y hxy => opd_rel I.rel hxy) hv
  refine wp_value hu ?_
  rw [hdst]
  exact hk φ L _ _ (I.put (Step.refl _ _ _) I.rel.heap hd hr) (Step.refl _ _ _).one

theorem good_okto (I : In B n φ0 h0 w0 φ L s h a w) {o : Oper} {d : Nat} (hdst : o.dst = some d) (hd : d < n) {sem : Sem Value} (he : execOp a.eval o = (do pure (.value (← sem)))) {v : AVal} {h' : Heap} (ok : OkTo P φ h w sem v h') :
    Good P B n φ0 h0 w0 φ h a w o (s.set d v) h' := by
  intro K Q hk
  obtain ⟨u, w', φ', hu, hr, H, S⟩ := ok
  refine wp_value (u := u) (w' := w') (by rw [he, Sem.run_bind, hu]; rfl) ?_
  rw [hdst]
  exact hk φ' L _ _ (I.put S H hd hr) S.one

/-- A step that makes an address within a local block. -/
theorem good_lad (I : In B n φ0 h0 w0 φ L s h a w) {o : Oper} {d : Nat} (hdst : o.dst = some d) (hd : d < n) {l off : Nat} {cs : List AVal} (hl : lookB s.locs l = some cs) (he : (execOp a.eval o).run P w = .ok (.value (.pointer (some ⟨L l, off, none⟩))) w) :
    Good P B n φ0 h0 w0 φ h a w o (s.setL d l off) h := by
  intro K Q hk
  refine wp_value he ?_
  rw [hdst]
  exact hk φ L _ _ ⟨I.rel.setL hd hl, I.step, I.base, I.dom⟩ (Step.refl _ _ _).one

theorem good_call (I : In B n φ0 h0 w0 φ L s h a w) {call : Call} (hcall : CallOk P call) {o : Oper} {d : Nat} (hdst : o.dst = some d) (hd : d < n) {f : Nat} {args : List AVal} {vs : Array Value} (hvs : VRels φ args vs.toList)
    (he : (execOp a.eval o).run P w = (callFunc f vs).run P w) {v : AVal} {h' : Heap} (hc : call f args h = some (v, h')) : Good P B n φ0 h0 w0 φ h a w o (s.set d v) h' := by
  intro K Q hk
  rcases hcall f args h v h' hc φ w vs I.rel.heap hvs with ⟨c1, c2⟩ | ⟨φ', u, w', c1, hr, H, S⟩
  case inr =>
    refine wp_value (he.trans c1) ?_
    rw [hdst]
    exact hk φ' L _ _ (I.put S H hd hr) S.one
  unfold Oper.wp
  rw [he, c1, Oper.upon_enter]
  refine c2.mono ?_
  rintro e w' ⟨φ', u, rfl, hr, H, S⟩
  simp only [hdst]
  exact hk φ' L _ _ (I.put S H hd hr) S.one

theorem args_rel (c : CRel B n φ L s h a w) {xs : Array Operand} {ys : List AOpd} (h : opdsOk xs.toList ys = true) : VRels φ (ys.map s.ev) (xs.map a.eval).toList := by
  rw [Array.toList_map]
  exact opds_rel (fun x y hxy => opd_rel c hxy) h

/-- A local block's cells, read. -/
theorem loc_rd (c : CRel B n φ L s h a w) {l off m : Nat} {cs0 cs : List AVal} (hl : lookB s.locs l = some cs0) (e : rdL cs0 off m = some cs) :
    ∃ us : List Value, VRels φ cs us ∧ (∀ u ∈ us, u.oneCell' = true) ∧ us.length = m ∧ ∀ (j : Nat) (u : Value), us[j]? = some u → w.cell? ⟨L l, off + j, none⟩ = some u := by
  obtain ⟨_, _, _, cc, t, h4, h5, h6⟩ := c.locs l cs0 hl
  have hl5 := VRels.length h5
  simp only [Array.length_toList] at hl5
  unfold rdL at e
  cases hb : Nat.ble (off + m) cs0.length with
  | false => rw [hb] at e; cases e
  | true =>
    rw [hb] at e
    cases e
    have hle := Nat.le_of_ble_eq_true hb
    refine ⟨(cc.toList.drop off).take m, VRels.take m (VRels.drop off h5), fun u hu => h6 u (List.mem_of_mem_drop (List.mem_of_mem_take hu)), by simp; omega, ?_⟩
    intro j u hj
    rw [List.getElem?_take] at hj
    split at hj
    · rw [List.getElem?_drop, Array.getElem?_toList] at hj
      simp only [World.cell?, h4]
      simpa using hj
    · cases hj

theorem loadVar_of {t : TypeId} {agg : Bool} {m : Nat} (ht : aggOk P t agg m = true) {g off : Nat} {us : List Value} {cs : List AVal} (u1 : VRels φ cs us) (u2 : ∀ u ∈ us, u.oneCell' = true) (u3 : us.length = m) (u4 : ∀ (j : Nat) (u : Value), us[j]? = some u → w.cell? ⟨g, off + j, none⟩ = some u)
    {r : AVal} (hf : fromCells agg cs = some r) : ∃ u, (loadVar t ⟨g, off, none⟩).run P w = .ok u w ∧ VRel φ r u := by
  obtain ⟨h1, h2, h3⟩ := run_aggOk w ht
  have hld : (loadCells ⟨g, off, none⟩ m).run P w = .ok us.toArray w := by rw [← u3]; exact loadCells_of u4
  cases agg with
  | true =>
    simp only [fromCells, Option.some.injEq] at hf
    subst hf
    exact ⟨.agg us.toArray, by simp [loadVar, h1, h2, hld], vrel_agg.2 ⟨_, rfl, by simpa using u1, by simpa using u2⟩⟩
  | false =>
    have hn := h3 rfl
    subst hn
    match us, u3 with
    | [u], _ =>
      match cs, u1 with
      | [c], u1 =>
        simp only [fromCells, Option.some.injEq] at hf
        subst hf
        simp only [VRels, and_true] at u1
        have hc := u4 0 u rfl
        simp only [Nat.add_zero] at hc
        exact ⟨u, by simp [loadVar, h1, hc], u1⟩
      | [], u1 => simp [VRels] at u1
      | _ :: _ :: _, u1 => simp [VRels] at u1

theorem lookM_mem : ∀ {tbl : List (Nat × Nat × Option (Nat × Nat × Bool))} {t : Nat} {e : Nat × Option (Nat × Nat × Bool)}, lookM tbl t = some e → (t, e) ∈ tbl
  | [], _, _, h => by simp [lookM] at h
  | (u, v) :: r, t, e, h => by
    rw [show lookM ((u, v) :: r) t = bif Nat.beq u t then some v else lookM r t from rfl] at h
    cases hb : Nat.beq u t with
    | true =>
      rw [hb] at h
      cases h
      have := Nat.eq_of_beq_eq_true hb
      subst this
      exact List.mem_cons_self
    | false =>
      rw [hb] at h
      exact List.mem_cons_of_mem _ (lookM_mem h)

/-- Which function a method call through an interface value finds. -/
theorem method_rel (w : World) {name : String} {t f : Nat} {mode : Option (Nat × Nat × Bool)} (hm : methOk P name t (f, mode) = true) {x rv : AVal} {y : Value} (hy : VRel φ x y)
    (hmode : (mode = none ∧ rv = x) ∨ ∃ off m agg cs, mode = some (off, m, agg) ∧ aField off m x = some cs ∧ fromCells agg cs = some rv) :
    ∃ u, (method (P.types.size + Made.depth) t y name).run P w = .ok (f, u) w ∧ VRel φ rv u := by
  have hpos : 0 < Made.depth := by decide
  obtain ⟨k, hk⟩ : ∃ k, P.types.size + Made.depth = k + 1 := ⟨P.types.size + Made.depth - 1, by omega⟩
  rw [hk]
  unfold methOk at hm
  split at hm
  · cases hm
  · rename_i i hi
    split at hm
    · cases hm
    · rename_i m hf
      split at hm
      · cases hm
      · rename_i f2 pr hfu
        simp only [Bool.and_eq_true] at hm
        obtain ⟨e1, hm⟩ := hm
        have e1 := Nat.eq_of_beq_eq_true e1
        subst e1
        split at hm
        · rename_i hp
          rcases hmode with ⟨_, rfl⟩ | ⟨_, _, _, _, h1, _⟩
          · refine ⟨y, ?_, hy⟩
            simp only [method, Sem.run_bind, run_typeInfo w hi, Result.andThen_ok, hf, hp, follow, Sem.run_pure, hfu]
            split at hm
            · rename_i e hu
              subst hm
              simp [receiverAt, run_underlying hu, Place.get]
            · rename_i dd hne hu
              have hm : pr = false := by simpa using hm
              subst hm
              cases dd <;> first
                | (exact absurd rfl (hne _))
                | (simp [receiverAt, run_underlying hu, Place.get]; done)
            · cases hm
          · cases h1
        · rename_i s off m2 agg hp
          rcases hmode with ⟨h1, _⟩ | ⟨off', m', agg', cs, h1, h2, h3⟩
          · cases h1
          · cases h1
            simp only [Bool.and_eq_true, Bool.not_eq_true'] at hm
            obtain ⟨⟨⟨hd, hag⟩, hone⟩, hm⟩ := hm
            have hone := Nat.eq_of_beq_eq_true hone
            subst hone; subst hag
            unfold aField at h2
            split at h2
            · rename_i as
              obtain ⟨vs, rfl, hr, ho⟩ := vrel_agg.1 hy
              split at hm
              · rename_i fs hu
                split at hm
                · rename_i fl hfl
                  simp only [Bool.and_eq_true] at hm
                  have e2 := Nat.eq_of_beq_eq_true hm.1
                  subst e2
                  have hm2 := hm.2
                  split at hm2
                  · rename_i e hue
                    subst hm2
                    have hagg : ∃ u, (part fl.type vs fl.offset).run P w = .ok u w ∧ VRel φ rv u := by
                      unfold rdL at h2
                      cases hb : Nat.ble (fl.offset + 1) as.length with
                      | false => rw [hb] at h2; cases h2
                      | true =>
                        rw [hb] at h2
                        cases h2
                        have hle := Nat.le_of_ble_eq_true hb
                        have hl := VRels.length hr
                        simp only [Array.length_toList] at hl
                        have hlt : fl.offset < as.length := by omega
                        rw [List.drop_eq_getElem_cons hlt] at h3
                        simp only [List.take_succ_cons, List.take_zero, fromCells, Option.some.injEq] at h3
                        subst h3
                        obtain ⟨u, hu1, hu2⟩ := VRels.get hr fl.offset _ (List.getElem?_eq_getElem hlt)
                        rw [Array.getElem?_toList] at hu1
                        exact ⟨u, by simp [part, isAgg, run_underlying hue, hu1], hu2⟩
                    obtain ⟨u, hu1, hu2⟩ := hagg
                    refine ⟨u, ?_, hu2⟩
                    simp only [method, Sem.run_bind, run_typeInfo w hi, Result.andThen_ok, hf, hp, follow, Sem.run_pure, hfu, run_underlying hu, hfl, hd, Bool.false_eq_true, if_false, hu1]
                    simp [receiverAt, run_underlying hue, Place.get]
                  · cases hm2
                · cases hm
              · cases hm
            · cases h2
        · cases hm

theorem stepOp_sound {call : Call} (hcall : CallOk P call) {o : Oper} {ao : AOp} (hnf : isFl ao = false) (hchk : chkOp P o.op ao = true) (hdst : o.dst = opDst ao) (hlt : ∀ d, opDst ao = some d → d < n) {g : Bool} {k : Env → Heap → Option J} {r : J}
    (hrun : stepOp call g ao s h k = some r) (I : In B n φ0 h0 w0 φ L s h a w) : ∃ s' h', k s' h' = some r ∧ Good P B n φ0 h0 w0 φ h a w o s' h' := by
  have hpure : ∀ d, opDst ao = some d → ((pureOp ao s.ev).bind fun v => k (s.set d v) h) = some r → ∃ s' h', k s' h' = some r ∧ Good P B n φ0 h0 w0 φ h a w o s' h' := by
    intro d hd he
    simp only [Option.bind_eq_some_iff] at he
    obtain ⟨v, hv, he⟩ := he
    exact ⟨_, _, he, good_pure I hchk (by rw [hdst, hd]) (hlt d hd) hv⟩
  cases ao with
  | pick d c x y => exact hpure d rfl hrun
  | bin d op tag x y => exact hpure d rfl hrun
  | un d op x => exact hpure d rfl hrun
  | build d zero parts =>
    refine hpure d rfl ?_
    simp only [stepOp, Option.bind_eq_some_iff] at hrun
    obtain ⟨cs, h1, h2⟩ := hrun
    simp only [pureOp, h1, Option.bind_some]
    exact h2
  | field d agg off m x =>
    refine hpure d rfl ?_
    simp only [stepOp, Option.bind_eq_some_iff] at hrun
    obtain ⟨cs, h1, v, h2, h3⟩ := hrun
    simp only [pureOp, h1, Option.bind_some, h2]
    exact h3
  | index d kk x i =>
    cases kk with
    | str => exact hpure d rfl hrun
    | arr len es agg =>
      refine hpure d rfl ?_
      simp only [stepOp, Option.bind_eq_some_iff] at hrun
      obtain ⟨cs, h1, v, h2, h3⟩ := hrun
      simp only [pureOp, h1, Option.bind_some, h2]
      exact h3
  | slice d kk x lo hi mx => cases kk <;> exact hpure d rfl hrun
  | mkIface d t x => exact hpure d rfl hrun
  | extract d x i => exact hpure d rfl hrun
  | tassert d tbl x => exact hpure d rfl hrun
  | mkFunc d f caps => exact hpure d rfl hrun
  | len d str x => exact hpure d rfl hrun
  | cap d x => exact hpure d rfl hrun
  | minmax d mx xs => exact hpure d rfl hrun
  | fl d j sl zero parts => cases hnf
  | mov d x =>
    simp only [stepOp] at hrun
    split at hrun
    · rename_i l off hl
      refine ⟨_, _, hrun, ?_⟩
      obtain ⟨dst, op, type, pos, after, guard⟩ := o
      simp only at hchk hdst
      have hx : ∃ x', (op = .move x' ∨ op = .assign x') ∧ opdOk x' x = true := by
        unfold chkOp at hchk
        split at hchk <;> first | (rename_i e; cases e; done) | (cases hchk; done) | skip
        · rename_i e; cases e; exact ⟨_, .inl rfl, hchk⟩
        · rename_i e; cases e; exact ⟨_, .inr rfl, hchk⟩
      obtain ⟨x', hop, hx⟩ := hx
      obtain ⟨⟨cs, hcs⟩, hv⟩ := lad_spec I.rel hx hl
      refine good_lad I hdst (hlt d rfl) hcs ?_
      rcases hop with rfl | rfl <;> simp [execOp, hv]
    · exact hpure d rfl (by simpa [pureOp] using hrun)
  | nilchk d x =>
    simp only [stepOp] at hrun
    split at hrun
    · rename_i l off hl
      refine ⟨_, _, hrun, ?_⟩
      obtain ⟨x', hop, hx⟩ := inv_nilchk hchk
      obtain ⟨⟨cs, hcs⟩, hv⟩ := lad_spec I.rel hx hl
      exact good_lad I hdst (hlt d rfl) hcs (by simp [execOp, hop, hv])
    · exact hpure d rfl (by simpa [pureOp] using hrun)
  | faddr d off x =>
    simp only [stepOp] at hrun
    split at hrun
    · rename_i l o1 hl
      refine ⟨_, _, hrun, ?_⟩
      obtain ⟨t, x', f, hop, hx⟩ := inv_faddr hchk
      simp only [Bool.and_eq_true] at hx
      obtain ⟨⟨cs, hcs⟩, hv⟩ := lad_spec I.rel hx.1 hl
      have hc := hx.2
      split at hc
      · rename_i fs hu
        split at hc
        · rename_i fl hfl
          simp only [Bool.and_eq_true] at hc
          have e' := Nat.eq_of_beq_eq_true hc.1
          subst e'
          have hc2 := hc.2
          split at hc2
          · rename_i sz hsz
            have hs := run_sizeOf' w (n := sz + 1) hsz
            exact good_lad I hdst (hlt d rfl) hcs (by simp [execOp, hop, hv, Instr.fieldAt, run_underlying hu, hfl, Instr.sureAddr, fieldPlace, hs, addr_add])
          · cases hc2
        · cases hc
      · cases hc
    · exact hpure d rfl (by simpa [pureOp] using hrun)
  | iaddr d arr es x i =>
    cases arr with
    | none => exact hpure d rfl (by simpa [stepOp, pureOp] using hrun)
    | some len =>
      simp only [stepOp] at hrun
      split at hrun
      · rename_i l o1 hl
        simp only [Option.bind_eq_some_iff] at hrun
        obtain ⟨j, hj, hrun⟩ := hrun
        refine ⟨_, _, hrun, ?_⟩
        obtain ⟨t, x', i', hop, hx⟩ := inv_iaddr hchk
        simp only [Bool.and_eq_true] at hx
        obtain ⟨⟨cs, hcs⟩, hv⟩ := lad_spec I.rel hx.1.1 hl
        have hi := opd_rel I.rel hx.1.2
        have hc := hx.2
        unfold iaddrOk at hc
        split at hc
        · rename_i len2 e len' hu he
          cases he
          simp only [Bool.and_eq_true, sizeIs, decide_eq_true_eq] at hc
          have e' := Nat.eq_of_beq_eq_true hc.1
          subst e'
          obtain ⟨kk, nn, hn, h0, h1, rfl⟩ := aIdx_spec hj
          rw [hn, vrel_int] at hi
          have hs := run_sizeOf' w hc.2
          exact good_lad I hdst (hlt d rfl) hcs (by simp [execOp, hop, hv, hi, Instr.indexAt, asIntOf, run_underlying hu, Instr.sureAddr, h0, h1, hs, addr_add])
        · rename_i he; cases he
        · cases hc
      · exact hpure d rfl (by simpa [pureOp] using hrun)
  | conv d c x =>
    simp only [stepOp, Option.bind_eq_some_iff] at hrun
    obtain ⟨⟨v, h'⟩, hv, hrun⟩ := hrun
    refine ⟨_, _, hrun, ?_⟩
    obtain ⟨src, dst, x', hop, hx⟩ := inv_conv hchk
    simp only [Bool.and_eq_true] at hx
    exact good_okto I hdst (hlt d rfl) (by simp only [execOp, hop]) (conv_rel I.rel.heap hx.2 (opd_rel I.rel hx.1) hv)
  | box d loc x =>
    obtain ⟨t, x', hop, hx⟩ := inv_box hchk
    cases loc with
    | true =>
      simp only [stepOp] at hrun
      cases hb : (!g && s.fresh d) with
      | false => rw [hb] at hrun; cases hrun
      | true =>
        rw [hb] at hrun
        simp only [cond_true, Option.bind_eq_some_iff] at hrun
        obtain ⟨cs, hcs, hrun⟩ := hrun
        refine ⟨_, _, hrun, ?_⟩
        simp only [Bool.and_eq_true] at hb
        obtain ⟨c1, c2⟩ := cells_rel (opd_rel I.rel hx) hcs
        obtain ⟨C, S⟩ := I.rel.newLoc I.big (hlt d rfl) hb.2 c1 c2 t
        intro K Q hk
        refine wp_value (u := .pointer (some ⟨w.heap.size, 0, none⟩)) (w' := w.alloc (.cells (a.eval x').cells t)) (by simp [execOp, hop, Instr.box, newVar, newRow]) ?_
        rw [hdst]
        exact hk _ _ _ _ ⟨C, I.step.trans I.dom S, I.base, I.dom⟩ S.one
    | false =>
      simp only [stepOp, Option.bind_eq_some_iff] at hrun
      obtain ⟨cs, hcs, hrun⟩ := hrun
      refine ⟨_, _, hrun, ?_⟩
      exact good_okto I hdst (hlt d rfl) (by simp only [execOp, hop]) (box_rel I.rel.heap t (opd_rel I.rel hx) hcs)
  | alloc d loc zero =>
    obtain ⟨t, hop, hz⟩ := inv_alloc hchk
    cases loc with
    | true =>
      simp only [stepOp] at hrun
      cases hb : (!g && s.fresh d) with
      | false => rw [hb] at hrun; cases hrun
      | true =>
        rw [hb] at hrun
        simp only [cond_true] at hrun
        refine ⟨_, _, hrun, ?_⟩
        simp only [Bool.and_eq_true] at hb
        obtain ⟨z, hz1, c1, c2⟩ := zero_rel (P := P) w hz φ
        obtain ⟨C, S⟩ := I.rel.newLoc I.big (hlt d rfl) hb.2 c1 c2 t
        intro K Q hk
        refine wp_value (u := .pointer (some ⟨w.heap.size, 0, none⟩)) (w' := w.alloc (.cells z.cells t)) (by simp [execOp, hop, Instr.alloc, hz1, newVar, newRow]) ?_
        rw [hdst]
        exact hk _ _ _ _ ⟨C, I.step.trans I.dom S, I.base, I.dom⟩ S.one
    | false =>
      simp only [stepOp] at hrun
      refine ⟨_, _, hrun, ?_⟩
      exact good_okto I hdst (hlt d rfl) (by simp only [execOp, hop]) (alloc_rel I.rel.heap hz)
  | buildSl d zero es len parts =>
    simp only [stepOp, Option.bind_eq_some_iff] at hrun
    obtain ⟨cs, hcs, hrun⟩ := hrun
    refine ⟨_, _, hrun, ?_⟩
    obtain ⟨t, len', parts', hop, hc⟩ := inv_buildSl hchk
    simp only [Bool.and_eq_true] at hc
    obtain ⟨⟨e1, hp⟩, hc⟩ := hc
    have e1 := Nat.eq_of_beq_eq_true e1
    subst e1
    split at hc
    · rename_i e hu
      simp only [Bool.and_eq_true, sizeIs, decide_eq_true_eq] at hc
      exact good_okto I hdst (hlt d rfl) (by simp only [execOp, hop]) (buildSl_rel I.rel.heap (fun x y hxy => opd_rel I.rel hxy) hu hc.1.1.1 hc.1.1.2 (Nat.eq_of_beq_eq_true hc.1.2) (Nat.le_of_ble_eq_true hc.2) hp hcs)
    · cases hc
  | load d agg m x =>
    obtain ⟨t, x', hop, hc⟩ := inv_load hchk
    simp only [Bool.and_eq_true] at hc
    simp only [stepOp] at hrun
    split at hrun
    · rename_i l off hl
      simp only [Option.bind_eq_some_iff] at hrun
      obtain ⟨cs, ⟨cs0, hl0, hcs⟩, v, hv, hrun⟩ := hrun
      refine ⟨_, _, hrun, ?_⟩
      obtain ⟨_, hxv⟩ := lad_spec I.rel hc.1 hl
      obtain ⟨us, u1, u2, u3, u4⟩ := loc_rd I.rel hl0 hcs
      obtain ⟨u, hu, hr⟩ := loadVar_of (P := P) (w := w) hc.2 u1 u2 u3 u4 hv
      intro K Q hk
      refine wp_value (u := u) (w' := w) (by simp [execOp, hop, hxv, Instr.loadAt, Instr.sureAddr, hu]) ?_
      rw [hdst]
      exact hk φ L _ _ (I.put (Step.refl _ _ _) I.rel.heap (hlt d rfl) hr) (Step.refl _ _ _).one
    · simp only [Option.bind_eq_some_iff] at hrun
      obtain ⟨cs, hcs, v, hv, hrun⟩ := hrun
      refine ⟨_, _, hrun, ?_⟩
      obtain ⟨u, hu, hr⟩ := load_rel I.rel.heap hc.2 (opd_rel I.rel hc.1) hcs hv
      intro K Q hk
      refine wp_value (u := u) (w' := w) (by simp [execOp, hop, hu]) ?_
      rw [hdst]
      exact hk φ L _ _ (I.put (Step.refl _ _ _) I.rel.heap (hlt d rfl) hr) (Step.refl _ _ _).one
  | store agg m x v =>
    obtain ⟨t, x', v', hop, hc⟩ := inv_store hchk
    simp only [Bool.and_eq_true] at hc
    simp only [stepOp, Option.bind_eq_some_iff] at hrun
    obtain ⟨cs, hcs, hrun⟩ := hrun
    have hput : ∀ u, a.put o.dst u = a := fun u => by rw [hdst]; rfl
    split at hrun
    · rename_i l off hl
      cases g with
      | true => cases hrun
      | false =>
        simp only [Bool.not_false, cond_true, Option.bind_eq_some_iff] at hrun
        obtain ⟨old, hold, hrun⟩ := hrun
        cases hb : Nat.ble (off + m) old.length with
        | false => rw [hb] at hrun; cases hrun
        | true =>
          rw [hb] at hrun
          refine ⟨_, _, hrun, ?_⟩
          have hle := Nat.le_of_ble_eq_true hb
          obtain ⟨_, hxv⟩ := lad_spec I.rel hc.1.1 hl
          obtain ⟨c1, c2, c3, c4⟩ := aCells_rel (opd_rel I.rel hc.1.2) hcs
          obtain ⟨_, hsz, _⟩ := run_aggOk w hc.2
          obtain ⟨w', hst, C, hoth, hW⟩ := CRel.locWr (P := P) (off := off) I.rel hold c1 c2 (by omega)
          obtain ⟨w1, w2, w3, w4, w5⟩ := hW w0 I.base
          intro K Q hk
          have hrun' : (execOp a.eval o).run P w = .ok .skip w' := by
            simp [execOp, hop, hxv, Instr.storeAt, Instr.sureAddr, storeVar, hsz, c3, hst]
          unfold Oper.wp
          rw [hrun', Oper.upon_skip, hput]
          refine hk φ L _ _ ⟨C, ?_, I.base, I.dom⟩ ⟨Ext.refl _, Nat.le_refl _, fun b x _ hx => ⟨x, hx, rfl⟩, fun _ _ h1 h2 => (by rw [h1] at h2; cases h2), w2, fun _ _ _ => rfl, fun k b0 L0 _ h1 h2 _ => hoth k (by
            obtain ⟨_, _, g3, _⟩ := I.rel.locs l old hold
            intro e
            exact g3 b0 L0 h1 (h2.trans e))⟩
          have S := I.step
          exact ⟨S.ext, S.next, S.old, S.new, Nat.le_trans S.size w2, S.keep, fun k hk hf => by rw [w1 k (by have := I.base; omega)]; exact S.frame k hk hf, w3.trans S.os, w4.trans S.tape, w5.trans S.output⟩
    · simp only [Option.bind_eq_some_iff] at hrun
      obtain ⟨h', hh', hrun⟩ := hrun
      refine ⟨_, _, hrun, ?_⟩
      obtain ⟨w', hst, H, S⟩ := store_rel I.rel.heap hc.2 (opd_rel I.rel hc.1.1) (opd_rel I.rel hc.1.2) hcs hh'
      intro K Q hk
      have hrun' : (execOp a.eval o).run P w = .ok .skip w' := by
        simp [execOp, hop, hst]
      unfold Oper.wp
      rw [hrun', Oper.upon_skip, hput]
      exact hk φ L _ _ ⟨I.rel.step S H, I.step.trans I.dom S, I.base, I.dom⟩ S.one
  | mkSlice d es bytes zero len cap =>
    simp only [stepOp, Option.bind_eq_some_iff] at hrun
    obtain ⟨⟨v, h'⟩, hv, hrun⟩ := hrun
    refine ⟨_, _, hrun, ?_⟩
    obtain ⟨t, l', c', hop, hc⟩ := inv_mkSlice hchk
    simp only [Bool.and_eq_true] at hc
    obtain ⟨⟨x1, x2⟩, hc⟩ := hc
    split at hc
    · rename_i e hu
      simp only [Bool.and_eq_true, sizeIs, bytesIs, decide_eq_true_eq] at hc
      exact good_okto I hdst (hlt d rfl) (by simp only [execOp, hop]) (make_rel I.rel.heap hu hc.1.1.1 hc.1.1.2 hc.1.2 (Nat.eq_of_beq_eq_true hc.2) (opd_rel I.rel x1) (opd_rel I.rel x2) hv)
    · cases hc
  | call d f args =>
    simp only [stepOp, Option.bind_eq_some_iff] at hrun
    obtain ⟨⟨v, h'⟩, hv, hrun⟩ := hrun
    refine ⟨_, _, hrun, ?_⟩
    obtain ⟨c, hop, hc⟩ := inv_call hchk
    simp only [chkCall] at hc
    split at hc
    · rename_i f' hcal
      simp only [Bool.and_eq_true] at hc
      have e := Nat.eq_of_beq_eq_true hc.1
      subst e
      refine good_call I hcall hdst (hlt d rfl) (args_rel I.rel hc.2) ?_ hv
      simp [execOp, hop, resolve, hcal, Act.eval, Deferred.ofValue, invoke]
    · cases hc
  | callv d fn args =>
    simp only [stepOp, Option.bind_eq_some_iff] at hrun
    obtain ⟨⟨f, caps⟩, hfn, ⟨v, h'⟩, hv, hrun⟩ := hrun
    refine ⟨_, _, hrun, ?_⟩
    obtain ⟨c, hop, hc⟩ := inv_callv hchk
    simp only [chkCall] at hc
    split at hc
    · rename_i t hcal
      simp only [Bool.and_eq_true] at hc
      have hf := opd_rel I.rel hc.1
      unfold aFn at hfn
      split at hfn
      · rename_i f2 c2 hev
        cases hfn
        rw [hev] at hf
        obtain ⟨cs, hval, hcs⟩ := vrel_func.1 hf
        have hargs := args_rel I.rel hc.2
        refine good_call I hcall hdst (hlt d rfl) (vs := c.args.map a.eval ++ cs) (by rw [Array.toList_append]; exact VRels.append hargs hcs) ?_ hv
        simp only [execOp, hop, resolve, hcal, hval, Deferred.ofValue, invoke, Sem.run_bind, Sem.run_pure, Result.andThen_ok]
        simp
      · cases hfn
    · cases hc
  | invoke d tbl recv args =>
    simp only [stepOp, Option.bind_eq_some_iff] at hrun
    obtain ⟨⟨f, rv⟩, hfn, ⟨v, h'⟩, hv, hrun⟩ := hrun
    refine ⟨_, _, hrun, ?_⟩
    obtain ⟨c, hop, hc⟩ := inv_invoke hchk
    simp only [chkCall] at hc
    split at hc
    · rename_i rc name hcal
      simp only [Bool.and_eq_true, List.all_eq_true] at hc
      obtain ⟨⟨o1, o2⟩, htbl⟩ := hc
      have hr := opd_rel I.rel o1
      unfold aMeth at hfn
      split at hfn
      · rename_i t x hev
        rw [hev] at hr
        obtain ⟨y, hval, hy⟩ := vrel_iface.1 hr
        obtain ⟨mode, hlk, hmode⟩ : ∃ mode, lookM tbl t = some (f, mode) ∧ ((mode = none ∧ rv = x) ∨ ∃ off m agg cs, mode = some (off, m, agg) ∧ aField off m x = some cs ∧ fromCells agg cs = some rv) := by
          split at hfn
          · rename_i f2 hl; cases hfn; exact ⟨none, hl, .inl ⟨rfl, rfl⟩⟩
          · rename_i f2 off m agg hl
            simp only [Option.bind_eq_some_iff, Option.some.injEq, Prod.mk.injEq] at hfn
            obtain ⟨cs, h1, r2, h2, rfl, rfl⟩ := hfn
            exact ⟨some (off, m, agg), hl, .inr ⟨off, m, agg, cs, rfl, h1, h2⟩⟩
          · cases hfn
        obtain ⟨u, hu, hur⟩ := method_rel w (htbl _ (lookM_mem hlk)) hy hmode
        have hargs := args_rel I.rel o2
        refine good_call I hcall hdst (hlt d rfl) (vs := #[u] ++ c.args.map a.eval) (by
          rw [show (#[u] ++ c.args.map a.eval).toList = u :: (c.args.map a.eval).toList by rw [Array.toList_append]; rfl]
          exact (show VRel φ rv u ∧ VRels φ (args.map s.ev) _ from ⟨hur, hargs⟩)) ?_ hv
        have hex : (#[a.eval rc] ++ c.args.map a.eval).extract 1 (#[a.eval rc] ++ c.args.map a.eval).size = c.args.map a.eval := by
          apply Array.ext'
          rw [Array.toList_extract, List.extract_eq_take_drop]
          simp only [Array.toList_append, List.cons_append, List.nil_append, List.drop_succ_cons, List.drop_zero]
          exact List.take_of_length_le (by simp)
        have h0' : (#[a.eval rc] ++ c.args.map a.eval)[0]? = some (a.eval rc) := by rw [← Array.getElem?_toList, Array.toList_append]; rfl
        simp only [execOp, hop, resolve, hcal, Sem.run_bind, Sem.run_pure, Result.andThen_ok, invoke, h0', hex]
        simp only [hval, callMethod, Sem.run_bind, run_program, Result.andThen_ok, hu]
      · cases hfn
    · cases hc
  | append d es bytes zero zeros sl x =>
    simp only [stepOp, Option.bind_eq_some_iff] at hrun
    obtain ⟨⟨v, h'⟩, hv, hrun⟩ := hrun
    refine ⟨_, _, hrun, ?_⟩
    obtain ⟨c, hop, hc⟩ := inv_append hchk
    simp only [chkCall] at hc
    split at hc
    · rename_i s' x' t ts h1 h2 h3
      simp only [Bool.and_eq_true] at hc
      obtain ⟨⟨⟨o1, o2⟩, hc⟩, hz⟩ := hc
      split at hc
      · rename_i e hu
        simp only [Bool.and_eq_true, sizeIs, bytesIs, decide_eq_true_eq] at hc
        obtain ⟨⟨⟨q1, q2⟩, q3⟩, q4⟩ := hc
        have q4 := Nat.eq_of_beq_eq_true q4
        have ha : c.args.map a.eval = #[a.eval s', a.eval x'] := by
          apply Array.ext'
          rw [Array.toList_map, h2]
          rfl
        have ht : c.argTypes[0]? = some t := by rw [← Array.getElem?_toList, h3]; rfl
        obtain ⟨z, hz1, hz2, hz3⟩ := zero_rel (P := P) w q3 φ
        have hzv : ∀ w, (zeroValue e).run P w = .ok z w := by
          intro w2
          obtain ⟨z', hz1', _, _⟩ := zero_rel (P := P) w2 q3 φ
          unfold zeroOk at q3
          split at q3
          · rename_i zz hzz
            cases hi : P.info? e with
            | none => rw [hi] at hzz; cases hzz
            | some i =>
              rw [hi] at hzz
              simp only [Option.bind_some] at hzz
              simp [zeroValue, run_typeInfo w hi, hzz] at hz1
              subst hz1
              simp [zeroValue, run_typeInfo w2 hi, hzz]
          · cases q3
        have hzs : z.cells.size = es := by have := VRels.length hz2; simp at this; omega
        have hkk : (zeros = false ∧ (c.argTypes[1]? = none ∨ ∃ u d, c.argTypes[1]? = some u ∧ P.underlying u = some d ∧ (∀ k, d ≠ .int k))) ∨ (zeros = true ∧ ∃ u ik, c.argTypes[1]? = some u ∧ P.underlying u = some (.int ik)) := by
          split at hz
          · rename_i u
            have hu1 : c.argTypes[1]? = some u := by rw [← Array.getElem?_toList, h3]; rfl
            split at hz
            · rename_i ik hui
              exact .inr ⟨hz, u, ik, hu1, hui⟩
            · rename_i dd hne hui
              refine .inl ⟨by simpa using hz, .inr ⟨u, dd, hu1, hui, fun k e => ?_⟩⟩
              subst e
              exact hne k rfl
            · cases hz
          · have hu1 : c.argTypes[1]? = none := by rw [← Array.getElem?_toList, h3]; rfl
            exact .inl ⟨by simpa using hz, .inl hu1⟩
          · cases hz
        refine good_okto I hdst (hlt d rfl) (sem := Builtin.append_ c.argTypes o.type #[a.eval s', a.eval x']) ?_ (append_rel I.rel.heap hzs (opd_rel I.rel o1) (fun nn news en => appRun I.rel.heap hu q1 q2 hzv hz2 hz3 q4 ht hkk (opd_rel I.rel o2) en) hv)
        simp only [execOp, hop, resolve, h1, invoke, builtin, ha]
        rfl
      · cases hc
    · cases hc
  | copy d es dst src =>
    simp only [stepOp, Option.bind_eq_some_iff] at hrun
    obtain ⟨⟨v, h'⟩, hv, hrun⟩ := hrun
    refine ⟨_, _, hrun, ?_⟩
    obtain ⟨c, hop, hc⟩ := inv_copy hchk
    simp only [chkCall] at hc
    split at hc
    · rename_i s' x' t ts h1 h2 h3
      simp only [Bool.and_eq_true] at hc
      obtain ⟨⟨o1, o2⟩, hc⟩ := hc
      split at hc
      · rename_i e hu
        simp only [sizeIs, decide_eq_true_eq] at hc
        have ha : c.args.map a.eval = #[a.eval s', a.eval x'] := by
          apply Array.ext'
          rw [Array.toList_map, h2]
          rfl
        have ht : c.argTypes[0]? = some t := by rw [← Array.getElem?_toList, h3]; rfl
        refine good_okto I hdst (hlt d rfl) (sem := Builtin.copy_ c.argTypes o.type #[a.eval s', a.eval x']) ?_ (copy_rel I.rel.heap ht hu hc (opd_rel I.rel o1) (opd_rel I.rel o2) hv)
        simp only [execOp, hop, resolve, h1, invoke, builtin, ha]
        rfl
      · cases hc
    · cases hc
  | clear d zero sl =>
    simp only [stepOp, Option.bind_eq_some_iff] at hrun
    obtain ⟨⟨v, h'⟩, hv, hrun⟩ := hrun
    refine ⟨_, _, hrun, ?_⟩
    obtain ⟨c, hop, hc⟩ := inv_clear hchk
    simp only [chkCall] at hc
    split at hc
    · rename_i s' t ts h1 h2 h3
      simp only [Bool.and_eq_true] at hc
      obtain ⟨o1, hc⟩ := hc
      split at hc
      · rename_i e hu
        have ha : c.args.map a.eval = #[a.eval s'] := by
          apply Array.ext'
          rw [Array.toList_map, h2]
          rfl
        have ht : c.argTypes[0]? = some t := by rw [← Array.getElem?_toList, h3]; rfl
        have hput : ∀ u, a.put o.dst u = a := fun u => by rw [hdst]; rfl
        obtain ⟨u', w', φ', hu', _, H', S⟩ := clear_rel (ty := o.type) I.rel.heap ht hu hc (opd_rel I.rel o1) hv
        have he : execOp a.eval o = (do pure (.value (← Builtin.clear_ c.argTypes o.type #[a.eval s']))) := by
          simp only [execOp, hop, resolve, h1, invoke, builtin, ha]
          rfl
        intro K Q hk
        refine wp_value (u := u') (w' := w') ?_ ?_
        · rw [he, Sem.run_bind, hu']
          rfl
        · rw [hput]
          exact hk φ' L _ _ ⟨I.rel.step S H', I.step.trans I.dom S, I.base, I.dom⟩ S.one
      · cases hc
    · cases hc

end
end Go.Fw

/- Regions that keep the order of the text. -/
namespace Go.Fw
set_option linter.unusedSimpArgs false
set_option linter.unusedVariables false

/-- What an operation may change of a frame's abstract state. -/
def EnvStep (g : Bool) (ds : List Nat) (s s' : Env) : Prop :=
  (∀ t, t ∉ ds → look s'.vals t = look s.vals t ∧ lookA s'.lads t = lookA s.lads t) ∧ (g = true → s'.locs = s.locs)

theorem EnvStep.refl (g : Bool) (ds : List Nat) (s : Env) : EnvStep g ds s s := ⟨fun _ _ => ⟨rfl, rfl⟩, fun _ => rfl⟩
theorem EnvStep.trans {g : Bool} {ds ds' : List Nat} {s s' s'' : Env} (h : EnvStep g ds s s') (k : EnvStep g ds' s' s'') : EnvStep g (ds ++ ds') s s'' :=
  ⟨fun t ht => ⟨(k.1 t (fun m => ht (List.mem_append_right _ m))).1.trans (h.1 t (fun m => ht (List.mem_append_left _ m))).1, (k.1 t (fun m => ht (List.mem_append_right _ m))).2.trans (h.1 t (fun m => ht (List.mem_append_left _ m))).2⟩, fun hg => (k.2 hg).trans (h.2 hg)⟩

theorem env_set (g : Bool) (s : Env) (d : Nat) (v : AVal) : EnvStep g [d] s (s.set d v) :=
  ⟨fun t ht => by
    have hne : t ≠ d := fun e => ht (by simp [e])
    simp [Env.set, look_cons, lookA_drop, hne], fun _ => rfl⟩
theorem env_setL (g : Bool) (s : Env) (d l off : Nat) : EnvStep g [d] s (s.setL d l off) :=
  ⟨fun t ht => by
    have hne : t ≠ d := fun e => ht (by simp [e])
    simp [Env.setL, lookA_cons, hne], fun _ => rfl⟩

open Classical in
noncomputable def gate (p : Prop) (x : Option J) : Option J := if p then x else none
theorem gate_pos {p : Prop} (h : p) (x : Option J) : gate p x = x := if_pos h
theorem gate_some {p : Prop} {x : Option J} {r : J} (h : gate p x = some r) : p ∧ x = some r := by
  unfold gate at h
  split at h
  · exact ⟨‹_›, h⟩
  · cases h

theorem stepOp_env (call : Call) (g : Bool) (ao : AOp) (s : Env) (h : Heap) (k : Env → Heap → Option J) :
    stepOp call g ao s h k = stepOp call g ao s h (fun s' h' => gate (EnvStep g (opDst ao).toList s s') (k s' h')) := by
  have e1 : ∀ d v h', (gate (EnvStep g [d] s (s.set d v)) (k (s.set d v) h')) = k (s.set d v) h' := fun d v h' => gate_pos (env_set g s d v) _
  have e2 : ∀ d l off h', (gate (EnvStep g [d] s (s.setL d l off)) (k (s.setL d l off) h')) = k (s.setL d l off) h' := fun d l off h' => gate_pos (env_setL g s d l off) _
  have e3 : ∀ ds h', (gate (EnvStep g ds s s) (k s h')) = k s h' := fun ds h' => gate_pos (EnvStep.refl _ _ _) _
  cases ao with
  | box d loc x =>
    cases loc with
    | true =>
      cases g with
      | true => rfl
      | false =>
        have e4 : ∀ cs h', (gate (EnvStep false [d] s (s.newLoc d cs)) (k (s.newLoc d cs) h')) = k (s.newLoc d cs) h' := fun cs h' => gate_pos ⟨fun t ht => by
          have hne : t ≠ d := fun e => ht (by simp [e])
          simp [Env.newLoc, lookA_cons, hne], by simp⟩ _
        simp only [stepOp, opDst, Option.toList, e4]
    | false => simp only [stepOp, opDst, Option.toList, e1]
  | alloc d loc zero =>
    cases loc with
    | true =>
      cases g with
      | true => rfl
      | false =>
        have e4 : ∀ cs h', (gate (EnvStep false [d] s (s.newLoc d cs)) (k (s.newLoc d cs) h')) = k (s.newLoc d cs) h' := fun cs h' => gate_pos ⟨fun t ht => by
          have hne : t ≠ d := fun e => ht (by simp [e])
          simp [Env.newLoc, lookA_cons, hne], by simp⟩ _
        simp only [stepOp, opDst, Option.toList, e4]
    | false => simp only [stepOp, opDst, Option.toList, e1]
  | store agg m x v =>
    cases g with
    | true =>
      simp only [stepOp, opDst, Option.toList, e3, Bool.not_true, cond_false]
    | false =>
      have e4 : ∀ q h', (gate (EnvStep false [] s { s with locs := q }) (k { s with locs := q } h')) = k { s with locs := q } h' := fun q h' => gate_pos ⟨fun t _ => ⟨rfl, rfl⟩, by simp⟩ _
      simp only [stepOp, opDst, Option.toList, e3, e4]
  | iaddr d arr es x i => cases arr <;> simp only [stepOp, opDst, Option.toList, e1, e2]
  | index d kk x i => cases kk <;> simp only [stepOp, opDst, Option.toList, e1]
  | slice d kk x lo hi mx => cases kk <;> simp only [stepOp, opDst, Option.toList, e1]
  | clear d zero sl => simp only [stepOp, opDst, Option.toList, e3]
  | _ => simp only [stepOp, opDst, Option.toList, e1, e2]

mutual
def flatItem (gd : Option (Nat × Bool)) : AItem → List (Option (Nat × Bool) × Nat × AOp)
  | .op i o => [(gd, i, o)]
  | .guard t want items _ _ => flatItems (some (t, want)) items
def flatItems (gd : Option (Nat × Bool)) : List AItem → List (Option (Nat × Bool) × Nat × AOp)
  | [] => []
  | x :: r => flatItem gd x ++ flatItems gd r
end

/-- Guards that stand well: what is asked is not written behind it; within a guard, a guard asks what was written there. -/
def itemsDirect : List AItem → List Nat
  | [] => []
  | .op _ o :: r => (opDst o).toList ++ itemsDirect r
  | .guard .. :: r => itemsDirect r
mutual
def guardsOk (inG : Bool) (seen : List Nat) : AItem → Bool
  | .op _ _ => true
  | .guard t _ items _ live => !((itemsDsts items).contains t) && (!inG || seen.contains t) && guardsAll true [] items && live.all fun l => (itemsDsts items).contains l
def guardsAll (inG : Bool) (seen : List Nat) : List AItem → Bool
  | [] => true
  | x :: r => guardsOk inG seen x && guardsAll inG (match x with | .op _ o => (opDst o).toList ++ seen | _ => seen) r
end

def operOkF (P : Program) (n : Nat) (ops : Array Oper) (e : Option (Nat × Bool) × Nat × AOp) : Bool :=
  match ops[e.2.1]? with
  | none => false
  | some o =>
    decide (o.dst = opDst e.2.2) && (match opDst e.2.2 with | some d => Nat.blt d n | none => true) && chkOp P o.op (unFl e.2.2) &&
    (match o.guard, e.1 with
     | none, none => true
     | some (j, want), some (t, want') => (want == want') && decide ((ops[j]?).bind (·.dst) = some t)
     | _, _ => false)

def operOk (P : Program) (n : Nat) (ops : Array Oper) (e : Option (Nat × Bool) × Nat × AOp) : Bool := operOkF P n ops e && !(isFl e.2.2)

def regionOkF (P : Program) (n : Nat) (ops : Array Oper) (items : List AItem) : Bool :=
  let fl := flatItems none items
  decide (fl.map (·.2.1) = List.range ops.size) && fl.all (operOkF P n ops) && guardsAll false [] items
def regionOk (P : Program) (n : Nat) (ops : Array Oper) (items : List AItem) : Bool :=
  let fl := flatItems none items
  decide (fl.map (·.2.1) = List.range ops.size) && fl.all (operOk P n ops) && guardsAll false [] items

section
variable {P : Program} {B n : Nat} {φ0 : Phi} {h0 : Heap} {w0 : World} {φ : Phi} {L : Nat → Nat} {s : Env} {h : Heap} {a : Act} {w : World}

theorem In.env (I : In B n φ0 h0 w0 φ L s h a w) {s' : Env} (h1 : s'.vals = s.vals) (h2 : s'.lads = s.lads) (h3 : s'.locs = s.locs) : In B n φ0 h0 w0 φ L s' h a w := by
  obtain ⟨c, S, b, d⟩ := I
  exact ⟨⟨c.heap, c.size, c.defers, by rw [h1, h2]; exact c.vals, by rw [h2, h3]; exact c.lads, by rw [h3]; exact c.locs, by rw [h3]; exact c.inj⟩, S, b, d⟩

/-- A skipped operation's value. -/
theorem skip_rel : VRel φ skipV undef := vrel_tuple.2 ⟨#[], rfl, by simp [VRels]⟩

theorem operOkF_spec {ops : Array Oper} {gd : Option (Nat × Bool)} {i : Nat} {ao : AOp} (h : operOkF P n ops (gd, i, ao) = true) : ∃ o, ops[i]? = some o ∧ o.dst = opDst ao ∧ (∀ d, opDst ao = some d → d < n) ∧ chkOp P o.op (unFl ao) = true ∧
    ((o.guard = none ∧ gd = none) ∨ ∃ j t want, o.guard = some (j, want) ∧ gd = some (t, want) ∧ (ops[j]?).bind (·.dst) = some t) := by
  unfold operOkF at h
  split at h
  · cases h
  · rename_i o ho
    simp only [Bool.and_eq_true, decide_eq_true_eq] at h
    obtain ⟨⟨⟨h1, h2⟩, h3⟩, h4⟩ := h
    refine ⟨o, ho, h1, ?_, h3, ?_⟩
    · intro d hd
      rw [hd] at h2
      have := Nat.le_of_ble_eq_true (show Nat.ble (d + 1) n = true from h2)
      omega
    · cases hg : o.guard with
      | none =>
        rw [hg] at h4
        cases gd with
        | none => exact .inl ⟨rfl, rfl⟩
        | some p => cases h4
      | some p =>
        rw [hg] at h4
        cases gd with
        | none => cases h4
        | some q =>
          obtain ⟨j, want⟩ := p
          obtain ⟨t, want'⟩ := q
          simp only [Bool.and_eq_true, beq_iff_eq, decide_eq_true_eq] at h4
          obtain ⟨rfl, h5⟩ := h4
          exact .inr ⟨j, t, want, rfl, rfl, h5⟩

theorem unFl_of {ao : AOp} (h : isFl ao = false) : unFl ao = ao := by
  cases ao <;> first | rfl | (cases h; done)

theorem operOk_spec {ops : Array Oper} {gd : Option (Nat × Bool)} {i : Nat} {ao : AOp} (h : operOk P n ops (gd, i, ao) = true) : ∃ o, ops[i]? = some o ∧ o.dst = opDst ao ∧ (∀ d, opDst ao = some d → d < n) ∧ chkOp P o.op ao = true ∧
    ((o.guard = none ∧ gd = none) ∨ ∃ j t want, o.guard = some (j, want) ∧ gd = some (t, want) ∧ (ops[j]?).bind (·.dst) = some t) := by
  simp only [operOk, Bool.and_eq_true, Bool.not_eq_true'] at h
  have := operOkF_spec h.1
  rw [unFl_of h.2] at this
  exact this
theorem operOk_fl {ops : Array Oper} {gd : Option (Nat × Bool)} {i : Nat} {ao : AOp} (h : operOk P n ops (gd, i, ao) = true) : isFl ao = false := by
  simp only [operOk, Bool.and_eq_true, Bool.not_eq_true'] at h
  exact h.2

/-- Is an operation wanted: what the guard's temporary says. -/
theorem wanted_guard {ops : Array Oper} {o : Oper} {j t : Nat} {want : Bool} (hg : o.guard = some (j, want)) (hj : (ops[j]?).bind (·.dst) = some t) (tmps : Array Value) :
    Region.wanted o (yielded ops tmps) = (match tmps[t]? with | some (.bool b) => b == want | _ => false) := by
  unfold Region.wanted
  rw [hg]
  simp only [yielded, hj, Option.bind_some]
  cases tmps[t]? with
  | none => rfl
  | some v => cases v <;> rfl

theorem getD_some {tmps : Array Value} {t : Nat} {v : Value} (h : tmps.getD t undef = v) (hv : v ≠ undef) : tmps[t]? = some v := by
  rw [Array.getD_eq_getD_getElem?] at h
  cases hh : tmps[t]? with
  | none => rw [hh] at h; exact absurd h.symm hv
  | some u => rw [hh] at h; simp at h; rw [h]


/-- One operation whose guard holds. -/
theorem op_step {call : Call} (hcall : CallOk P call) {ops : Array Oper} {gd : Option (Nat × Bool)} {i : Nat} {ao : AOp} (hok : operOk P n ops (gd, i, ao) = true) (hgd : ∀ t want, gd = some (t, want) → look s.vals t = .bool want ∧ lookA s.lads t = none) {g : Bool} {k : Env → Heap → Option J} {r : J}
    (hrun : stepOp call g ao s h k = some r) (I : In B n φ0 h0 w0 φ L s h a w) : ∃ s' h', k s' h' = some r ∧ EnvStep g (opDst ao).toList s s' ∧
      ∀ (Q : Exit → Act → World → Prop) (rest : List Nat), (∀ φ' L' a' w', In B n φ0 h0 w0 φ' L' s' h' a' w' → wpOps P ops Q rest a' w') → wpOps P ops Q (i :: rest) a w := by
  obtain ⟨o, ho, hdst, hlt, hchk, hg⟩ := operOk_spec hok
  rw [stepOp_env] at hrun
  obtain ⟨s', h', hk, hgood⟩ := stepOp_sound hcall (operOk_fl hok) hchk hdst hlt hrun I
  obtain ⟨he, hk⟩ := gate_some hk
  refine ⟨s', h', hk, he, fun Q rest hrest => ?_⟩
  have hw : Region.wanted o (yielded ops a.tmps) = true := by
    rcases hg with ⟨h1, _⟩ | ⟨j, t, want, h1, h2, h3⟩
    · unfold Region.wanted; rw [h1]
    · rw [wanted_guard h1 h3]
      obtain ⟨hv, hl⟩ := hgd t want h2
      have := I.rel.vals t hl
      rw [hv, vrel_bool] at this
      rw [getD_some this (by simp [undef])]
      simp
  simp only [wpOps, ho, hw, if_true]
  exact .inl (hgood _ _ fun φ' L' a' w' I' _ => hrest φ' L' a' w' I')

/-- An environment that says less. -/
structure Weak (s' s : Env) : Prop where
  vals : ∀ t, lookA s'.lads t = none → look s'.vals t = .undef ∨ look s'.vals t = s.get t
  lads : ∀ t l off, lookA s'.lads t = some (l, off) → lookA s.lads t = some (l, off) ∧ ∃ cs, lookB s'.locs l = some cs
  locs : ∀ l cs, lookB s'.locs l = some cs → lookB s.locs l = some cs

theorem In.weak (I : In B n φ0 h0 w0 φ L s h a w) {s' : Env} (k : Weak s' s) : In B n φ0 h0 w0 φ L s' h a w := by
  obtain ⟨c, S, b, d⟩ := I
  refine ⟨⟨c.heap, c.size, c.defers, fun t ht => ?_, fun t l off ht => ?_, fun l cs hl => c.locs l cs (k.locs l cs hl), fun l l' c1 c2 e1 e2 => c.inj l l' c1 c2 (k.locs _ _ e1) (k.locs _ _ e2)⟩, S, b, d⟩
  · rcases k.vals t ht with e | e
    · rw [e]; exact vrel_undef.2 trivial
    · rw [e]; exact c.get t
  · obtain ⟨h1, h2⟩ := k.lads t l off ht
    exact ⟨h2, (c.lads t l off h1).2⟩

def skipEnv (s : Env) : List (Option (Nat × Bool) × Nat × AOp) → Env
  | [] => s
  | (_, _, ao) :: fl => skipEnv (match opDst ao with | some d => s.set d skipV | none => s) fl

/-- Operations that are skipped, all of them. -/
theorem skip_all {ops : Array Oper} : ∀ (fl : List (Option (Nat × Bool) × Nat × AOp)) (a : Act) (s : Env), (∀ e ∈ fl, operOk P n ops e = true) →
    (∀ (pre : List (Option (Nat × Bool) × Nat × AOp)) e post, fl = pre ++ e :: post → ∃ t want, e.1 = some (t, want) ∧ ((∃ e' ∈ pre, opDst e'.2.2 = some t) ∨ ∀ u, a.tmps[t]? = some u → u ≠ .bool want)) →
    In B n φ0 h0 w0 φ L s h a w → ∀ (Q : Exit → Act → World → Prop) (rest : List Nat),
      (∀ a', In B n φ0 h0 w0 φ L (skipEnv s fl) h a' w → wpOps P ops Q rest a' w) → wpOps P ops Q (fl.map (·.2.1) ++ rest) a w
  | [], a, s, _, _, I, Q, rest, hk => hk a I
  | (gd, i, ao) :: fl, a, s, hall, hsk, I, Q, rest, hk => by
    obtain ⟨o, ho, hdst, hlt, hchk, hg⟩ := operOk_spec (hall _ List.mem_cons_self)
    obtain ⟨t, want, hgd, hno⟩ := hsk [] _ fl rfl
    simp only at hgd
    have hw : Region.wanted o (yielded ops a.tmps) = false := by
      rcases hg with ⟨_, h2⟩ | ⟨j, t', want', h1, h2, h3⟩
      · rw [h2] at hgd; cases hgd
      · rw [h2] at hgd
        cases hgd
        rw [wanted_guard h1 h3]
        rcases hno with ⟨_, hm, _⟩ | hno
        · cases hm
        · cases hh : a.tmps[t]? with
          | none => rfl
          | some u =>
            cases u with
            | bool b => simp only [beq_eq_false_iff_ne, ne_eq]; intro e; subst e; exact hno _ hh rfl
            | _ => rfl
    simp only [List.map_cons, List.cons_append, wpOps, ho, hw, Bool.false_eq_true, if_false]
    cases hd : opDst ao with
    | none =>
      rw [hdst, hd]
      refine skip_all fl a s (fun e he => hall e (List.mem_cons_of_mem _ he)) ?_ I Q rest ?_
      · intro pre e post hfl
        obtain ⟨t2, want2, h1, h2⟩ := hsk ((gd, i, ao) :: pre) e post (by rw [hfl]; rfl)
        refine ⟨t2, want2, h1, ?_⟩
        rcases h2 with ⟨e', he', h2⟩ | h2
        · rcases List.mem_cons.1 he' with rfl | he'
          · simp only [hd] at h2; cases h2
          · exact .inl ⟨e', he', h2⟩
        · exact .inr h2
      · intro a' ha'
        exact hk a' (by simp only [skipEnv, hd]; exact ha')
    | some d =>
      rw [hdst, hd]
      have hdn := hlt d hd
      have I' := I.put (Step.refl φ h w) I.rel.heap hdn (skip_rel (φ := φ))
      refine skip_all fl (a.put (some d) undef) (s.set d skipV) (fun e he => hall e (List.mem_cons_of_mem _ he)) ?_ I' Q rest ?_
      · intro pre e post hfl
        obtain ⟨t2, want2, h1, h2⟩ := hsk ((gd, i, ao) :: pre) e post (by rw [hfl]; rfl)
        refine ⟨t2, want2, h1, ?_⟩
        have hput : ∀ u, (a.put (some d) undef).tmps[t2]? = some u → (t2 = d ∧ u = undef) ∨ (t2 ≠ d ∧ a.tmps[t2]? = some u) := by
          intro u hu
          simp only [Act.put, Array.getElem?_setIfInBounds] at hu
          split at hu
          · rename_i he
            split at hu
            · cases hu; exact .inl ⟨he.symm, rfl⟩
            · cases hu
          · rename_i hne; exact .inr ⟨Ne.symm hne, hu⟩
        rcases h2 with ⟨e', he', h2⟩ | h2
        · rcases List.mem_cons.1 he' with rfl | he'
          · simp only [hd, Option.some.injEq] at h2
            subst h2
            right
            intro u hu
            rcases hput u hu with ⟨_, rfl⟩ | ⟨hne, _⟩
            · simp [undef]
            · exact absurd rfl hne
          · exact .inl ⟨e', he', h2⟩
        · right
          intro u hu
          rcases hput u hu with ⟨_, rfl⟩ | ⟨_, hu⟩
          · simp [undef]
          · exact h2 u hu
      · intro a' ha'
        exact hk a' (by simp only [skipEnv, hd]; exact ha')

theorem skipEnv_spec : ∀ (fl : List (Option (Nat × Bool) × Nat × AOp)) (s : Env), (skipEnv s fl).locs = s.locs ∧
    (∀ t, (∀ e ∈ fl, opDst e.2.2 ≠ some t) → look (skipEnv s fl).vals t = look s.vals t ∧ lookA (skipEnv s fl).lads t = lookA s.lads t) ∧
    (∀ t, (∃ e ∈ fl, opDst e.2.2 = some t) → look (skipEnv s fl).vals t = skipV ∧ lookA (skipEnv s fl).lads t = none)
  | [], s => ⟨rfl, fun _ _ => ⟨rfl, rfl⟩, fun t h => by obtain ⟨e, he, _⟩ := h; cases he⟩
  | (gd, i, ao) :: fl, s => by
    simp only [skipEnv]
    cases hd : opDst ao with
    | none =>
      obtain ⟨h1, h2, h3⟩ := skipEnv_spec fl s
      refine ⟨h1, fun t ht => h2 t fun e he => ht e (List.mem_cons_of_mem _ he), fun t ht => h3 t ?_⟩
      obtain ⟨e, he, h⟩ := ht
      rcases List.mem_cons.1 he with rfl | he
      · simp only [hd] at h; cases h
      · exact ⟨e, he, h⟩
    | some d =>
      obtain ⟨h1, h2, h3⟩ := skipEnv_spec fl (s.set d skipV)
      refine ⟨h1, fun t ht => ?_, fun t ht => ?_⟩
      · obtain ⟨q1, q2⟩ := h2 t fun e he => ht e (List.mem_cons_of_mem _ he)
        have hne : t ≠ d := fun e => ht _ List.mem_cons_self (by simp only [hd, e])
        rw [q1, q2]
        simp [Env.set, look_cons, lookA_drop, hne]
      · by_cases hm : ∃ e ∈ fl, opDst e.2.2 = some t
        · exact h3 t hm
        · obtain ⟨q1, q2⟩ := h2 t fun e he h => hm ⟨e, he, h⟩
          obtain ⟨e, he, h⟩ := ht
          rcases List.mem_cons.1 he with rfl | he
          · simp only [hd, Option.some.injEq] at h
            subst h
            rw [q1, q2]
            simp [Env.set, look_cons, lookA_drop]
          · exact absurd ⟨e, he, h⟩ hm


mutual
theorem flat_skip_item : ∀ (x : AItem) (gd : Option (Nat × Bool)) (seen : List Nat) (pf : List (Option (Nat × Bool) × Nat × AOp)), guardsOk true seen x = true → (∀ l ∈ seen, ∃ e' ∈ pf, opDst e'.2.2 = some l) →
    ∀ (pre : List (Option (Nat × Bool) × Nat × AOp)) e post, flatItem gd x = pre ++ e :: post → e.1 = gd ∨ ∃ t2 w2, e.1 = some (t2, w2) ∧ ∃ e' ∈ pf ++ pre, opDst e'.2.2 = some t2
  | .op i o, gd, seen, pf, _, _, pre, e, post, hfl => by
    simp only [flatItem] at hfl
    cases pre with
    | nil => simp only [List.nil_append, List.cons.injEq] at hfl; rw [← hfl.1]; exact .inl rfl
    | cons p pre => simp at hfl
  | .guard t want items ps live, gd, seen, pf, hok, hseen, pre, e, post, hfl => by
    simp only [flatItem] at hfl
    simp only [guardsOk, Bool.and_eq_true, Bool.not_true, Bool.false_or] at hok
    obtain ⟨⟨⟨_, h2⟩, h3⟩, _⟩ := hok
    obtain ⟨e', he', hd⟩ := hseen t (by simpa using h2)
    rcases flat_skip_items items (some (t, want)) [] [] h3 (by simp) pre e post hfl with h | ⟨t2, w2, h, e2, he2, hd2⟩
    · exact .inr ⟨t, want, h, e', List.mem_append_left _ he', hd⟩
    · exact .inr ⟨t2, w2, h, e2, List.mem_append_right _ (by simpa using he2), hd2⟩
theorem flat_skip_items : ∀ (l : List AItem) (gd : Option (Nat × Bool)) (seen : List Nat) (pf : List (Option (Nat × Bool) × Nat × AOp)), guardsAll true seen l = true → (∀ l ∈ seen, ∃ e' ∈ pf, opDst e'.2.2 = some l) →
    ∀ (pre : List (Option (Nat × Bool) × Nat × AOp)) e post, flatItems gd l = pre ++ e :: post → e.1 = gd ∨ ∃ t2 w2, e.1 = some (t2, w2) ∧ ∃ e' ∈ pf ++ pre, opDst e'.2.2 = some t2
  | [], gd, seen, pf, _, _, pre, e, post, hfl => by simp [flatItems] at hfl
  | x :: r, gd, seen, pf, hok, hseen, pre, e, post, hfl => by
    simp only [flatItems] at hfl
    simp only [guardsAll, Bool.and_eq_true] at hok
    rcases List.append_eq_append_iff.1 hfl with ⟨m, h1, h2⟩ | ⟨m, h1, h2⟩
    · -- the first lies within pre
      have hseen' : ∀ q ∈ (match x with | .op _ o => (opDst o).toList ++ seen | _ => seen), ∃ e' ∈ pf ++ flatItem gd x, opDst e'.2.2 = some q := by
        intro q hq
        cases x with
        | op i o =>
          rcases List.mem_append.1 hq with hq | hq
          · exact ⟨(gd, i, o), List.mem_append_right _ (by simp [flatItem]), by simpa using hq⟩
          · obtain ⟨e', he', hd⟩ := hseen q hq
            exact ⟨e', List.mem_append_left _ he', hd⟩
        | guard t want items ps live =>
          obtain ⟨e', he', hd⟩ := hseen q hq
          exact ⟨e', List.mem_append_left _ he', hd⟩
      rcases flat_skip_items r gd _ (pf ++ flatItem gd x) hok.2 hseen' m e post h2 with h | ⟨t2, w2, h, e2, he2, hd2⟩
      · exact .inl h
      · exact .inr ⟨t2, w2, h, e2, by rw [h1, ← List.append_assoc]; exact he2, hd2⟩
    · cases m with
      | nil =>
        simp only [List.append_nil, List.nil_append] at h1 h2
        have hseen' : ∀ q ∈ (match x with | .op _ o => (opDst o).toList ++ seen | _ => seen), ∃ e' ∈ pf ++ flatItem gd x, opDst e'.2.2 = some q := by
          intro q hq
          cases x with
          | op i o =>
            rcases List.mem_append.1 hq with hq | hq
            · exact ⟨(gd, i, o), List.mem_append_right _ (by simp [flatItem]), by simpa using hq⟩
            · obtain ⟨e', he', hd⟩ := hseen q hq
              exact ⟨e', List.mem_append_left _ he', hd⟩
          | guard t want items ps live =>
            obtain ⟨e', he', hd⟩ := hseen q hq
            exact ⟨e', List.mem_append_left _ he', hd⟩
        rcases flat_skip_items r gd _ (pf ++ flatItem gd x) hok.2 hseen' [] e post h2.symm with h | ⟨t2, w2, h, e2, he2, hd2⟩
        · exact .inl h
        · exact .inr ⟨t2, w2, h, e2, by rw [← h1]; simpa using he2, hd2⟩
      | cons q m =>
        simp only [List.cons_append, List.cons.injEq] at h2
        obtain ⟨rfl, h2⟩ := h2
        exact flat_skip_item x gd seen pf hok.1 hseen pre e m h1
end

mutual
theorem flat_dsts_item : ∀ (x : AItem) (gd : Option (Nat × Bool)) (t : Nat), t ∈ itemDsts x ↔ ∃ e ∈ flatItem gd x, opDst e.2.2 = some t
  | .op i o, gd, t => by simp [itemDsts, flatItem]
  | .guard t' want items ps live, gd, t => by simp only [itemDsts, flatItem]; exact flat_dsts items _ t
theorem flat_dsts : ∀ (l : List AItem) (gd : Option (Nat × Bool)) (t : Nat), t ∈ itemsDsts l ↔ ∃ e ∈ flatItems gd l, opDst e.2.2 = some t
  | [], gd, t => by simp [itemsDsts, flatItems]
  | x :: r, gd, t => by
    simp only [itemsDsts, flatItems, List.mem_append]
    rw [flat_dsts_item x gd t, flat_dsts r gd t]
    constructor
    · rintro (⟨e, he, h⟩ | ⟨e, he, h⟩)
      · exact ⟨e, .inl he, h⟩
      · exact ⟨e, .inr he, h⟩
    · rintro ⟨e, he | he, h⟩
      · exact .inl ⟨e, he, h⟩
      · exact .inr ⟨e, he, h⟩
end

theorem lookA_dropAs : ∀ (ds : List Nat) (l : List (Nat × Nat × Nat)) (t : Nat), lookA (dropAs l ds) t = if t ∈ ds then none else lookA l t
  | [], l, t => by simp [dropAs]
  | d :: ds, l, t => by
    simp only [dropAs]
    rw [lookA_dropAs ds, lookA_drop]
    by_cases h1 : t ∈ ds
    · simp [h1]
    · by_cases h2 : t = d
      · simp [h1, h2]
      · simp [h1, h2]

theorem look_append : ∀ (l l' : List (Nat × AVal)) (t : Nat), look (l ++ l') t = if t ∈ l.map (·.1) then look l t else look l' t
  | [], l', t => by simp
  | (d, v) :: l, l', t => by
    rw [List.cons_append, look_cons, look_cons, look_append l l' t]
    by_cases h : t = d
    · simp [h]
    · have hm : t ∈ ((d, v) :: l).map (·.1) ↔ t ∈ l.map (·.1) := by simp [h]
      simp only [hm, if_neg h]

theorem look_undef : ∀ (ds : List Nat) (t : Nat), look (ds.map fun d => (d, AVal.undef)) t = .undef
  | [], t => rfl
  | d :: ds, t => by
    rw [List.map_cons, look_cons, look_undef ds t]
    split <;> rfl

/-- What is handed on, looked up: a value of the row, at its place. -/
theorem look_zip (f : Nat → AVal) (xs : List AVal) : ∀ (live : List Nat) (i : Nat) (t : Nat), (∀ j l, live[j]? = some l → xs.getD (i + j) .undef = f l) → t ∈ live →
    look ((live.zipIdx i).map fun p => (p.1, xs.getD p.2 .undef)) t = f t
  | [], i, t, _, ht => by cases ht
  | l :: live, i, t, h, ht => by
    rw [List.zipIdx_cons, List.map_cons, look_cons]
    split
    · rename_i e; subst e; exact h 0 _ rfl
    · rename_i hne
      rcases List.mem_cons.1 ht with e | ht
      · exact absurd e hne
      · exact look_zip f xs live (i + 1) t (fun j l' hj => by have := h (j + 1) l' hj; rwa [show i + (j + 1) = i + 1 + j by omega] at this) ht

/-- The environment behind a guarded part says no more than is known. -/
theorem upd_weak {s s1 : Env} {dsts live : List Nat} (he : ∀ t, t ∉ dsts → look s1.vals t = look s.vals t ∧ lookA s1.lads t = lookA s.lads t) (hl : s1.locs = s.locs) (hlads : ∀ t l off, lookA s.lads t = some (l, off) → ∃ cs, lookB s.locs l = some cs)
    {xs : List AVal} (hxs : ∀ j l, live[j]? = some l → xs.getD j .undef = s1.get l) : Weak (s.upd dsts live xs) s1 where
  vals := fun t ht => by
    simp only [Env.upd] at ht ⊢
    rw [lookA_dropAs] at ht
    rw [List.append_assoc, look_append, look_append]
    have hm1 : (live.zipIdx.map fun p => (p.1, xs.getD p.2 AVal.undef)).map (·.1) = live := by
      rw [List.map_map]
      have : ((fun x : Nat × AVal => x.1) ∘ fun p : Nat × Nat => (p.1, xs.getD p.2 AVal.undef)) = fun p => p.1 := rfl
      rw [this, List.zipIdx_map_fst]
    have hm2 : (dsts.map fun d => (d, AVal.undef)).map (·.1) = dsts := by
      rw [List.map_map]
      have : ((fun x : Nat × AVal => x.1) ∘ fun d : Nat => (d, AVal.undef)) = id := rfl
      rw [this, List.map_id]
    rw [hm1, hm2]
    by_cases h1 : t ∈ live
    · rw [if_pos h1]
      right
      exact look_zip s1.get xs live 0 t (fun j l hj => by rw [Nat.zero_add]; exact hxs j l hj) h1
    · rw [if_neg h1]
      by_cases h2 : t ∈ dsts
      · rw [if_pos h2, look_undef]; exact .inl rfl
      · rw [if_neg h2]
        rw [if_neg h2] at ht
        right
        obtain ⟨q1, q2⟩ := he t h2
        unfold Env.get
        rw [q2, ht, q1]
  lads := fun t l off ht => by
    simp only [Env.upd] at ht ⊢
    rw [lookA_dropAs] at ht
    split at ht
    · cases ht
    · rename_i h2
      rw [(he t h2).2]
      exact ⟨ht, hlads t l off ht⟩
  locs := fun l cs h => by
    simp only [Env.upd] at h
    rw [hl]; exact h

theorem getD_map {f : Nat → AVal} {live : List Nat} {j l : Nat} (h : live[j]? = some l) : (live.map f).getD j .undef = f l := by
  rw [List.getD_eq_getElem?_getD, List.getElem?_map, h]
  rfl

theorem get_bool {s : Env} {t : Nat} {x : Bool} (h : s.get t = .bool x) : look s.vals t = .bool x ∧ lookA s.lads t = none := by
  unfold Env.get at h
  split at h
  · cases h
  · exact ⟨h, ‹_›⟩

theorem EnvStep.sub {g : Bool} {ds ds' : List Nat} {s s' : Env} (h : EnvStep g ds s s') (hs : ∀ t ∈ ds, t ∈ ds') : EnvStep g ds' s s' := ⟨fun t ht => h.1 t (fun m => ht (hs t m)), h.2⟩

mutual
theorem item_sound {call : Call} (hcall : CallOk P call) {ops : Array Oper} : ∀ (x : AItem) (g : Bool) (pairs : List (Nat × Nat)) (gd : Option (Nat × Bool)) (seen : List Nat) (φ : Phi) (L : Nat → Nat) (s : Env) (h : Heap) (a : Act) (w : World) (k : Env → Heap → Option J) (r : J),
    runItem call g pairs x s h k = some r → (∀ e ∈ flatItem gd x, operOk P n ops e = true) → guardsOk g seen x = true → (∀ t want, gd = some (t, want) → look s.vals t = .bool want ∧ lookA s.lads t = none) →
    In B n φ0 h0 w0 φ L s h a w → ∀ (Q : Exit → Act → World → Prop) (rest : List Nat), (∀ s' h' φ' L' a' w', k s' h' = some r → EnvStep g (itemDsts x) s s' → In B n φ0 h0 w0 φ' L' s' h' a' w' → wpOps P ops Q rest a' w') → wpOps P ops Q ((flatItem gd x).map (·.2.1) ++ rest) a w
  | .op i o, g, pairs, gd, seen, φ, L, s, h, a, w, k, r, hrun, hok, _, hgd, I => by
    simp only [runItem] at hrun
    obtain ⟨s', h', hk, he, hw⟩ := op_step hcall (hok (gd, i, o) (by simp [flatItem])) hgd hrun I
    intro Q rest hrest
    simp only [flatItem, List.map_cons, List.map_nil, List.cons_append, List.nil_append]
    refine hw Q rest fun φ' L' a' w' I' => hrest _ h' φ' L' a' w' hk ?_ ?_
    · simp only [itemDsts]
      cases inPairs pairs i
      · exact he
      · exact ⟨he.1, he.2⟩
    · cases inPairs pairs i
      · exact I'
      · exact I'.env rfl rfl rfl
  | .guard t want items ps live, g, pairs, gd, seen, φ, L, s, h, a, w, k, r, hrun, hok, hgo, _, I => by
    simp only [runItem, Option.bind_eq_some_iff] at hrun
    obtain ⟨r0, hr0, hk⟩ := hrun
    simp only [guardsOk, Bool.and_eq_true, Bool.not_eq_true', List.all_eq_true] at hgo
    obtain ⟨⟨⟨g1, g2⟩, g3⟩, g4⟩ := hgo
    have hnot : t ∉ itemsDsts items := by
      intro hm
      rw [List.contains_eq_mem] at g1
      simp [hm] at g1
    have hlive : ∀ l ∈ live, l ∈ itemsDsts items := fun l hl => by simpa using g4 l hl
    have hlads : ∀ t l off, lookA s.lads t = some (l, off) → ∃ cs, lookB s.locs l = some cs := fun t l off hh => (I.rel.lads t l off hh).1
    have hupd : EnvStep g (itemsDsts items) s (s.upd (itemsDsts items) live r0.2.1) := by
      refine ⟨fun q hq => ?_, fun _ => rfl⟩
      simp only [Env.upd]
      have hm1 : (live.zipIdx.map fun p => (p.1, r0.2.1.getD p.2 AVal.undef)).map (·.1) = live := by
        rw [List.map_map]
        have : ((fun x : Nat × AVal => x.1) ∘ fun p : Nat × Nat => (p.1, r0.2.1.getD p.2 AVal.undef)) = fun p => p.1 := rfl
        rw [this, List.zipIdx_map_fst]
      have hm2 : ((itemsDsts items).map fun d => (d, AVal.undef)).map (·.1) = itemsDsts items := by
        rw [List.map_map]
        have : ((fun x : Nat × AVal => x.1) ∘ fun d : Nat => (d, AVal.undef)) = id := rfl
        rw [this, List.map_id]
      rw [List.append_assoc, look_append, look_append, hm1, hm2, lookA_dropAs, if_neg hq, if_neg hq, if_neg fun hh => hq (hlive q hh)]
      exact ⟨rfl, rfl⟩
    intro Q rest hrest
    have hexec : s.get t = .bool want → runItems call true ps items s.noLog h (fun s' h' => bif s'.noLads live && checkPairs s'.log ps then some (0, s'.vout live, h') else none) = some r0 →
        wpOps P ops Q ((flatItem gd (.guard t want items ps live)).map (·.2.1) ++ rest) a w := by
      intro hb hrun
      simp only [flatItem]
      refine items_sound hcall items true ps (some (t, want)) [] φ L s.noLog h a w _ r0 hrun (by simpa [flatItem] using hok) g3
        (fun t' want' e => by cases e; exact get_bool hb) hnot (I.env rfl rfl rfl) Q rest ?_
      intro s1 h1 φ' L' a' w' hk1 he1 I'
      cases hcp : (s1.noLads live && checkPairs s1.log ps) with
      | false => rw [hcp] at hk1; cases hk1
      | true =>
        rw [hcp] at hk1
        cases hk1
        refine hrest _ _ φ' L' a' w' hk hupd (I'.weak ?_)
        exact upd_weak (s := s) he1.1 (he1.2 rfl) hlads fun j l hj => getD_map hj
    have hskip : (∀ u, a.tmps[t]? = some u → u ≠ .bool want) → r0 = (0, live.map fun _ => skipV, h) →
        wpOps P ops Q ((flatItem gd (.guard t want items ps live)).map (·.2.1) ++ rest) a w := by
      intro hno he
      subst he
      simp only [flatItem] at hok ⊢
      refine skip_all _ a s hok ?_ I Q rest fun a' I' => hrest _ _ φ L a' w hk hupd (I'.weak ?_)
      · intro pre e post hfl
        rcases flat_skip_items items (some (t, want)) [] [] g3 (by simp) pre e post hfl with h | ⟨t2, w2, h, e2, he2, hd2⟩
        · exact ⟨t, want, h, .inr hno⟩
        · exact ⟨t2, w2, h, .inl ⟨e2, by simpa using he2, hd2⟩⟩
      · obtain ⟨q1, q2, q3⟩ := skipEnv_spec (flatItems (some (t, want)) items) s
        refine upd_weak (fun t' ht' => q2 t' fun e he hd => ht' ((flat_dsts items _ t').2 ⟨e, he, hd⟩)) q1 hlads fun j l hj => ?_
        rw [getD_map (f := fun _ => skipV) hj]
        obtain ⟨z1, z2⟩ := q3 l ((flat_dsts items _ l).1 (hlive l (List.mem_of_getElem? hj)))
        unfold Env.get
        rw [z2, z1]
    unfold guardV at hr0
    split at hr0
    · rename_i x hx
      cases hxw : (x == want) with
      | true =>
        rw [hxw] at hr0
        have : x = want := by simpa using hxw
        subst this
        exact hexec hx hr0
      | false =>
        rw [hxw] at hr0
        refine hskip ?_ (by cases hr0; rfl)
        intro u hu e
        subst e
        obtain ⟨v1, v2⟩ := get_bool hx
        have := I.rel.vals t v2
        rw [v1, vrel_bool, Array.getD_eq_getD_getElem?, hu] at this
        simp only [Option.getD_some, Value.bool.injEq] at this
        subst this
        simp at hxw
    · rename_i hx
      refine hskip ?_ (by cases hr0; rfl)
      intro u hu e
      subst e
      have := I.rel.get t
      rw [hx] at this
      obtain ⟨vs, hv, _⟩ := vrel_tuple.1 this
      rw [Array.getD_eq_getD_getElem?, hu] at hv
      cases hv
    · cases hr0
theorem items_sound {call : Call} (hcall : CallOk P call) {ops : Array Oper} : ∀ (l : List AItem) (g : Bool) (pairs : List (Nat × Nat)) (gd : Option (Nat × Bool)) (seen : List Nat) (φ : Phi) (L : Nat → Nat) (s : Env) (h : Heap) (a : Act) (w : World) (k : Env → Heap → Option J) (r : J),
    runItems call g pairs l s h k = some r → (∀ e ∈ flatItems gd l, operOk P n ops e = true) → guardsAll g seen l = true → (∀ t want, gd = some (t, want) → look s.vals t = .bool want ∧ lookA s.lads t = none) →
    (match gd with | some (t, _) => t ∉ itemsDsts l | none => True) →
    In B n φ0 h0 w0 φ L s h a w → ∀ (Q : Exit → Act → World → Prop) (rest : List Nat), (∀ s' h' φ' L' a' w', k s' h' = some r → EnvStep g (itemsDsts l) s s' → In B n φ0 h0 w0 φ' L' s' h' a' w' → wpOps P ops Q rest a' w') → wpOps P ops Q ((flatItems gd l).map (·.2.1) ++ rest) a w
  | [], g, pairs, gd, seen, φ, L, s, h, a, w, k, r, hrun, _, _, _, _, I => by
    simp only [runItems] at hrun
    intro Q rest hrest
    simpa [flatItems] using hrest s h φ L a w hrun (EnvStep.refl _ _ _) I
  | x :: l, g, pairs, gd, seen, φ, L, s, h, a, w, k, r, hrun, hok, hgo, hgd, hnot, I => by
    simp only [runItems] at hrun
    simp only [guardsAll, Bool.and_eq_true] at hgo
    intro Q rest hrest
    simp only [flatItems, List.map_append, List.append_assoc]
    refine item_sound hcall x g pairs gd seen φ L s h a w _ r hrun (fun e he => hok e (by simp only [flatItems]; exact List.mem_append_left _ he)) hgo.1 hgd I Q _ ?_
    intro s1 h1 φ1 L1 a1 w1 hk1 he1 I1
    refine items_sound hcall l g pairs gd _ φ1 L1 s1 h1 a1 w1 k r hk1 (fun e he => hok e (by simp only [flatItems]; exact List.mem_append_right _ he)) hgo.2 ?_ ?_ I1 Q rest ?_
    · intro t want e
      subst e
      simp only [itemsDsts, List.mem_append, not_or] at hnot
      obtain ⟨q1, q2⟩ := he1.1 t hnot.1
      rw [q1, q2]
      exact hgd t want rfl
    · cases gd with
      | none => trivial
      | some p => simp only [itemsDsts, List.mem_append, not_or] at hnot; exact hnot.2
    · intro s' h' φ' L' a' w' hk he I'
      exact hrest s' h' φ' L' a' w' hk (he1.trans he) I'
end

/-- A region in the order of the text. -/
theorem region_sound {call : Call} (hcall : CallOk P call) {ops : Array Oper} {id : Nat} {items : List AItem} {pairs : List (Nat × Nat)} (hok : regionOk P n ops items = true) {k : Env → Heap → Option J} {r : J}
    (hrun : runItems call false pairs items s h k = some r) (I : In B n φ0 h0 w0 φ L s h a w) (Q : Exit → Act → World → Prop)
    (hQ : ∀ s' h' φ' L' a' w', k s' h' = some r → In B n φ0 h0 w0 φ' L' s' h' a' w' → Q .normal a' w') : (Code.region id ops false).wp P Q a w := by
  unfold regionOk at hok
  simp only [Bool.and_eq_true, decide_eq_true_eq, List.all_eq_true] at hok
  obtain ⟨⟨h1, h2⟩, h3⟩ := hok
  refine wp_region ?_
  rw [← h1]
  have := items_sound hcall items false pairs none [] φ L s h a w k r hrun h2 h3 (fun _ _ e => by cases e) trivial I Q [] ?_
  · simpa using this
  · intro s' h' φ' L' a' w' hk _ I'
    exact hQ s' h' φ' L' a' w' hk I'

end
end Go.Fw

/- Code: what the abstract run says, the model does. -/
namespace Go.Fw
set_option linter.unusedSimpArgs false
set_option linter.unusedVariables false

def exOf : AExit → Exit
  | .normal => .normal
  | .exit id => .exit id
  | .ret => .ret

/-- Set aside for the regions whose order is open. -/
def DrawSound (P : Program) (drawOk : Nat → Nat → Array Oper → List AItem → List (Nat × Nat) → Bool) : Prop :=
  ∀ (call : Call), CallOk P call → ∀ (B n : Nat) (φ0 : Phi) (h0 : Heap) (w0 : World) (φ : Phi) (L : Nat → Nat) (s : Env) (h : Heap) (a : Act) (w : World) (ops : Array Oper) (id : Nat) (items : List AItem) (pairs : List (Nat × Nat)) (r : J) (k : Env → Heap → Option J),
    ∀ (m b : Nat), drawOk n m ops items pairs = true → (m ≠ 0 → b = h.next) → (runItems call false pairs items { s.noLog with base := b } (h.res m) fun s' h' => bif checkPairs s'.log pairs then k s'.noLog h' else none) = some r → In B n φ0 h0 w0 φ L s h a w →
    ∀ (Q : Exit → Act → World → Prop), (∀ s' h' φ' L' a' w', k s' h' = some r → In B n φ0 h0 w0 φ' L' s' h' a' w' → Q .normal a' w') → (Code.region id ops true).wp P Q a w

def codeOk (P : Program) (drawOk : Nat → Nat → Array Oper → List AItem → List (Nat × Nat) → Bool) (n : Nat) : ACode → Code → Bool
  | .skip, .skip => true
  | .region items pairs, .region _ ops draw => (match draw with | true => drawOk n 0 ops items pairs | false => regionOk P n ops items)
  | .regionF m items pairs, .region _ ops draw => (match draw with | true => drawOk n m ops items pairs | false => false)
  | .seq a b, .seq a' b' => codeOk P drawOk n a a' && codeOk P drawOk n b b'
  | .cond c a b, .cond c' a' b' => opdOk c' c && codeOk P drawOk n a a' && codeOk P drawOk n b b'
  | .block id c, .block id' c' => Nat.beq id id' && codeOk P drawOk n c c'
  | .loop _ _ c, .loop c' => codeOk P drawOk n c c'
  | .join _ c, c' => codeOk P drawOk n c c'
  | .exit id, .exit id' => Nat.beq id id'
  | .ret, .ret => true
  | .dead, _ => true
  | _, _ => false

section
variable {P : Program} {B n : Nat} {φ0 : Phi} {h0 : Heap} {w0 : World} {φ : Phi} {L : Nat → Nat} {s : Env} {h : Heap} {a : Act} {w : World}

theorem look_none : ∀ (l : List (Nat × AVal)) (t : Nat), t ∉ l.map (·.1) → look l t = .undef
  | [], _, _ => rfl
  | (d, v) :: l, t, h => by
    simp only [List.map_cons, List.mem_cons, not_or] at h
    rw [look_cons, if_neg h.1]
    exact look_none l t h.2

theorem lookA_mem : ∀ (l : List (Nat × Nat × Nat)) (t : Nat) (p : Nat × Nat), lookA l t = some p → (t, p) ∈ l
  | [], _, _, h => by simp [lookA] at h
  | (d, v) :: l, t, p, h => by
    rw [lookA_cons] at h
    split at h
    · rename_i e; subst e; cases h; exact List.mem_cons_self
    · exact List.mem_cons_of_mem _ (lookA_mem l t p h)

theorem locOut_spec : ∀ (locs : List Nat) (cs : List AVal), s.locOut locs = some cs → cs.length = locs.length ∧ ∀ (j l : Nat), locs[j]? = some l → ∃ c, lookB s.locs l = some c ∧ lookA s.lads l = some (l, 0) ∧ cs[j]? = some (.agg c)
  | [], cs, h => by
    simp only [Env.locOut, Option.some.injEq] at h
    subst h
    exact ⟨rfl, by simp⟩
  | l :: locs, cs, h => by
    unfold Env.locOut at h
    split at h
    · rename_i c l' h1 h2
      cases hb : Nat.beq l l' with
      | false => rw [hb] at h; cases h
      | true =>
        rw [hb] at h
        have := Nat.eq_of_beq_eq_true hb
        subst this
        simp only [cond_true, Option.bind_eq_some_iff, Option.some.injEq] at h
        obtain ⟨vs, hvs, rfl⟩ := h
        obtain ⟨hl, hr⟩ := locOut_spec locs vs hvs
        refine ⟨by simp [hl], ?_⟩
        intro j q hq
        cases j with
        | zero => simp only [List.getElem?_cons_zero, Option.some.injEq] at hq; subst hq; exact ⟨c, h1, h2, rfl⟩
        | succ j => exact hr j q (by simpa using hq)
    · cases h

theorem lookB_zip (f : Nat → List AVal) : ∀ (locs : List Nat) (i l : Nat) (c : List AVal), lookB ((locs.zipIdx i).map fun p => (p.1, f p.2)) l = some c → ∃ j, locs[j]? = some l ∧ c = f (i + j)
  | [], i, l, c, h => by simp [lookB] at h
  | q :: locs, i, l, c, h => by
    rw [List.zipIdx_cons, List.map_cons, lookB_cons] at h
    split at h
    · rename_i e; subst e; cases h; exact ⟨0, rfl, rfl⟩
    · obtain ⟨j, h1, h2⟩ := lookB_zip f locs (i + 1) l c h
      exact ⟨j + 1, by simpa using h1, by rw [h2]; congr 1; omega⟩

theorem lookB_zip_some (f : Nat → List AVal) : ∀ (locs : List Nat) (i l : Nat), l ∈ locs → ∃ c, lookB ((locs.zipIdx i).map fun p => (p.1, f p.2)) l = some c
  | [], i, l, h => by cases h
  | q :: locs, i, l, h => by
    rw [List.zipIdx_cons, List.map_cons, lookB_cons]
    split
    · exact ⟨_, rfl⟩
    · rename_i hne
      rcases List.mem_cons.1 h with e | h
      · exact absurd e hne
      · exact lookB_zip_some f locs (i + 1) l h

theorem out_weak {live : Live} {xs : List AVal} (h : s.out live = some xs) : Weak (Env.mk' live xs) s := by
  unfold Env.out at h
  simp only [Option.bind_eq_some_iff, Option.some.injEq] at h
  obtain ⟨cs, hcs, rfl⟩ := h
  obtain ⟨hl, hr⟩ := locOut_spec _ _ hcs
  refine ⟨fun t _ => ?_, fun t l off ht => ?_, fun l c hc => ?_⟩
  · simp only [Env.mk']
    by_cases hm : t ∈ live.vals
    · right
      exact look_zip s.get _ live.vals 0 t (fun j l hj => by
        rw [Nat.zero_add, List.getD_eq_getElem?_getD]
        have hlt : j < live.vals.length := (List.getElem?_eq_some_iff.1 hj).1
        rw [List.getElem?_append_left (by simpa using hlt), List.getElem?_map, hj]
        rfl) hm
    · left
      refine look_none _ t ?_
      rw [List.map_map]
      have : ((fun x : Nat × AVal => x.1) ∘ fun p : Nat × Nat => (p.1, (live.vals.map s.get ++ cs).getD p.2 AVal.undef)) = fun p => p.1 := rfl
      rw [this, List.zipIdx_map_fst]
      exact hm
  · simp only [Env.mk'] at ht
    obtain ⟨q, hq, e⟩ := List.mem_map.1 (lookA_mem _ _ _ ht)
    simp only [Prod.mk.injEq] at e
    obtain ⟨rfl, rfl, rfl⟩ := e
    obtain ⟨j, hj⟩ := List.mem_iff_getElem?.1 hq
    obtain ⟨c, h1, h2, _⟩ := hr j q hj
    exact ⟨h2, lookB_zip_some (fun i => ((live.vals.map s.get ++ cs).getD (live.vals.length + i) AVal.undef).aggCells) live.locs 0 q hq⟩
  · simp only [Env.mk'] at hc
    obtain ⟨j, hj, rfl⟩ := lookB_zip (fun i => ((live.vals.map s.get ++ cs).getD (live.vals.length + i) AVal.undef).aggCells) live.locs 0 l c hc
    obtain ⟨c', h1, _, h3⟩ := hr j l hj
    rw [h1]
    congr 1
    rw [Nat.zero_add, List.getD_eq_getElem?_getD, List.getElem?_append_right (by simp)]
    simp only [List.length_map, Nat.add_sub_cancel_left, h3, Option.getD_some, AVal.aggCells]

theorem altOf_spec : ∀ (alts : List (AExit × Live)) (e : AExit) (base i : Nat) (l : Live), altOf e alts base = some (i, l) → base ≤ i ∧ alts[i - base]? = some (e, l)
  | [], e, base, i, l, h => by simp [altOf] at h
  | (e', l') :: alts, e, base, i, l, h => by
    unfold altOf at h
    cases hd : decide (e = e') with
    | true =>
      rw [hd] at h
      have := of_decide_eq_true hd
      subst this
      cases h
      exact ⟨Nat.le_refl _, by simp⟩
    | false =>
      rw [hd] at h
      obtain ⟨h1, h2⟩ := altOf_spec alts e (base + 1) i l h
      refine ⟨by omega, ?_⟩
      rw [show i - base = (i - (base + 1)) + 1 by omega]
      simpa using h2

/-- Out by one way, in again behind the join. -/
theorem leave_enter {alts : List (AExit × Live)} {base : Nat} {e : AExit} {r0 r : J} {k : AExit → Env → Heap → Option J} (h1 : leave alts base e s h = some r0) (h2 : enterAlt alts base k r0 = some r) (I : In B n φ0 h0 w0 φ L s h a w) :
    base ≤ r0.1 ∧ ∃ s', k e s' h = some r ∧ In B n φ0 h0 w0 φ L s' h a w := by
  unfold leave at h1
  split at h1
  · rename_i i l ha
    simp only [Option.bind_eq_some_iff, Option.some.injEq] at h1
    obtain ⟨xs, hxs, rfl⟩ := h1
    obtain ⟨hb, hg⟩ := altOf_spec _ _ _ _ _ ha
    rw [enterAlt_at k (x := (i, xs, h)) hb hg] at h2
    exact ⟨hb, _, h2, I.weak (out_weak hxs)⟩
  · cases h1

theorem lim_some {α : Type} {g : Nat → Option α} {r : α} (h : lim g = some r) : ∃ m, g m = some r := by
  unfold lim at h
  split at h
  · exact ⟨_, h⟩
  · cases h

theorem code_sound {drawOk : Nat → Nat → Array Oper → List AItem → List (Nat × Nat) → Bool} (hdraw : DrawSound P drawOk) {call : Call} (hcall : CallOk P call) : ∀ (ac : ACode) (c : Code), codeOk P drawOk n ac c = true →
    ∀ (φ : Phi) (L : Nat → Nat) (s : Env) (h : Heap) (a : Act) (w : World) (k : AExit → Env → Heap → Option J) (r : J), runC call ac s h k = some r → In B n φ0 h0 w0 φ L s h a w →
    ∀ (Q : Exit → Act → World → Prop), (∀ e s' h' φ' L' a' w', k e s' h' = some r → In B n φ0 h0 w0 φ' L' s' h' a' w' → Q (exOf e) a' w') → c.wp P Q a w
  | .skip, c, hok, φ, L, s, h, a, w, k, r, hrun, I, Q, hQ => by
    cases c <;> simp only [codeOk] at hok <;> first | (cases hok; done) | skip
    exact wp_skip (hQ .normal _ _ _ _ _ _ hrun I)
  | .region items pairs, c, hok, φ, L, s, h, a, w, k, r, hrun, I, Q, hQ => by
    cases c <;> simp only [codeOk] at hok <;> first | (cases hok; done) | skip
    rename_i id ops draw
    simp only [runC] at hrun
    cases draw with
    | false =>
      simp only at hok
      refine region_sound hcall hok hrun (I.env rfl rfl rfl) Q ?_
      intro s' h' φ' L' a' w' hk I'
      cases hcp : checkPairs s'.log pairs with
      | false => rw [hcp] at hk; cases hk
      | true =>
        rw [hcp] at hk
        exact hQ .normal _ _ _ _ _ _ hk (I'.env rfl rfl rfl)
    | true =>
      simp only at hok
      exact hdraw call hcall B n φ0 h0 w0 φ L s h a w ops id items pairs r (k .normal) 0 s.base hok (fun h => (h rfl).elim) hrun I Q fun s' h' φ' L' a' w' hk I' => hQ .normal _ _ _ _ _ _ hk I'
  | .regionF m items pairs, c, hok, φ, L, s, h, a, w, k, r, hrun, I, Q, hQ => by
    cases c <;> simp only [codeOk] at hok <;> first | (cases hok; done) | skip
    rename_i id ops draw
    simp only [runC] at hrun
    cases draw with
    | false => simp at hok
    | true =>
      simp only at hok
      exact hdraw call hcall B n φ0 h0 w0 φ L s h a w ops id items pairs r (k .normal) m h.next hok (fun _ => rfl) hrun I Q fun s' h' φ' L' a' w' hk I' => hQ .normal _ _ _ _ _ _ hk I'
  | .seq x y, c, hok, φ, L, s, h, a, w, k, r, hrun, I, Q, hQ => by
    cases c <;> simp only [codeOk] at hok <;> first | (cases hok; done) | skip
    simp only [Bool.and_eq_true] at hok
    simp only [runC] at hrun
    refine wp_seq (code_sound hdraw hcall x _ hok.1 φ L s h a w _ r hrun I _ ?_)
    intro e s' h' φ' L' a' w' hk I'
    cases e with
    | normal => exact code_sound hdraw hcall y _ hok.2 φ' L' s' h' a' w' k r hk I' Q hQ
    | exit id => exact hQ (.exit id) _ _ _ _ _ _ hk I'
    | ret => exact hQ .ret _ _ _ _ _ _ hk I'
  | .cond x y z, c, hok, φ, L, s, h, a, w, k, r, hrun, I, Q, hQ => by
    cases c <;> simp only [codeOk] at hok <;> first | (cases hok; done) | skip
    simp only [Bool.and_eq_true] at hok
    simp only [runC] at hrun
    have hx := opd_rel I.rel hok.1.1
    unfold condV at hrun
    split at hrun
    · rename_i t ht
      rw [ht, vrel_bool] at hx
      refine wp_cond hx ?_
      cases t with
      | true => exact code_sound hdraw hcall y _ hok.1.2 φ L s h a w k r hrun I Q hQ
      | false => exact code_sound hdraw hcall z _ hok.2 φ L s h a w k r hrun I Q hQ
    · cases hrun
  | .block id x, c, hok, φ, L, s, h, a, w, k, r, hrun, I, Q, hQ => by
    cases c <;> simp only [codeOk] at hok <;> first | (cases hok; done) | skip
    simp only [Bool.and_eq_true] at hok
    have e := Nat.eq_of_beq_eq_true hok.1
    subst e
    simp only [runC] at hrun
    refine wp_block (code_sound hdraw hcall x _ hok.2 φ L s h a w _ r hrun I _ ?_)
    intro e s' h' φ' L' a' w' hk I'
    cases e with
    | normal => exact hQ .normal _ _ _ _ _ _ hk I'
    | exit i =>
      simp only at hk
      cases hb : Nat.beq i id with
      | true =>
        rw [hb] at hk
        have := Nat.eq_of_beq_eq_true hb
        subst this
        simp only [exOf, Exit.inBlock, if_true]
        exact hQ .normal _ _ _ _ _ _ hk I'
      | false =>
        rw [hb] at hk
        have := Nat.ne_of_beq_eq_false hb
        simp only [exOf, Exit.inBlock, if_neg this]
        exact hQ (.exit i) _ _ _ _ _ _ hk I'
    | ret => exact hQ .ret _ _ _ _ _ _ hk I'
  | .exit id, c, hok, φ, L, s, h, a, w, k, r, hrun, I, Q, hQ => by
    cases c <;> simp only [codeOk] at hok <;> first | (cases hok; done) | skip
    have e := Nat.eq_of_beq_eq_true hok
    subst e
    exact wp_exit (hQ (.exit id) _ _ _ _ _ _ hrun I)
  | .ret, c, hok, φ, L, s, h, a, w, k, r, hrun, I, Q, hQ => by
    cases c <;> simp only [codeOk] at hok <;> first | (cases hok; done) | skip
    exact wp_ret (hQ .ret _ _ _ _ _ _ hrun I)
  | .dead, c, hok, φ, L, s, h, a, w, k, r, hrun, I, Q, hQ => by
    simp [runC] at hrun
  | .join alts x, c, hok, φ, L, s, h, a, w, k, r, hrun, I, Q, hQ => by
    have hok' : codeOk P drawOk n x c = true := by
      cases c <;> exact hok
    simp only [runC, Option.bind_eq_some_iff] at hrun
    obtain ⟨r0, h1, h2⟩ := hrun
    refine code_sound hdraw hcall x c hok' φ L s h a w _ r0 h1 I Q ?_
    intro e s' h' φ' L' a' w' hk I'
    obtain ⟨_, s2, hk2, I2⟩ := leave_enter hk h2 I'
    exact hQ e _ _ _ _ _ _ hk2 I2
  | .loop live alts x, c, hok, φ, L, s, h, a, w, k, r, hrun, I, Q, hQ => by
    cases c <;> simp only [codeOk] at hok <;> first | (cases hok; done) | skip
    rename_i c
    simp only [runC, Option.bind_eq_some_iff] at hrun
    obtain ⟨xs, hxs, r0, hloop, hent⟩ := hrun
    obtain ⟨m, hm⟩ := lim_some hloop
    have key : ∀ (m : Nat) (xs : List AVal) (h : Heap) (φ : Phi) (L : Nat → Nat) (a : Act) (w : World), iter (fun xs h => runC call x (Env.mk' live xs) h (loopK live alts)) m xs h = some r0 → In B n φ0 h0 w0 φ L (Env.mk' live xs) h a w →
        ∀ (b : Frame) (kk : List Item) (cs : List Frame), ∃ e a' w', Q e a' w' ∧ Arrives P (lone (b.at a (.code c :: .inLoop c :: kk)) cs w) b kk cs e a' w' := by
      intro m
      induction m with
      | zero => intro xs h φ L a w hi; simp [iter] at hi
      | succ m ih =>
        intro xs h φ L a w hi I b kk cs
        simp only [iter] at hi
        split at hi
        · rename_i ys h1 hF
          have hbody := code_sound hdraw hcall x c hok φ L (Env.mk' live xs) h a w _ (0, ys, h1) hF I (Exit.then (fun a' w' => ∀ (b : Frame) (kk : List Item) (cs : List Frame), ∃ e a2 w2, Q e a2 w2 ∧ Arrives P (lone (b.at a' (.code c :: .inLoop c :: kk)) cs w') b kk cs e a2 w2) Q) ?_
          · obtain ⟨e, a1, w1, hq, harr⟩ := hbody b (.inLoop c :: kk) cs
            cases e with
            | normal =>
              obtain ⟨e2, a2, w2, hq2, harr2⟩ := hq b kk cs
              exact ⟨e2, a2, w2, hq2, .of_steps (Steps.trans harr (.one step_inLoop)) harr2⟩
            | exit id => exact ⟨_, a1, w1, hq, .pass (x := .inLoop c) rfl (fun _ _ => .inl (by simp)) harr⟩
            | goto l => exact ⟨_, a1, w1, hq, .pass (x := .inLoop c) rfl (fun _ _ => .inl (by simp)) harr⟩
            | ret => exact ⟨_, a1, w1, hq, .pass (x := .inLoop c) rfl (fun _ _ => .inl (by simp)) harr⟩
            | panic ch => exact ⟨_, a1, w1, hq, .pass (x := .inLoop c) rfl (fun _ _ => .inl (by simp)) harr⟩
            | outgrown => exact ⟨_, a1, w1, hq, .pass (x := .inLoop c) rfl (fun _ _ => .inl (by simp)) harr⟩
          · intro e s' h' φ' L' a' w' hk I'
            cases e with
            | normal =>
              simp only [loopK, Option.bind_eq_some_iff, Option.some.injEq, Prod.mk.injEq, true_and] at hk
              obtain ⟨zs, hzs, rfl, rfl⟩ := hk
              exact ih zs h' φ' L' a' w' hi (I'.weak (out_weak hzs))
            | exit id =>
              exfalso
              simp only [loopK, leave] at hk
              split at hk
              · rename_i i l ha
                simp only [Option.bind_eq_some_iff, Option.some.injEq, Prod.mk.injEq] at hk
                obtain ⟨_, _, rfl, _⟩ := hk
                have := (altOf_spec _ _ _ _ _ ha).1
                omega
              · cases hk
            | ret =>
              exfalso
              simp only [loopK, leave] at hk
              split at hk
              · rename_i i l ha
                simp only [Option.bind_eq_some_iff, Option.some.injEq, Prod.mk.injEq] at hk
                obtain ⟨_, _, rfl, _⟩ := hk
                have := (altOf_spec _ _ _ _ _ ha).1
                omega
              · cases hk
        · rename_i hne
          have hbody := code_sound hdraw hcall x c hok φ L (Env.mk' live xs) h a w _ r0 hi I (Exit.then (fun _ _ => False) Q) ?_
          · obtain ⟨e, a1, w1, hq, harr⟩ := hbody b (.inLoop c :: kk) cs
            cases e with
            | normal => exact hq.elim
            | exit id => exact ⟨_, a1, w1, hq, .pass (x := .inLoop c) rfl (fun _ _ => .inl (by simp)) harr⟩
            | goto l => exact ⟨_, a1, w1, hq, .pass (x := .inLoop c) rfl (fun _ _ => .inl (by simp)) harr⟩
            | ret => exact ⟨_, a1, w1, hq, .pass (x := .inLoop c) rfl (fun _ _ => .inl (by simp)) harr⟩
            | panic ch => exact ⟨_, a1, w1, hq, .pass (x := .inLoop c) rfl (fun _ _ => .inl (by simp)) harr⟩
            | outgrown => exact ⟨_, a1, w1, hq, .pass (x := .inLoop c) rfl (fun _ _ => .inl (by simp)) harr⟩
          · intro e s' h' φ' L' a' w' hk I'
            cases e with
            | normal =>
              simp only [loopK, Option.bind_eq_some_iff, Option.some.injEq] at hk
              obtain ⟨zs, _, rfl⟩ := hk
              exact absurd hi (hne _ _)
            | exit id =>
              obtain ⟨_, s2, hk2, I2⟩ := leave_enter hk hent I'
              exact hQ (.exit id) _ _ _ _ _ _ hk2 I2
            | ret =>
              obtain ⟨_, s2, hk2, I2⟩ := leave_enter hk hent I'
              exact hQ .ret _ _ _ _ _ _ hk2 I2
    intro b kk cs
    obtain ⟨e, a', w', hq, harr⟩ := key m xs h φ L a w hm (I.weak (out_weak hxs)) b kk cs
    exact ⟨e, a', w', hq, .of_steps (.one step_loop) harr⟩

end
end Go.Fw

/- What a run leans on is finite: so the limit over the depth of calls answers as its own equation says. -/
namespace Go.Fw
set_option linter.unusedSimpArgs false
set_option linter.unusedVariables false

abbrev CFact := Nat × List AVal × Heap × AVal × Heap
def CF (call : Call) (Q : List CFact) : Prop := ∀ q ∈ Q, call q.1 q.2.1 q.2.2.1 = some (q.2.2.2.1, q.2.2.2.2)
theorem CF.left {call : Call} {Q R : List CFact} (h : CF call (Q ++ R)) : CF call Q := fun q hq => h q (List.mem_append_left _ hq)
theorem CF.right {call : Call} {Q R : List CFact} (h : CF call (Q ++ R)) : CF call R := fun q hq => h q (List.mem_append_right _ hq)
theorem CF.app {call : Call} {Q R : List CFact} (h : CF call Q) (k : CF call R) : CF call (Q ++ R) := fun q hq => (List.mem_append.1 hq).elim (h q) (k q)
theorem CF.nil (call : Call) : CF call [] := fun q hq => by cases hq
theorem CF.one {call : Call} {f : Nat} {args : List AVal} {h : Heap} {r : AVal × Heap} (e : call f args h = some r) : CF call [(f, args, h, r.1, r.2)] := fun q hq => by
  rw [List.mem_singleton] at hq; subst hq; exact e
theorem CF.get1 {call : Call} {f : Nat} {args : List AVal} {h : Heap} {r : AVal × Heap} (e : CF call [(f, args, h, r.1, r.2)]) : call f args h = some r := e _ List.mem_cons_self

/-- One step goes to one state. -/
theorem stepOp_use {call : Call} {g : Bool} {ao : AOp} {s : Env} {h : Heap} {k : Env → Heap → Option J} {r : J} (hrun : stepOp call g ao s h k = some r) :
    ∃ s' h' Q, k s' h' = some r ∧ CF call Q ∧ ∀ (call' : Call) (k' : Env → Heap → Option J), CF call' Q → stepOp call' g ao s h k' = k' s' h' := by
  cases ao with
  | mov d x =>
    simp only [stepOp] at hrun
    split at hrun
    · rename_i l o hl
      exact ⟨_, _, [], hrun, CF.nil _, fun call' k' _ => by simp only [stepOp, hl]⟩
    · rename_i hl
      exact ⟨_, _, [], hrun, CF.nil _, fun call' k' _ => by simp only [stepOp, hl]⟩
  | nilchk d x =>
    simp only [stepOp] at hrun
    split at hrun
    · rename_i l o hl
      exact ⟨_, _, [], hrun, CF.nil _, fun call' k' _ => by simp only [stepOp, hl]⟩
    · rename_i hl
      simp only [Option.bind_eq_some_iff] at hrun
      obtain ⟨v, hv, hk⟩ := hrun
      exact ⟨_, _, [], hk, CF.nil _, fun call' k' _ => by simp only [stepOp, hl, hv, Option.bind_some]⟩
  | faddr d off x =>
    simp only [stepOp] at hrun
    split at hrun
    · rename_i l o hl
      exact ⟨_, _, [], hrun, CF.nil _, fun call' k' _ => by simp only [stepOp, hl]⟩
    · rename_i hl
      simp only [Option.bind_eq_some_iff] at hrun
      obtain ⟨v, hv, hk⟩ := hrun
      exact ⟨_, _, [], hk, CF.nil _, fun call' k' _ => by simp only [stepOp, hl, hv, Option.bind_some]⟩
  | iaddr d arr es x i =>
    cases arr with
    | none =>
      simp only [stepOp, Option.bind_eq_some_iff] at hrun
      obtain ⟨v, hv, hk⟩ := hrun
      exact ⟨_, _, [], hk, CF.nil _, fun call' k' _ => by simp only [stepOp, hv, Option.bind_some]⟩
    | some len =>
      simp only [stepOp] at hrun
      split at hrun
      · rename_i l o hl
        simp only [Option.bind_eq_some_iff] at hrun
        obtain ⟨v, hv, hk⟩ := hrun
        exact ⟨_, _, [], hk, CF.nil _, fun call' k' _ => by simp only [stepOp, hl, hv, Option.bind_some]⟩
      · rename_i hl
        simp only [Option.bind_eq_some_iff] at hrun
        obtain ⟨v, hv, hk⟩ := hrun
        exact ⟨_, _, [], hk, CF.nil _, fun call' k' _ => by simp only [stepOp, hl, hv, Option.bind_some]⟩
  | box d loc x =>
    cases loc with
    | true =>
      simp only [stepOp] at hrun
      cases hb : (!g && s.fresh d) with
      | false => rw [hb] at hrun; cases hrun
      | true =>
        rw [hb] at hrun
        simp only [cond_true, Option.bind_eq_some_iff] at hrun
        obtain ⟨v, hv, hk⟩ := hrun
        exact ⟨_, _, [], hk, CF.nil _, fun call' k' _ => by simp only [stepOp, hb, cond_true, hv, Option.bind_some]⟩
    | false =>
      simp only [stepOp, Option.bind_eq_some_iff] at hrun
      obtain ⟨v, hv, hk⟩ := hrun
      exact ⟨_, _, [], hk, CF.nil _, fun call' k' _ => by simp only [stepOp, hv, Option.bind_some]⟩
  | alloc d loc zero =>
    cases loc with
    | true =>
      simp only [stepOp] at hrun
      cases hb : (!g && s.fresh d) with
      | false => rw [hb] at hrun; cases hrun
      | true =>
        rw [hb] at hrun
        exact ⟨_, _, [], hrun, CF.nil _, fun call' k' _ => by simp only [stepOp, hb, cond_true]⟩
    | false =>
      simp only [stepOp] at hrun
      exact ⟨_, _, [], hrun, CF.nil _, fun call' k' _ => by simp only [stepOp]⟩
  | load d agg m x =>
    simp only [stepOp] at hrun
    split at hrun
    · rename_i l off hl
      simp only [Option.bind_eq_some_iff] at hrun
      obtain ⟨cs, ⟨cs0, h1, h2⟩, v, hv, hk⟩ := hrun
      exact ⟨_, _, [], hk, CF.nil _, fun call' k' _ => by simp only [stepOp, hl, h1, h2, hv, Option.bind_some]⟩
    · rename_i hl
      simp only [Option.bind_eq_some_iff] at hrun
      obtain ⟨cs, h1, v, hv, hk⟩ := hrun
      exact ⟨_, _, [], hk, CF.nil _, fun call' k' _ => by simp only [stepOp, hl, h1, hv, Option.bind_some]⟩
  | store agg m x v =>
    simp only [stepOp, Option.bind_eq_some_iff] at hrun
    obtain ⟨cs, hcs, hrun⟩ := hrun
    split at hrun
    · rename_i l off hl
      cases g with
      | true => cases hrun
      | false =>
        simp only [Bool.not_false, cond_true, Option.bind_eq_some_iff] at hrun
        obtain ⟨old, hold, hrun⟩ := hrun
        cases hb : Nat.ble (off + m) old.length with
        | false => rw [hb] at hrun; cases hrun
        | true =>
          rw [hb] at hrun
          exact ⟨_, _, [], hrun, CF.nil _, fun call' k' _ => by simp only [stepOp, hcs, hl, hold, hb, Option.bind_some, Bool.not_false, cond_true]⟩
    · rename_i hl
      simp only [Option.bind_eq_some_iff] at hrun
      obtain ⟨h', hh', hk⟩ := hrun
      exact ⟨_, _, [], hk, CF.nil _, fun call' k' _ => by simp only [stepOp, hcs, hl, hh', Option.bind_some]⟩
  | index d kk x i =>
    cases kk with
    | str =>
      simp only [stepOp, Option.bind_eq_some_iff] at hrun
      obtain ⟨v, hv, hk⟩ := hrun
      exact ⟨_, _, [], hk, CF.nil _, fun call' k' _ => by simp only [stepOp, hv, Option.bind_some]⟩
    | arr len es agg =>
      simp only [stepOp, Option.bind_eq_some_iff] at hrun
      obtain ⟨cs, h1, v, hv, hk⟩ := hrun
      exact ⟨_, _, [], hk, CF.nil _, fun call' k' _ => by simp only [stepOp, h1, hv, Option.bind_some]⟩
  | slice d kk x lo hi mx =>
    cases kk <;>
    · simp only [stepOp, Option.bind_eq_some_iff] at hrun
      obtain ⟨v, hv, hk⟩ := hrun
      exact ⟨_, _, [], hk, CF.nil _, fun call' k' _ => by simp only [stepOp, hv, Option.bind_some]⟩
  | field d agg off m x =>
    simp only [stepOp, Option.bind_eq_some_iff] at hrun
    obtain ⟨cs, h1, v, hv, hk⟩ := hrun
    exact ⟨_, _, [], hk, CF.nil _, fun call' k' _ => by simp only [stepOp, h1, hv, Option.bind_some]⟩
  | mkIface d t x => exact ⟨_, _, [], hrun, CF.nil _, fun call' k' _ => rfl⟩
  | mkFunc d f caps => exact ⟨_, _, [], hrun, CF.nil _, fun call' k' _ => rfl⟩
  | call d f args =>
    simp only [stepOp, Option.bind_eq_some_iff] at hrun
    obtain ⟨v, hv, hk⟩ := hrun
    exact ⟨_, _, _, hk, CF.one hv, fun call' k' hq => by simp only [stepOp, CF.get1 hq, Option.bind_some]⟩
  | callv d fn args =>
    simp only [stepOp, Option.bind_eq_some_iff] at hrun
    obtain ⟨fc, hfc, v, hv, hk⟩ := hrun
    exact ⟨_, _, _, hk, CF.one hv, fun call' k' hq => by simp only [stepOp, hfc, CF.get1 hq, Option.bind_some]⟩
  | invoke d tbl recv args =>
    simp only [stepOp, Option.bind_eq_some_iff] at hrun
    obtain ⟨fc, hfc, v, hv, hk⟩ := hrun
    exact ⟨_, _, _, hk, CF.one hv, fun call' k' hq => by simp only [stepOp, hfc, CF.get1 hq, Option.bind_some]⟩
  | _ =>
    simp only [stepOp, Option.bind_eq_some_iff] at hrun
    obtain ⟨v, hv, hk⟩ := hrun
    exact ⟨_, _, [], hk, CF.nil _, fun call' k' _ => by simp only [stepOp, hv, Option.bind_some]⟩

mutual
theorem item_use {call : Call} : ∀ (x : AItem) (g : Bool) (pairs : List (Nat × Nat)) (s : Env) (h : Heap) (k : Env → Heap → Option J) (r : J), runItem call g pairs x s h k = some r →
    ∃ s' h' Q, k s' h' = some r ∧ CF call Q ∧ ∀ (call' : Call) (k' : Env → Heap → Option J), CF call' Q → runItem call' g pairs x s h k' = k' s' h'
  | .op i o, g, pairs, s, h, k, r, hrun => by
    simp only [runItem] at hrun
    obtain ⟨s', h', Q, hk, hQ, hu⟩ := stepOp_use hrun
    exact ⟨_, _, Q, hk, hQ, fun call' k' hc => by simp only [runItem]; rw [hu call' _ hc]⟩
  | .guard t want items ps live, g, pairs, s, h, k, r, hrun => by
    simp only [runItem, Option.bind_eq_some_iff] at hrun
    obtain ⟨r0, hr0, hk⟩ := hrun
    unfold guardV at hr0
    split at hr0
    · rename_i x hx
      cases hxw : (x == want) with
      | true =>
        rw [hxw] at hr0
        obtain ⟨s1, h1, Q, hk1, hQ, hu⟩ := items_use items true ps s.noLog h _ r0 hr0
        refine ⟨_, _, Q, hk, hQ, fun call' k' hc => ?_⟩
        simp only [runItem, guardV, hx, hxw, cond_true]
        rw [hu call' _ hc, hk1]
        rfl
      | false =>
        rw [hxw] at hr0
        refine ⟨_, _, [], hk, CF.nil _, fun call' k' hc => ?_⟩
        simp only [runItem, guardV, hx, hxw, cond_false]
        cases hr0
        rfl
    · rename_i hx
      refine ⟨_, _, [], hk, CF.nil _, fun call' k' hc => ?_⟩
      simp only [runItem, guardV, hx]
      cases hr0
      rfl
    · cases hr0
theorem items_use {call : Call} : ∀ (l : List AItem) (g : Bool) (pairs : List (Nat × Nat)) (s : Env) (h : Heap) (k : Env → Heap → Option J) (r : J), runItems call g pairs l s h k = some r →
    ∃ s' h' Q, k s' h' = some r ∧ CF call Q ∧ ∀ (call' : Call) (k' : Env → Heap → Option J), CF call' Q → runItems call' g pairs l s h k' = k' s' h'
  | [], g, pairs, s, h, k, r, hrun => ⟨s, h, [], by simpa [runItems] using hrun, CF.nil _, fun call' k' _ => by simp [runItems]⟩
  | x :: l, g, pairs, s, h, k, r, hrun => by
    simp only [runItems] at hrun
    obtain ⟨s1, h1, Q1, hk1, hQ1, hu1⟩ := item_use x g pairs s h _ r hrun
    obtain ⟨s2, h2, Q2, hk2, hQ2, hu2⟩ := items_use l g pairs s1 h1 k r hk1
    exact ⟨s2, h2, Q1 ++ Q2, hk2, hQ1.app hQ2, fun call' k' hc => by simp only [runItems]; rw [hu1 call' _ hc.left, hu2 call' k' hc.right]⟩
end

theorem iter_mono (f : List AVal → Heap → Option J) : ∀ (m : Nat) (xs : List AVal) (h : Heap) (r : J), iter f m xs h = some r → iter f (m + 1) xs h = some r
  | 0, xs, h, r, hi => by simp [iter] at hi
  | m + 1, xs, h, r, hi => by
    rw [iter] at hi ⊢
    split at hi
    · rename_i ys h1 hf
      exact iter_mono f m ys h1 r hi
    · exact hi

theorem mono_le {α : Type} {g : Nat → Option α} (hm : ∀ m r, g m = some r → g (m + 1) = some r) : ∀ (d m : Nat) (r : α), g m = some r → g (m + d) = some r
  | 0, m, r, h => h
  | d + 1, m, r, h => hm (m + d) r (mono_le hm d m r h)

theorem lim_eq {α : Type} {g : Nat → Option α} (hm : ∀ m r, g m = some r → g (m + 1) = some r) {m : Nat} {r : α} (h : g m = some r) : lim g = some r := by
  have hex : ∃ n r, g n = some r := ⟨m, r, h⟩
  unfold lim
  rw [dif_pos hex]
  obtain ⟨r', hr'⟩ := hex.choose_spec
  have h1 := mono_le hm m hex.choose r' hr'
  have h2 := mono_le hm hex.choose m r h
  rw [Nat.add_comm] at h2
  rw [h1] at h2
  cases h2
  exact hr'

theorem lim_some' {α : Type} {g : Nat → Option α} {r : α} (h : lim g = some r) : ∃ m, g m = some r := by
  unfold lim at h
  split at h
  · exact ⟨_, h⟩
  · cases h

abbrev KFact := AExit × Env × Heap × J
def KF (k : AExit → Env → Heap → Option J) (K : List KFact) : Prop := ∀ q ∈ K, k q.1 q.2.1 q.2.2.1 = some q.2.2.2

theorem runC_use {call : Call} : ∀ (ac : ACode) (s : Env) (h : Heap) (k : AExit → Env → Heap → Option J) (r : J), runC call ac s h k = some r →
    ∃ e s' h' Q, k e s' h' = some r ∧ CF call Q ∧ ∀ (call' : Call) (k' : AExit → Env → Heap → Option J), CF call' Q → runC call' ac s h k' = k' e s' h'
  | .skip, s, h, k, r, hrun => ⟨_, _, _, [], hrun, CF.nil _, fun call' k' _ => rfl⟩
  | .exit id, s, h, k, r, hrun => ⟨_, _, _, [], hrun, CF.nil _, fun call' k' _ => rfl⟩
  | .ret, s, h, k, r, hrun => ⟨_, _, _, [], hrun, CF.nil _, fun call' k' _ => rfl⟩
  | .dead, s, h, k, r, hrun => by simp [runC] at hrun
  | .region items pairs, s, h, k, r, hrun => by
    simp only [runC] at hrun
    obtain ⟨s1, h1, Q, hk1, hQ, hu⟩ := items_use items false pairs s.noLog h _ r hrun
    cases hcp : checkPairs s1.log pairs with
    | false => rw [hcp] at hk1; cases hk1
    | true =>
      rw [hcp] at hk1
      refine ⟨_, _, _, Q, hk1, hQ, fun call' k' hc => ?_⟩
      simp only [runC]
      rw [hu call' _ hc, hcp]
      rfl
  | .regionF m items pairs, s, h, k, r, hrun => by
    simp only [runC] at hrun
    obtain ⟨s1, h1, Q, hk1, hQ, hu⟩ := items_use items false pairs { s.noLog with base := h.next } (h.res m) _ r hrun
    cases hcp : checkPairs s1.log pairs with
    | false => rw [hcp] at hk1; cases hk1
    | true =>
      rw [hcp] at hk1
      refine ⟨_, _, _, Q, hk1, hQ, fun call' k' hc => ?_⟩
      simp only [runC]
      rw [hu call' _ hc, hcp]
      rfl
  | .seq a b, s, h, k, r, hrun => by
    simp only [runC] at hrun
    obtain ⟨e, s1, h1, Q1, hk1, hQ1, hu1⟩ := runC_use a s h _ r hrun
    cases e with
    | normal =>
      obtain ⟨e2, s2, h2, Q2, hk2, hQ2, hu2⟩ := runC_use b s1 h1 k r hk1
      refine ⟨e2, s2, h2, Q1 ++ Q2, hk2, hQ1.app hQ2, fun call' k' hc => ?_⟩
      simp only [runC]
      rw [hu1 call' _ hc.left]
      exact hu2 call' k' hc.right
    | exit id => exact ⟨.exit id, s1, h1, Q1, hk1, hQ1, fun call' k' hc => by simp only [runC]; rw [hu1 call' _ hc]⟩
    | ret => exact ⟨.ret, s1, h1, Q1, hk1, hQ1, fun call' k' hc => by simp only [runC]; rw [hu1 call' _ hc]⟩
  | .cond c a b, s, h, k, r, hrun => by
    simp only [runC] at hrun
    unfold condV at hrun
    split at hrun
    · rename_i t ht
      cases t with
      | true =>
        obtain ⟨e, s1, h1, Q1, hk1, hQ1, hu1⟩ := runC_use a s h k r hrun
        exact ⟨e, s1, h1, Q1, hk1, hQ1, fun call' k' hc => by simp only [runC, condV, ht, cond_true]; exact hu1 call' k' hc⟩
      | false =>
        obtain ⟨e, s1, h1, Q1, hk1, hQ1, hu1⟩ := runC_use b s h k r hrun
        exact ⟨e, s1, h1, Q1, hk1, hQ1, fun call' k' hc => by simp only [runC, condV, ht, cond_false]; exact hu1 call' k' hc⟩
    · cases hrun
  | .block id c, s, h, k, r, hrun => by
    simp only [runC] at hrun
    obtain ⟨e, s1, h1, Q1, hk1, hQ1, hu1⟩ := runC_use c s h _ r hrun
    cases e with
    | normal => exact ⟨.normal, s1, h1, Q1, hk1, hQ1, fun call' k' hc => by simp only [runC]; rw [hu1 call' _ hc]⟩
    | exit i =>
      simp only at hk1
      cases hb : Nat.beq i id with
      | true =>
        rw [hb] at hk1
        exact ⟨.normal, s1, h1, Q1, hk1, hQ1, fun call' k' hc => by simp only [runC]; rw [hu1 call' _ hc]; simp only [hb, cond_true]⟩
      | false =>
        rw [hb] at hk1
        exact ⟨.exit i, s1, h1, Q1, hk1, hQ1, fun call' k' hc => by simp only [runC]; rw [hu1 call' _ hc]; simp only [hb, cond_false]⟩
    | ret => exact ⟨.ret, s1, h1, Q1, hk1, hQ1, fun call' k' hc => by simp only [runC]; rw [hu1 call' _ hc]⟩
  | .join alts c, s, h, k, r, hrun => by
    simp only [runC, Option.bind_eq_some_iff] at hrun
    obtain ⟨r0, h1, h2⟩ := hrun
    obtain ⟨e, s1, h1', Q1, hk1, hQ1, hu1⟩ := runC_use c s h _ r0 h1
    obtain ⟨hb, e2, l, ha, h2⟩ := enterAlt_spec h2
    refine ⟨e2, _, _, Q1, h2, hQ1, fun call' k' hc => ?_⟩
    simp only [runC]
    rw [hu1 call' _ hc, hk1]
    simp only [Option.bind_some]
    exact enterAlt_at k' hb ha
  | .loop live alts c, s, h, k, r, hrun => by
    simp only [runC, Option.bind_eq_some_iff] at hrun
    obtain ⟨xs, hxs, r0, hloop, hent⟩ := hrun
    obtain ⟨m, hm⟩ := lim_some' hloop
    have key : ∀ (m : Nat) (xs : List AVal) (h : Heap), iter (fun xs h => runC call c (Env.mk' live xs) h (loopK live alts)) m xs h = some r0 → ∃ Q, CF call Q ∧ ∀ call' : Call, CF call' Q → iter (fun xs h => runC call' c (Env.mk' live xs) h (loopK live alts)) m xs h = some r0 := by
      intro m
      induction m with
      | zero => intro xs h hi; simp [iter] at hi
      | succ m ih =>
        intro xs h hi
        rw [iter] at hi
        split at hi
        · rename_i ys h1 hF
          obtain ⟨e, s1, h1', Q1, hk1, hQ1, hu1⟩ := runC_use c _ _ _ _ hF
          obtain ⟨Q2, hQ2, hu2⟩ := ih ys h1 hi
          refine ⟨Q1 ++ Q2, hQ1.app hQ2, fun call' hc => ?_⟩
          rw [iter]
          simp only [hu1 call' _ hc.left, hk1]
          exact hu2 call' hc.right
        · rename_i hne
          obtain ⟨e, s1, h1', Q1, hk1, hQ1, hu1⟩ := runC_use c _ _ _ _ hi
          refine ⟨Q1, hQ1, fun call' hc => ?_⟩
          rw [iter]
          simp only [hu1 call' _ hc, hk1]
          obtain ⟨i, ys, hh⟩ := r0
          cases i with
          | zero => exact absurd hi (hne ys hh)
          | succ i => rfl
    obtain ⟨Q, hQ, hu⟩ := key m xs h hm
    obtain ⟨hb, e2, l, ha, hent⟩ := enterAlt_spec hent
    · refine ⟨e2, _, _, Q, hent, hQ, fun call' k' hc => ?_⟩
      have hl : loop (fun xs h => runC call' c (Env.mk' live xs) h (loopK live alts)) xs h = some r0 := lim_eq (fun m r hh => iter_mono _ m xs h r hh) (hu call' hc)
      simp only [runC]
      rw [hxs]
      simp only [Option.bind_some]
      rw [hl]
      simp only [Option.bind_some]
      exact enterAlt_at k' hb ha

theorem runFn_use {call : Call} {a : AFn} {args : List AVal} {h : Heap} {r : AVal × Heap} (hrun : runFn call a args h = some r) : ∃ Q, CF call Q ∧ ∀ call' : Call, CF call' Q → runFn call' a args h = some r := by
  cases a with
  | prim sem => exact ⟨[], CF.nil _, fun call' _ => hrun⟩
  | code f =>
    simp only [runFn] at hrun
    cases hb : Nat.beq args.length f.nargs with
    | false => rw [hb] at hrun; cases hrun
    | true =>
      rw [hb] at hrun
      simp only [cond_true, Option.bind_eq_some_iff] at hrun
      obtain ⟨r0, h1, h2⟩ := hrun
      obtain ⟨e, s1, h1', Q1, hk1, hQ1, hu1⟩ := runC_use f.body _ _ _ _ h1
      exact ⟨Q1, hQ1, fun call' hc => by simp only [runFn, hb, cond_true, hu1 call' _ hc, hk1, Option.bind_some, h2]⟩

theorem runF_mono (tbl : Nat → Option AFn) : ∀ (n f : Nat) (args : List AVal) (h : Heap) (r : AVal × Heap), runF tbl n f args h = some r → runF tbl (n + 1) f args h = some r
  | 0, f, args, h, r, hr => by simp [runF] at hr
  | n + 1, f, args, h, r, hr => by
    rw [runF] at hr ⊢
    split at hr
    · rename_i a ha
      obtain ⟨Q, hQ, hu⟩ := runFn_use hr
      exact hu _ fun q hq => runF_mono tbl n _ _ _ _ (hQ q hq)
    · cases hr

theorem E_some {tbl : Nat → Option AFn} {f : Nat} {args : List AVal} {h : Heap} {r : AVal × Heap} : E tbl f args h = some r ↔ ∃ n, runF tbl n f args h = some r :=
  ⟨fun e => lim_some' e, fun ⟨n, e⟩ => lim_eq (g := fun n => runF tbl n f args h) (fun m r hh => runF_mono tbl m f args h r hh) e⟩

/-- The equation of what a function answers. -/
theorem E_eq (tbl : Nat → Option AFn) (f : Nat) (args : List AVal) (h : Heap) : E tbl f args h = match tbl f with | some a => runFn (E tbl) a args h | none => none := by
  apply Option.ext
  intro r
  constructor
  · intro e
    obtain ⟨n, hn⟩ := E_some.1 e
    cases n with
    | zero => simp [runF] at hn
    | succ n =>
      rw [runF] at hn
      split at hn
      · rename_i a ha
        obtain ⟨Q, hQ, hu⟩ := runFn_use hn
        simp only [ha]
        exact hu _ fun q hq => E_some.2 ⟨n, hQ q hq⟩
      · cases hn
  · intro e
    split at e
    · rename_i a ha
      obtain ⟨Q, hQ, hu⟩ := runFn_use e
      have hN : ∀ (Q : List CFact), CF (E tbl) Q → ∃ N, CF (runF tbl N) Q := by
        intro Q
        induction Q with
        | nil => intro _; exact ⟨0, CF.nil _⟩
        | cons q Q ih =>
          intro hc
          obtain ⟨N, hN⟩ := ih fun p hp => hc p (List.mem_cons_of_mem _ hp)
          obtain ⟨M, hM⟩ := E_some.1 (hc q List.mem_cons_self)
          refine ⟨N + M, fun p hp => ?_⟩
          rcases List.mem_cons.1 hp with rfl | hp
          · have := mono_le (g := fun n => runF tbl n p.1 p.2.1 p.2.2.1) (fun m r hh => runF_mono tbl m _ _ _ r hh) N M _ hM
            rw [Nat.add_comm]
            exact this
          · exact mono_le (g := fun n => runF tbl n p.1 p.2.1 p.2.2.1) (fun m r hh => runF_mono tbl m _ _ _ r hh) M N _ (hN p hp)
      obtain ⟨N, hN⟩ := hN Q hQ
      refine E_some.2 ⟨N + 1, ?_⟩
      rw [runF, ha]
      exact hu _ hN
    · cases e

end Go.Fw

/- Functions: what the abstract run answers, a call of the model's function does. -/
namespace Go.Fw
set_option linter.unusedSimpArgs false
set_option linter.unusedVariables false

def resOk (P : Program) : ResultVar → ARes → Bool
  | .tmp t, .tmp u => Nat.beq t u
  | .cell a t, .cell b agg n => Nat.beq a b && aggOk P t agg n
  | _, _ => false
def ressOk (P : Program) : List ResultVar → List ARes → Bool
  | [], [] => true
  | r :: rs, a :: as => resOk P r a && ressOk P rs as
  | _, _ => false

def resSem (tmps : Array Value) : ResultVar → Sem Value
  | .tmp t => pure (tmps.getD t undef)
  | .cell a t => do loadVar t (← asAddr (tmps.getD a undef))

theorem results_eq (fn : Func) (tmps : Array Value) : results fn tmps = (do let vs ← fn.results.mapM (resSem tmps); pure (if h : vs.size = 1 then vs[0] else .tuple vs)) := by
  have : (fun x => match x with | .tmp t => pure (tmps.getD t undef) | .cell a t => do loadVar t (← asAddr (tmps.getD a undef))) = resSem tmps := by
    funext x; cases x <;> rfl
  rw [← this]
  rfl

/-- The check of a function. -/
def funcOk (P : Program) (drawOk : Nat → Nat → Array Oper → List AItem → List (Nat × Nat) → Bool) (fn : Func) (a : AFunc) : Bool :=
  Nat.ble a.nargs fn.ntmps && ressOk P fn.results.toList a.results && (match fn.body with | some c => codeOk P drawOk fn.ntmps a.body c | none => false)

/-- What a function set aside must do. -/
def PrimOk (P : Program) (f : Nat) (sem : List AVal → Heap → Option (AVal × Heap)) : Prop :=
  ∀ args h r h', sem args h = some (r, h') → ∀ φ w (vs : Array Value), HRel φ h w → VRels φ args vs.toList →
    (((callFunc f vs).run P w = .ok (.enter f vs) w) ∧
    Calls P f vs w fun e w' => ∃ φ' v, e = .returned v ∧ VRel φ' r v ∧ HRel φ' h' w' ∧ Step φ h w φ' h' w') ∨
    ∃ φ' v w', (callFunc f vs).run P w = .ok (.value v) w' ∧ VRel φ' r v ∧ HRel φ' h' w' ∧ Step φ h w φ' h' w'

def FnOk (P : Program) (drawOk : Nat → Nat → Array Oper → List AItem → List (Nat × Nat) → Bool) (f : Nat) : AFn → Prop
  | .code a => ∃ fn, P.funcs[f]? = some fn ∧ fn.name ≠ "runtime.NumGoroutine" ∧ funcOk P drawOk fn a = true
  | .prim sem => PrimOk P f sem

/-- A function with a text. -/
def hasBody (P : Program) (f : Nat) : Bool := match P.funcs[f]? with | some fn => fn.name != "runtime.NumGoroutine" && fn.body.isSome | none => false
theorem run_hasBody {P : Program} {f : Nat} (h : hasBody P f = true) (vs : Array Value) (w : World) : (callFunc f vs).run P w = .ok (.enter f vs) w := by
  unfold hasBody at h
  split at h
  · rename_i fn hf
    simp only [Bool.and_eq_true, bne_iff_ne, ne_eq, Option.isSome_iff_exists] at h
    obtain ⟨hn, c, hb⟩ := h
    simp only [callFunc, Sem.run_bind]
    simp [hf, hn, hb]
  · cases h
theorem CallOk.enter {P : Program} {call : Call} (hc : CallOk P call) {f : Nat} (hb : hasBody P f = true) {args : List AVal} {h : Heap} {r : AVal} {h' : Heap} (hr : call f args h = some (r, h')) {φ : Phi} {w : World} {vs : Array Value}
    (H : HRel φ h w) (ha : VRels φ args vs.toList) : Calls P f vs w fun e w' => ∃ φ' v, e = .returned v ∧ VRel φ' r v ∧ HRel φ' h' w' ∧ Step φ h w φ' h' w' := by
  rcases hc f args h r h' hr φ w vs H ha with ⟨_, h2⟩ | ⟨_, _, _, h2, _⟩
  · exact h2
  · rw [run_hasBody hb] at h2
    cases h2

section
variable {P : Program} {B n : Nat} {φ0 : Phi} {h0 : Heap} {w0 : World} {φ : Phi} {L : Nat → Nat} {s : Env} {h : Heap} {a : Act} {w : World}

theorem res_rel (c : CRel B n φ L s h a w) {x : ResultVar} {y : ARes} (hc : resOk P x y = true) {v : AVal} (hv : resOf s h y = some v) :
    ∃ u, (resSem a.tmps x).run P w = .ok u w ∧ VRel φ v u := by
  cases x with
  | tmp t =>
    cases y with
    | tmp u =>
      have e : t = u := Nat.eq_of_beq_eq_true hc
      subst e
      cases hv
      exact ⟨_, rfl, c.get t⟩
    | cell => cases hc
  | cell b t =>
    cases y with
    | tmp => cases hc
    | cell b' agg m =>
      simp only [resOk, Bool.and_eq_true] at hc
      have e : b = b' := Nat.eq_of_beq_eq_true hc.1
      subst e
      have hop : opdOk (.tmp b) (.tmp b) = true := by simp [opdOk]
      simp only [resOf] at hv
      split at hv
      · rename_i l off hl
        simp only [Option.bind_eq_some_iff] at hv
        obtain ⟨cs, ⟨cs0, hl0, hcs⟩, hv⟩ := hv
        obtain ⟨_, hxv⟩ := lad_spec c hop hl
        obtain ⟨us, u1, u2, u3, u4⟩ := loc_rd c hl0 hcs
        obtain ⟨u, hu, hr⟩ := loadVar_of (P := P) (w := w) hc.2 u1 u2 u3 u4 hv
        refine ⟨u, ?_, hr⟩
        have hxv' : a.tmps.getD b undef = _ := hxv
        show (do loadVar t (← asAddr (a.tmps.getD b undef)) : Sem Value).run P w = _
        rw [hxv']
        simp only [asAddr, Sem.run_bind, Sem.run_pure, Result.andThen_ok]
        exact hu
      · simp only [Option.bind_eq_some_iff] at hv
        obtain ⟨cs, hcs, hv⟩ := hv
        have hx := c.get b
        obtain ⟨u, hu, hr⟩ := load_rel (P := P) c.heap hc.2 hx hcs hv
        refine ⟨u, ?_, hr⟩
        unfold aLoad at hcs
        split at hcs
        · rename_i e
          rw [e] at hx
          obtain ⟨L, hbl, hp⟩ := vrel_ptr.1 hx
          rw [hp] at hu
          simp [Instr.loadAt, Instr.sureAddr] at hu
          show (do loadVar t (← asAddr (a.tmps.getD b undef)) : Sem Value).run P w = _
          rw [hp]
          simp only [asAddr, Sem.run_bind, Sem.run_pure, Result.andThen_ok]
          exact hu
        · cases hcs

theorem ress_rel (c : CRel B n φ L s h a w) : ∀ {xs : List ResultVar} {ys : List ARes} (_ : ressOk P xs ys = true) {vs : List AVal} (_ : resAll s h ys = some vs),
    ∃ us, (xs.mapM (resSem a.tmps)).run P w = .ok us w ∧ VRels φ vs us
  | [], [], _, vs, hv => by
    cases hv
    exact ⟨[], rfl, by simp [VRels]⟩
  | [], _ :: _, hc, _, _ => by cases hc
  | _ :: _, [], hc, _, _ => by cases hc
  | x :: xs, y :: ys, hc, vs, hv => by
    simp only [ressOk, Bool.and_eq_true] at hc
    simp only [resAll, Option.bind_eq_some_iff, Option.some.injEq] at hv
    obtain ⟨v, h1, vs', h2, rfl⟩ := hv
    obtain ⟨u, hu, hr⟩ := res_rel c hc.1 h1
    obtain ⟨us, hus, hrs⟩ := ress_rel c hc.2 h2
    refine ⟨u :: us, ?_, by simp only [VRels]; exact ⟨hr, hrs⟩⟩
    rw [List.mapM_cons]
    simp only [Sem.run_bind, hu, Result.andThen_ok, hus, Sem.run_pure]

theorem results_rel (c : CRel B n φ L s h a w) {fn : Func} {ys : List ARes} (hc : ressOk P fn.results.toList ys = true) {vs : List AVal} (hv : resAll s h ys = some vs) :
    ∃ u, (results fn a.tmps).run P w = .ok u w ∧ VRel φ (oneOr vs) u := by
  obtain ⟨us, hus, hr⟩ := ress_rel c hc hv
  refine ⟨if h : us.toArray.size = 1 then us.toArray[0] else .tuple us.toArray, ?_, ?_⟩
  · rw [results_eq, Array.mapM_eq_mapM_toList]
    simp only [Sem.run_bind]
    have : ((List.toArray <$> fn.results.toList.mapM (resSem a.tmps)) : Sem (Array Value)).run P w = .ok us.toArray w := by
      rw [map_eq_pure_bind]
      simp only [Sem.run_bind, hus, Result.andThen_ok, Sem.run_pure]
    rw [this]
    simp only [Result.andThen_ok, Sem.run_pure]
  · have hlen := VRels.length hr
    match vs, us, hr with
    | [], [], _ => unfold oneOr VRel; exact ⟨#[], by simp, by simp [VRels]⟩
    | [v], [u], hr => simp only [VRels, and_true] at hr; simpa [oneOr] using hr
    | v1 :: v2 :: vs, u1 :: u2 :: us, hr =>
      unfold oneOr VRel
      exact ⟨_, by simp, hr⟩

theorem look_args (args : List AVal) : ∀ (i t : Nat), look ((args.zipIdx i).map fun p => (p.2, p.1)) t = if i ≤ t then args.getD (t - i) .undef else .undef := by
  induction args with
  | nil => intro i t; simp [look]
  | cons x args ih =>
    intro i t
    rw [List.zipIdx_cons, List.map_cons, look_cons, ih]
    by_cases h : t = i
    · subst h; simp
    · simp only [if_neg h]
      by_cases h2 : i ≤ t
      · rw [if_pos h2, if_pos (by omega : i + 1 ≤ t), show t - i = (t - (i + 1)) + 1 by omega]
        simp
      · rw [if_neg h2, if_neg (by omega)]

theorem fn_sound {drawOk : Nat → Nat → Array Oper → List AItem → List (Nat × Nat) → Bool} (hdraw : DrawSound P drawOk) {call : Call} (hcall : CallOk P call) {f : Nat} {fn : Func} {a : AFunc}
    (hf : P.funcs[f]? = some fn) (hname : fn.name ≠ "runtime.NumGoroutine") (hok : funcOk P drawOk fn a = true) : PrimOk P f (runFn call (.code a)) := by
  intro args h r h' hrun φ w vs H hargs
  simp only [funcOk, Bool.and_eq_true] at hok
  obtain ⟨⟨hn, hres⟩, hbody⟩ := hok
  split at hbody
  · rename_i c hb
    refine .inl ⟨?_, ?_⟩
    · simp only [callFunc, Sem.run_bind]
      simp [hf, hname, hb]
    · simp only [runFn] at hrun
      cases hl : Nat.beq args.length a.nargs with
      | false => rw [hl] at hrun; cases hrun
      | true =>
        rw [hl] at hrun
        simp only [cond_true, Option.bind_eq_some_iff] at hrun
        obtain ⟨r0, hrun, hans⟩ := hrun
        have hl' := Nat.eq_of_beq_eq_true hl
        have hlen := VRels.length hargs
        simp only [Array.length_toList] at hlen
        have hn' := Nat.le_of_ble_eq_true hn
        refine calls_of_wp hf hb ?_
        refine code_sound hdraw hcall a.body c hbody φ (fun _ => 0) (argEnv args) h _ w (endF a.results) r0 hrun (B := w.heap.size) (φ0 := φ) (h0 := h) (w0 := w) ?_ _ ?_
        · refine ⟨⟨H, ?_, rfl, ?_, ?_, ?_, ?_⟩, Step.refl _ _ _, rfl, fun b L hb => (H.dom b L hb).1⟩
          · simp; omega
          · intro t _
            simp only [argEnv]
            rw [look_args]
            simp only [Nat.zero_le, if_true, Nat.sub_zero]
            by_cases ht : t < args.length
            · obtain ⟨v, hv, hr⟩ := VRels.get hargs t args[t] (by simp [ht])
              rw [List.getD_eq_getElem?_getD, List.getElem?_eq_getElem ht, Option.getD_some]
              rw [Array.getElem?_toList] at hv
              rw [Array.getD_eq_getD_getElem?, Array.getElem?_append_left (by omega), hv]
              exact hr
            · rw [List.getD_eq_getElem?_getD, List.getElem?_eq_none (by omega)]
              unfold VRel
              trivial
          · intro t l off hh; cases hh
          · intro l cs hh; cases hh
          · intro l l' cs cs' hh; cases hh
        · intro e s' h1 φ' L' a' w' hk I'
          cases e with
          | exit id => cases hk
          | normal =>
            simp only [endF, Option.bind_eq_some_iff, Option.some.injEq] at hk
            obtain ⟨us, hus, rfl⟩ := hk
            cases hans
            obtain ⟨u, hu, hr⟩ := results_rel I'.rel hres hus
            exact ⟨I'.rel.defers, u, hu, φ', u, rfl, hr, I'.rel.heap, I'.step⟩
          | ret =>
            simp only [endF, Option.bind_eq_some_iff, Option.some.injEq] at hk
            obtain ⟨us, hus, rfl⟩ := hk
            cases hans
            obtain ⟨u, hu, hr⟩ := results_rel I'.rel hres hus
            exact ⟨I'.rel.defers, u, hu, φ', u, rfl, hr, I'.rel.heap, I'.step⟩
  · cases hbody
end

theorem runF_sound {P : Program} {drawOk : Nat → Nat → Array Oper → List AItem → List (Nat × Nat) → Bool} (hdraw : DrawSound P drawOk) {tbl : Nat → Option AFn} (htbl : ∀ f a, tbl f = some a → FnOk P drawOk f a) : ∀ n, CallOk P (runF tbl n)
  | 0 => by intro f args h r h' hh; cases hh
  | n + 1 => by
    intro f args h r h' hh
    rw [runF] at hh
    split at hh
    · rename_i a ha
      have hfn := htbl f a ha
      cases a with
      | prim sem => exact hfn args h r h' hh
      | code a =>
        obtain ⟨fn, h1, h2, h3⟩ := hfn
        exact fn_sound hdraw (runF_sound hdraw htbl n) h1 h2 h3 args h r h' hh
    · cases hh

/-- **What the abstract functions answer, the program's do.** -/
theorem E_sound {P : Program} {drawOk : Nat → Nat → Array Oper → List AItem → List (Nat × Nat) → Bool} (hdraw : DrawSound P drawOk) {tbl : Nat → Option AFn} (htbl : ∀ f a, tbl f = some a → FnOk P drawOk f a) : CallOk P (E tbl) := by
  intro f args h r h' hh
  obtain ⟨n, hn⟩ := E_some.1 hh
  exact runF_sound hdraw htbl n f args h r h' hn

end Go.Fw
