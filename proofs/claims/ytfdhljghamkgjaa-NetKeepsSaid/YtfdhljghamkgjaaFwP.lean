/- One operation of a frame: what the abstract step says, the model does. -/
import Derived.Test.YtfdhljghamkgjaaFwO
namespace Go.Fw
set_option linter.unusedSimpArgs false
set_option linter.unusedVariables false

section
variable {P : Program}

/-- Within a call: the frame's state, and all that happened since the call began. -/
structure In (B n : Nat) (φ0 : Phi) (h0 : Heap) (w0 : World) (φ : Phi) (L : Nat → Nat) (s : Env) (h : Heap) (a : Act) (w : World) : Prop where
  rel : CRel B n φ L s h a w
  step : Step φ0 h0 w0 φ h w
  base : w0.heap.size = B
  dom : ∀ b L, φ0 b = some L → b < h0.next


section inversions
theorem inv_nilchk {op : Op} {d : Nat} {y : AOpd} (hh : chkOp P op (.nilchk d y) = true) : ∃ x, op = .nilCheck x ∧ opdOk x y = true := by
  cases op <;> first
    | exact (Bool.false_ne_true hh).elim
    | exact ⟨_, rfl, hh⟩
    | exact ⟨_, _, rfl, hh⟩
    | exact ⟨_, _, _, rfl, hh⟩
    | exact ⟨_, _, _, _, _, rfl, hh⟩
    | (rename_i fn _ _; cases fn <;> exact (Bool.false_ne_true hh).elim)
theorem inv_faddr {op : Op} {d off : Nat} {y : AOpd} (hh : chkOp P op (.faddr d off y) = true) : ∃ t x f, op = .fieldAddr t x f ∧ (opdOk x y &&
    (match P.underlying t with | some (.struct fs) => (match fs[f]? with | some fl => Nat.beq fl.offset off && (match (P.info? fl.type).map (·.size) with | some (_ + 1) => true | _ => false) | none => false) | _ => false)) = true := by
  cases op <;> first
    | exact (Bool.false_ne_true hh).elim
    | exact ⟨_, rfl, hh⟩
    | exact ⟨_, _, rfl, hh⟩
    | exact ⟨_, _, _, rfl, hh⟩
    | exact ⟨_, _, _, _, _, rfl, hh⟩
    | (rename_i fn _ _; cases fn <;> exact (Bool.false_ne_true hh).elim)
theorem inv_iaddr {op : Op} {d es : Nat} {arr : Option Nat} {y j : AOpd} (hh : chkOp P op (.iaddr d arr es y j) = true) : ∃ t x i, op = .indexAddr t x i ∧ (opdOk x y && opdOk i j && iaddrOk P t arr es) = true := by
  cases op <;> first
    | exact (Bool.false_ne_true hh).elim
    | exact ⟨_, rfl, hh⟩
    | exact ⟨_, _, rfl, hh⟩
    | exact ⟨_, _, _, rfl, hh⟩
    | exact ⟨_, _, _, _, _, rfl, hh⟩
    | (rename_i fn _ _; cases fn <;> exact (Bool.false_ne_true hh).elim)
theorem inv_conv {op : Op} {d : Nat} {c : AConv} {y : AOpd} (hh : chkOp P op (.conv d c y) = true) : ∃ src dst x, op = .convert src dst x ∧ (opdOk x y && convOk P src dst c) = true := by
  cases op <;> first
    | exact (Bool.false_ne_true hh).elim
    | exact ⟨_, rfl, hh⟩
    | exact ⟨_, _, rfl, hh⟩
    | exact ⟨_, _, _, rfl, hh⟩
    | exact ⟨_, _, _, _, _, rfl, hh⟩
    | (rename_i fn _ _; cases fn <;> exact (Bool.false_ne_true hh).elim)
theorem inv_box {op : Op} {d : Nat} {loc : Bool} {y : AOpd} (hh : chkOp P op (.box d loc y) = true) : ∃ t x, op = .box t x ∧ opdOk x y = true := by
  cases op <;> first
    | exact (Bool.false_ne_true hh).elim
    | exact ⟨_, rfl, hh⟩
    | exact ⟨_, _, rfl, hh⟩
    | exact ⟨_, _, _, rfl, hh⟩
    | exact ⟨_, _, _, _, _, rfl, hh⟩
    | (rename_i fn _ _; cases fn <;> exact (Bool.false_ne_true hh).elim)
theorem inv_alloc {op : Op} {d : Nat} {loc : Bool} {zero : List AVal} (hh : chkOp P op (.alloc d loc zero) = true) : ∃ t, op = .alloc t ∧ zeroOk P t zero = true := by
  cases op <;> first
    | exact (Bool.false_ne_true hh).elim
    | exact ⟨_, rfl, hh⟩
    | exact ⟨_, _, rfl, hh⟩
    | exact ⟨_, _, _, rfl, hh⟩
    | exact ⟨_, _, _, _, _, rfl, hh⟩
    | (rename_i fn _ _; cases fn <;> exact (Bool.false_ne_true hh).elim)
theorem inv_buildSl {op : Op} {d es len : Nat} {zero : List AVal} {as : List (Nat × AOpd)} (hh : chkOp P op (.buildSl d zero es len as) = true) : ∃ t len' parts, op = .buildSlice t len' parts ∧ (Nat.beq len' len && slPartsOk parts.toList as &&
    (match P.underlying t with | some (.slice e) => sizeIs P e es && zeroOk P e zero && Nat.beq zero.length es && Nat.ble (len' * es) 16777216 | _ => false)) = true := by
  cases op <;> first
    | exact (Bool.false_ne_true hh).elim
    | exact ⟨_, rfl, hh⟩
    | exact ⟨_, _, rfl, hh⟩
    | exact ⟨_, _, _, rfl, hh⟩
    | exact ⟨_, _, _, _, _, rfl, hh⟩
    | (rename_i fn _ _; cases fn <;> exact (Bool.false_ne_true hh).elim)
theorem inv_load {op : Op} {d m : Nat} {agg : Bool} {y : AOpd} (hh : chkOp P op (.load d agg m y) = true) : ∃ t x, op = .load t x ∧ (opdOk x y && aggOk P t agg m) = true := by
  cases op <;> first
    | exact (Bool.false_ne_true hh).elim
    | exact ⟨_, rfl, hh⟩
    | exact ⟨_, _, rfl, hh⟩
    | exact ⟨_, _, _, rfl, hh⟩
    | exact ⟨_, _, _, _, _, rfl, hh⟩
    | (rename_i fn _ _; cases fn <;> exact (Bool.false_ne_true hh).elim)
theorem inv_store {op : Op} {m : Nat} {agg : Bool} {y u : AOpd} (hh : chkOp P op (.store agg m y u) = true) : ∃ t x v, op = .store t x v ∧ (opdOk x y && opdOk v u && aggOk P t agg m) = true := by
  cases op <;> first
    | exact (Bool.false_ne_true hh).elim
    | exact ⟨_, rfl, hh⟩
    | exact ⟨_, _, rfl, hh⟩
    | exact ⟨_, _, _, rfl, hh⟩
    | exact ⟨_, _, _, _, _, rfl, hh⟩
    | (rename_i fn _ _; cases fn <;> exact (Bool.false_ne_true hh).elim)
theorem inv_mkSlice {op : Op} {d es bytes : Nat} {zero : List AVal} {l c : AOpd} (hh : chkOp P op (.mkSlice d es bytes zero l c) = true) : ∃ t l' c', op = .makeSlice t l' c' ∧ (opdOk l' l && opdOk c' c &&
    (match P.underlying t with | some (.slice e) => sizeIs P e es && bytesIs P e bytes && zeroOk P e zero && Nat.beq zero.length es | _ => false)) = true := by
  cases op <;> first
    | exact (Bool.false_ne_true hh).elim
    | exact ⟨_, rfl, hh⟩
    | exact ⟨_, _, rfl, hh⟩
    | exact ⟨_, _, _, rfl, hh⟩
    | exact ⟨_, _, _, _, _, rfl, hh⟩
    | (rename_i fn _ _; cases fn <;> exact (Bool.false_ne_true hh).elim)
theorem inv_call {op : Op} {d f : Nat} {args : List AOpd} (hh : chkOp P op (.call d f args) = true) : ∃ c, op = .call c ∧ chkCall P c (.call d f args) = true := by
  cases op <;> first
    | exact (Bool.false_ne_true hh).elim
    | exact ⟨_, rfl, hh⟩
    | exact ⟨_, _, rfl, hh⟩
    | exact ⟨_, _, _, rfl, hh⟩
    | exact ⟨_, _, _, _, _, rfl, hh⟩
    | (rename_i fn _ _; cases fn <;> exact (Bool.false_ne_true hh).elim)
theorem inv_callv {op : Op} {d : Nat} {fn : AOpd} {args : List AOpd} (hh : chkOp P op (.callv d fn args) = true) : ∃ c, op = .call c ∧ chkCall P c (.callv d fn args) = true := by
  cases op <;> first
    | exact (Bool.false_ne_true hh).elim
    | exact ⟨_, rfl, hh⟩
    | exact ⟨_, _, rfl, hh⟩
    | exact ⟨_, _, _, rfl, hh⟩
    | exact ⟨_, _, _, _, _, rfl, hh⟩
    | (rename_i fn _ _; cases fn <;> exact (Bool.false_ne_true hh).elim)
theorem inv_invoke {op : Op} {d : Nat} {tbl : List (Nat × Nat × Option (Nat × Nat × Bool))} {recv : AOpd} {args : List AOpd} (hh : chkOp P op (.invoke d tbl recv args) = true) : ∃ c, op = .call c ∧ chkCall P c (.invoke d tbl recv args) = true := by
  cases op <;> first
    | exact (Bool.false_ne_true hh).elim
    | exact ⟨_, rfl, hh⟩
    | exact ⟨_, _, rfl, hh⟩
    | exact ⟨_, _, _, rfl, hh⟩
    | exact ⟨_, _, _, _, _, rfl, hh⟩
    | (rename_i fn _ _; cases fn <;> exact (Bool.false_ne_true hh).elim)
theorem inv_append {op : Op} {d es bytes : Nat} {zero : List AVal} {zeros : Bool} {x y : AOpd} (hh : chkOp P op (.append d es bytes zero zeros x y) = true) : ∃ c, op = .call c ∧ chkCall P c (.append d es bytes zero zeros x y) = true := by
  cases op <;> first
    | exact (Bool.false_ne_true hh).elim
    | exact ⟨_, rfl, hh⟩
    | exact ⟨_, _, rfl, hh⟩
    | exact ⟨_, _, _, rfl, hh⟩
    | exact ⟨_, _, _, _, _, rfl, hh⟩
    | (rename_i fn _ _; cases fn <;> exact (Bool.false_ne_true hh).elim)
theorem inv_copy {op : Op} {d es : Nat} {x y : AOpd} (hh : chkOp P op (.copy d es x y) = true) : ∃ c, op = .call c ∧ chkCall P c (.copy d es x y) = true := by
  cases op <;> first
    | exact (Bool.false_ne_true hh).elim
    | exact ⟨_, rfl, hh⟩
    | exact ⟨_, _, rfl, hh⟩
    | exact ⟨_, _, _, rfl, hh⟩
    | exact ⟨_, _, _, _, _, rfl, hh⟩
    | (rename_i fn _ _; cases fn <;> exact (Bool.false_ne_true hh).elim)
theorem inv_clear {op : Op} {d : Nat} {zero : List AVal} {x : AOpd} (hh : chkOp P op (.clear d zero x) = true) : ∃ c, op = .call c ∧ chkCall P c (.clear d zero x) = true := by
  cases op <;> first
    | exact (Bool.false_ne_true hh).elim
    | exact ⟨_, rfl, hh⟩
    | exact ⟨_, _, rfl, hh⟩
    | exact ⟨_, _, _, rfl, hh⟩
    | exact ⟨_, _, _, _, _, rfl, hh⟩
    | (rename_i fn _ _; cases fn <;> exact (Bool.false_ne_true hh).elim)
end inversions

variable {B n : Nat} {φ0 : Phi} {h0 : Heap} {w0 : World} {φ : Phi} {L : Nat → Nat} {s : Env} {h : Heap} {a : Act} {w : World}

theorem In.big (I : In B n φ0 h0 w0 φ L s h a w) : B ≤ w.heap.size := by have := I.step.size; have := I.base; omega

theorem In.put (I : In B n φ0 h0 w0 φ L s h a w) {φ' : Phi} {h' : Heap} {w' : World} (S : Step φ h w φ' h' w') (H : HRel φ' h' w') {d : Nat} (hd : d < n) {v : AVal} {u : Value} (hv : VRel φ' v u) :
    In B n φ0 h0 w0 φ' L (s.set d v) h' (a.put (some d) u) w' :=
  ⟨(I.rel.step S H).set hd hv, I.step.trans I.dom S, I.base, I.dom⟩

theorem lad_spec (c : CRel B n φ L s h a w) {x : Operand} {y : AOpd} (ho : opdOk x y = true) {l off : Nat} (hl : s.lad y = some (l, off)) : (∃ cs, lookB s.locs l = some cs) ∧ a.eval x = .pointer (some ⟨L l, off, none⟩) := by
  cases y with
  | tmp t =>
    cases x <;> simp only [opdOk] at ho <;> first | (cases ho; done) | skip
    rename_i u
    have := Nat.eq_of_beq_eq_true ho
    subst this
    exact c.lads _ _ _ hl
  | const v => simp [Env.lad] at hl

theorem wp_value {o : Oper} {u : Value} {w' : World} {K : Act → World → Prop} {Q : Exit → Act → World → Prop} (h : (execOp a.eval o).run P w = .ok (.value u) w') (hk : K (a.put o.dst u) w') : o.wp P a w K Q := by
  unfold Oper.wp
  rw [h]
  exact hk

/-- What one operation may have done. -/
structure Step1 (φ : Phi) (h : Heap) (w : World) (φ' : Phi) (h' : Heap) (w' : World) : Prop where
  ext : Ext φ φ'
  next : h.next ≤ h'.next
  old : ∀ b x', b < h.next → h'.blk b = some x' → ∃ x, h.blk b = some x ∧ x.rw = x'.rw
  new : ∀ b L, φ b = none → φ' b = some L → h.next ≤ b ∧
    (w.heap.size ≤ L.blk ∨ ∃ b0 x0 L0, h.blk b0 = some x0 ∧ x0.rw = true ∧ φ b0 = some L0 ∧ L0.blk = L.blk)
  size : w.heap.size ≤ w'.heap.size
  keep : ∀ b, b < h.next → φ b = none → h'.blk b = h.blk b
  frame : ∀ k b0 L0, k < w.heap.size → φ b0 = some L0 → L0.blk = k → (∀ b x L, h.blk b = some x → x.rw = true → φ b = some L → L.blk ≠ k) → w'.heap[k]? = w.heap[k]?

theorem Step.one {φ φ' : Phi} {h h' : Heap} {w w' : World} (S : Step φ h w φ' h' w') : Step1 φ h w φ' h' w' := ⟨S.ext, S.next, S.old, S.new, S.size, S.keep, fun k _ _ hk _ _ hf => S.frame k hk hf⟩

/-- What an abstract step answers, and what the model does. -/
def Good (P : Program) (B n : Nat) (φ0 : Phi) (h0 : Heap) (w0 : World) (φ : Phi) (h : Heap) (a : Act) (w : World) (o : Oper) (s' : Env) (h' : Heap) : Prop :=
  ∀ (K : Act → World → Prop) (Q : Exit → Act → World → Prop), (∀ φ' L' a' w', In B n φ0 h0 w0 φ' L' s' h' a' w' → Step1 φ h w φ' h' w' → K a' w') → o.wp P a w K Q

theorem good_pure (I : In B n φ0 h0 w0 φ L s h a w) {o : Oper} {ao : AOp} (hchk : chkOp P o.op ao = true) {d : Nat} (hdst : o.dst = some d) (hd : d < n) {v : AVal} (hv : pureOp ao s.ev = some v) :
    Good P B n φ0 h0 w0 φ h a w o (s.set d v) h := by
  intro K Q hk
  obtain ⟨u, hu, hr⟩ := pure_exec w (φ := φ) (ρ := a.eval) hchk (fun x y hxy => opd_rel I.rel hxy) hv
  refine wp_value hu ?_
  rw [hdst]
  exact hk φ L _ _ (I.put (Step.refl _ _ _) I.rel.heap hd hr) (Step.refl _ _ _).one

theorem good_okto (I : In B n φ0 h0 w0 φ L s h a w) {o : Oper} {d : Nat} (hdst : o.dst = some d) (hd : d < n) {sem : Sem Value} (he : execOp a.eval o = (do pure (.value (← sem)))) {v : AVal} {h' : Heap} (ok : OkTo P φ h w sem v h') :
    Good P B n φ0 h0 w0 φ h a w o (s.set d v) h' := by
  intro K Q hk
  obtain ⟨u, w', φ', hu, hr, H, S⟩ := ok
  refine wp_value (u := u) (w' := w') (by rw [he, Sem.run_bind, hu]; rfl) ?_
  rw [hdst]
  exact hk φ' L _ _ (I.put S H hd hr) S.one

/-- A step that makes an address within a local block. -/
theorem good_lad (I : In B n φ0 h0 w0 φ L s h a w) {o : Oper} {d : Nat} (hdst : o.dst = some d) (hd : d < n) {l off : Nat} {cs : List AVal} (hl : lookB s.locs l = some cs) (he : (execOp a.eval o).run P w = .ok (.value (.pointer (some ⟨L l, off, none⟩))) w) :
    Good P B n φ0 h0 w0 φ h a w o (s.setL d l off) h := by
  intro K Q hk
  refine wp_value he ?_
  rw [hdst]
  exact hk φ L _ _ ⟨I.rel.setL hd hl, I.step, I.base, I.dom⟩ (Step.refl _ _ _).one

theorem good_call (I : In B n φ0 h0 w0 φ L s h a w) {call : Call} (hcall : CallOk P call) {o : Oper} {d : Nat} (hdst : o.dst = some d) (hd : d < n) {f : Nat} {args : List AVal} {vs : Array Value} (hvs : VRels φ args vs.toList)
    (he : (execOp a.eval o).run P w = (callFunc f vs).run P w) {v : AVal} {h' : Heap} (hc : call f args h = some (v, h')) : Good P B n φ0 h0 w0 φ h a w o (s.set d v) h' := by
  intro K Q hk
  obtain ⟨c1, c2⟩ := hcall f args h v h' hc φ w vs I.rel.heap hvs
  unfold Oper.wp
  rw [he, c1, Oper.upon_enter]
  refine c2.mono ?_
  rintro e w' ⟨φ', u, rfl, hr, H, S⟩
  simp only [hdst]
  exact hk φ' L _ _ (I.put S H hd hr) S.one

theorem args_rel (c : CRel B n φ L s h a w) {xs : Array Operand} {ys : List AOpd} (h : opdsOk xs.toList ys = true) : VRels φ (ys.map s.ev) (xs.map a.eval).toList := by
  rw [Array.toList_map]
  exact opds_rel (fun x y hxy => opd_rel c hxy) h

/-- A local block's cells, read. -/
theorem loc_rd (c : CRel B n φ L s h a w) {l off m : Nat} {cs0 cs : List AVal} (hl : lookB s.locs l = some cs0) (e : rdL cs0 off m = some cs) :
    ∃ us : List Value, VRels φ cs us ∧ (∀ u ∈ us, u.oneCell' = true) ∧ us.length = m ∧ ∀ (j : Nat) (u : Value), us[j]? = some u → w.cell? ⟨L l, off + j, none⟩ = some u := by
  obtain ⟨_, _, _, cc, t, h4, h5, h6⟩ := c.locs l cs0 hl
  have hl5 := VRels.length h5
  simp only [Array.length_toList] at hl5
  unfold rdL at e
  cases hb : Nat.ble (off + m) cs0.length with
  | false => rw [hb] at e; cases e
  | true =>
    rw [hb] at e
    cases e
    have hle := Nat.le_of_ble_eq_true hb
    refine ⟨(cc.toList.drop off).take m, VRels.take m (VRels.drop off h5), fun u hu => h6 u (List.mem_of_mem_drop (List.mem_of_mem_take hu)), by simp; omega, ?_⟩
    intro j u hj
    rw [List.getElem?_take] at hj
    split at hj
    · rw [List.getElem?_drop, Array.getElem?_toList] at hj
      simp only [World.cell?, h4]
      simpa using hj
    · cases hj

theorem loadVar_of {t : TypeId} {agg : Bool} {m : Nat} (ht : aggOk P t agg m = true) {g off : Nat} {us : List Value} {cs : List AVal} (u1 : VRels φ cs us) (u2 : ∀ u ∈ us, u.oneCell' = true) (u3 : us.length = m) (u4 : ∀ (j : Nat) (u : Value), us[j]? = some u → w.cell? ⟨g, off + j, none⟩ = some u)
    {r : AVal} (hf : fromCells agg cs = some r) : ∃ u, (loadVar t ⟨g, off, none⟩).run P w = .ok u w ∧ VRel φ r u := by
  obtain ⟨h1, h2, h3⟩ := run_aggOk w ht
  have hld : (loadCells ⟨g, off, none⟩ m).run P w = .ok us.toArray w := by rw [← u3]; exact loadCells_of u4
  cases agg with
  | true =>
    simp only [fromCells, Option.some.injEq] at hf
    subst hf
    exact ⟨.agg us.toArray, by simp [loadVar, h1, h2, hld], vrel_agg.2 ⟨_, rfl, by simpa using u1, by simpa using u2⟩⟩
  | false =>
    have hn := h3 rfl
    subst hn
    match us, u3 with
    | [u], _ =>
      match cs, u1 with
      | [c], u1 =>
        simp only [fromCells, Option.some.injEq] at hf
        subst hf
        simp only [VRels, and_true] at u1
        have hc := u4 0 u rfl
        simp only [Nat.add_zero] at hc
        exact ⟨u, by simp [loadVar, h1, hc], u1⟩
      | [], u1 => simp [VRels] at u1
      | _ :: _ :: _, u1 => simp [VRels] at u1

theorem lookM_mem : ∀ {tbl : List (Nat × Nat × Option (Nat × Nat × Bool))} {t : Nat} {e : Nat × Option (Nat × Nat × Bool)}, lookM tbl t = some e → (t, e) ∈ tbl
  | [], _, _, h => by simp [lookM] at h
  | (u, v) :: r, t, e, h => by
    rw [show lookM ((u, v) :: r) t = bif Nat.beq u t then some v else lookM r t from rfl] at h
    cases hb : Nat.beq u t with
    | true =>
      rw [hb] at h
      cases h
      have := Nat.eq_of_beq_eq_true hb
      subst this
      exact List.mem_cons_self
    | false =>
      rw [hb] at h
      exact List.mem_cons_of_mem _ (lookM_mem h)

/-- Which function a method call through an interface value finds. -/
theorem method_rel (w : World) {name : String} {t f : Nat} {mode : Option (Nat × Nat × Bool)} (hm : methOk P name t (f, mode) = true) {x rv : AVal} {y : Value} (hy : VRel φ x y)
    (hmode : (mode = none ∧ rv = x) ∨ ∃ off m agg cs, mode = some (off, m, agg) ∧ aField off m x = some cs ∧ fromCells agg cs = some rv) :
    ∃ u, (method (P.types.size + Made.depth) t y name).run P w = .ok (f, u) w ∧ VRel φ rv u := by
  have hpos : 0 < Made.depth := by decide
  obtain ⟨k, hk⟩ : ∃ k, P.types.size + Made.depth = k + 1 := ⟨P.types.size + Made.depth - 1, by omega⟩
  rw [hk]
  unfold methOk at hm
  split at hm
  · cases hm
  · rename_i i hi
    split at hm
    · cases hm
    · rename_i m hf
      split at hm
      · cases hm
      · rename_i f2 pr hfu
        simp only [Bool.and_eq_true] at hm
        obtain ⟨e1, hm⟩ := hm
        have e1 := Nat.eq_of_beq_eq_true e1
        subst e1
        split at hm
        · rename_i hp
          rcases hmode with ⟨_, rfl⟩ | ⟨_, _, _, _, h1, _⟩
          · refine ⟨y, ?_, hy⟩
            simp only [method, Sem.run_bind, run_typeInfo w hi, Result.andThen_ok, hf, hp, follow, Sem.run_pure, hfu]
            split at hm
            · rename_i e hu
              subst hm
              simp [receiverAt, run_underlying hu, Place.get]
            · rename_i dd hne hu
              have hm : pr = false := by simpa using hm
              subst hm
              cases dd <;> first
                | (exact absurd rfl (hne _))
                | (simp [receiverAt, run_underlying hu, Place.get]; done)
            · cases hm
          · cases h1
        · rename_i s off m2 agg hp
          rcases hmode with ⟨h1, _⟩ | ⟨off', m', agg', cs, h1, h2, h3⟩
          · cases h1
          · cases h1
            simp only [Bool.and_eq_true, Bool.not_eq_true'] at hm
            obtain ⟨⟨⟨hd, hag⟩, hone⟩, hm⟩ := hm
            have hone := Nat.eq_of_beq_eq_true hone
            subst hone; subst hag
            unfold aField at h2
            split at h2
            · rename_i as
              obtain ⟨vs, rfl, hr, ho⟩ := vrel_agg.1 hy
              split at hm
              · rename_i fs hu
                split at hm
                · rename_i fl hfl
                  simp only [Bool.and_eq_true] at hm
                  have e2 := Nat.eq_of_beq_eq_true hm.1
                  subst e2
                  have hm2 := hm.2
                  split at hm2
                  · rename_i e hue
                    subst hm2
                    have hagg : ∃ u, (part fl.type vs fl.offset).run P w = .ok u w ∧ VRel φ rv u := by
                      unfold rdL at h2
                      cases hb : Nat.ble (fl.offset + 1) as.length with
                      | false => rw [hb] at h2; cases h2
                      | true =>
                        rw [hb] at h2
                        cases h2
                        have hle := Nat.le_of_ble_eq_true hb
                        have hl := VRels.length hr
                        simp only [Array.length_toList] at hl
                        have hlt : fl.offset < as.length := by omega
                        rw [List.drop_eq_getElem_cons hlt] at h3
                        simp only [List.take_succ_cons, List.take_zero, fromCells, Option.some.injEq] at h3
                        subst h3
                        obtain ⟨u, hu1, hu2⟩ := VRels.get hr fl.offset _ (List.getElem?_eq_getElem hlt)
                        rw [Array.getElem?_toList] at hu1
                        exact ⟨u, by simp [part, isAgg, run_underlying hue, hu1], hu2⟩
                    obtain ⟨u, hu1, hu2⟩ := hagg
                    refine ⟨u, ?_, hu2⟩
                    simp only [method, Sem.run_bind, run_typeInfo w hi, Result.andThen_ok, hf, hp, follow, Sem.run_pure, hfu, run_underlying hu, hfl, hd, Bool.false_eq_true, if_false, hu1]
                    simp [receiverAt, run_underlying hue, Place.get]
                  · cases hm2
                · cases hm
              · cases hm
            · cases h2
        · cases hm

theorem stepOp_sound {call : Call} (hcall : CallOk P call) {o : Oper} {ao : AOp} (hnf : isFl ao = false) (hchk : chkOp P o.op ao = true) (hdst : o.dst = opDst ao) (hlt : ∀ d, opDst ao = some d → d < n) {g : Bool} {k : Env → Heap → Option J} {r : J}
    (hrun : stepOp call g ao s h k = some r) (I : In B n φ0 h0 w0 φ L s h a w) : ∃ s' h', k s' h' = some r ∧ Good P B n φ0 h0 w0 φ h a w o s' h' := by
  have hpure : ∀ d, opDst ao = some d → ((pureOp ao s.ev).bind fun v => k (s.set d v) h) = some r → ∃ s' h', k s' h' = some r ∧ Good P B n φ0 h0 w0 φ h a w o s' h' := by
    intro d hd he
    simp only [Option.bind_eq_some_iff] at he
    obtain ⟨v, hv, he⟩ := he
    exact ⟨_, _, he, good_pure I hchk (by rw [hdst, hd]) (hlt d hd) hv⟩
  cases ao with
  | pick d c x y => exact hpure d rfl hrun
  | bin d op tag x y => exact hpure d rfl hrun
  | un d op x => exact hpure d rfl hrun
  | build d zero parts =>
    refine hpure d rfl ?_
    simp only [stepOp, Option.bind_eq_some_iff] at hrun
    obtain ⟨cs, h1, h2⟩ := hrun
    simp only [pureOp, h1, Option.bind_some]
    exact h2
  | field d agg off m x =>
    refine hpure d rfl ?_
    simp only [stepOp, Option.bind_eq_some_iff] at hrun
    obtain ⟨cs, h1, v, h2, h3⟩ := hrun
    simp only [pureOp, h1, Option.bind_some, h2]
    exact h3
  | index d kk x i =>
    cases kk with
    | str => exact hpure d rfl hrun
    | arr len es agg =>
      refine hpure d rfl ?_
      simp only [stepOp, Option.bind_eq_some_iff] at hrun
      obtain ⟨cs, h1, v, h2, h3⟩ := hrun
      simp only [pureOp, h1, Option.bind_some, h2]
      exact h3
  | slice d kk x lo hi mx => cases kk <;> exact hpure d rfl hrun
  | mkIface d t x => exact hpure d rfl hrun
  | extract d x i => exact hpure d rfl hrun
  | mkFunc d f caps => exact hpure d rfl hrun
  | len d str x => exact hpure d rfl hrun
  | cap d x => exact hpure d rfl hrun
  | minmax d mx xs => exact hpure d rfl hrun
  | fl d j sl zero parts => cases hnf
  | mov d x =>
    simp only [stepOp] at hrun
    split at hrun
    · rename_i l off hl
      refine ⟨_, _, hrun, ?_⟩
      obtain ⟨dst, op, type, pos, after, guard⟩ := o
      simp only at hchk hdst
      have hx : ∃ x', (op = .move x' ∨ op = .assign x') ∧ opdOk x' x = true := by
        unfold chkOp at hchk
        split at hchk <;> first | (rename_i e; cases e; done) | (cases hchk; done) | skip
        · rename_i e; cases e; exact ⟨_, .inl rfl, hchk⟩
        · rename_i e; cases e; exact ⟨_, .inr rfl, hchk⟩
      obtain ⟨x', hop, hx⟩ := hx
      obtain ⟨⟨cs, hcs⟩, hv⟩ := lad_spec I.rel hx hl
      refine good_lad I hdst (hlt d rfl) hcs ?_
      rcases hop with rfl | rfl <;> simp [execOp, hv]
    · exact hpure d rfl (by simpa [pureOp] using hrun)
  | nilchk d x =>
    simp only [stepOp] at hrun
    split at hrun
    · rename_i l off hl
      refine ⟨_, _, hrun, ?_⟩
      obtain ⟨x', hop, hx⟩ := inv_nilchk hchk
      obtain ⟨⟨cs, hcs⟩, hv⟩ := lad_spec I.rel hx hl
      exact good_lad I hdst (hlt d rfl) hcs (by simp [execOp, hop, hv])
    · exact hpure d rfl (by simpa [pureOp] using hrun)
  | faddr d off x =>
    simp only [stepOp] at hrun
    split at hrun
    · rename_i l o1 hl
      refine ⟨_, _, hrun, ?_⟩
      obtain ⟨t, x', f, hop, hx⟩ := inv_faddr hchk
      simp only [Bool.and_eq_true] at hx
      obtain ⟨⟨cs, hcs⟩, hv⟩ := lad_spec I.rel hx.1 hl
      have hc := hx.2
      split at hc
      · rename_i fs hu
        split at hc
        · rename_i fl hfl
          simp only [Bool.and_eq_true] at hc
          have e' := Nat.eq_of_beq_eq_true hc.1
          subst e'
          have hc2 := hc.2
          split at hc2
          · rename_i sz hsz
            have hs := run_sizeOf' w (n := sz + 1) hsz
            exact good_lad I hdst (hlt d rfl) hcs (by simp [execOp, hop, hv, Instr.fieldAt, run_underlying hu, hfl, Instr.sureAddr, fieldPlace, hs, addr_add])
          · cases hc2
        · cases hc
      · cases hc
    · exact hpure d rfl (by simpa [pureOp] using hrun)
  | iaddr d arr es x i =>
    cases arr with
    | none => exact hpure d rfl (by simpa [stepOp, pureOp] using hrun)
    | some len =>
      simp only [stepOp] at hrun
      split at hrun
      · rename_i l o1 hl
        simp only [Option.bind_eq_some_iff] at hrun
        obtain ⟨j, hj, hrun⟩ := hrun
        refine ⟨_, _, hrun, ?_⟩
        obtain ⟨t, x', i', hop, hx⟩ := inv_iaddr hchk
        simp only [Bool.and_eq_true] at hx
        obtain ⟨⟨cs, hcs⟩, hv⟩ := lad_spec I.rel hx.1.1 hl
        have hi := opd_rel I.rel hx.1.2
        have hc := hx.2
        unfold iaddrOk at hc
        split at hc
        · rename_i len2 e len' hu he
          cases he
          simp only [Bool.and_eq_true, sizeIs, decide_eq_true_eq] at hc
          have e' := Nat.eq_of_beq_eq_true hc.1
          subst e'
          obtain ⟨kk, nn, hn, h0, h1, rfl⟩ := aIdx_spec hj
          rw [hn, vrel_int] at hi
          have hs := run_sizeOf' w hc.2
          exact good_lad I hdst (hlt d rfl) hcs (by simp [execOp, hop, hv, hi, Instr.indexAt, asIntOf, run_underlying hu, Instr.sureAddr, h0, h1, hs, addr_add])
        · rename_i he; cases he
        · cases hc
      · exact hpure d rfl (by simpa [pureOp] using hrun)
  | conv d c x =>
    simp only [stepOp, Option.bind_eq_some_iff] at hrun
    obtain ⟨⟨v, h'⟩, hv, hrun⟩ := hrun
    refine ⟨_, _, hrun, ?_⟩
    obtain ⟨src, dst, x', hop, hx⟩ := inv_conv hchk
    simp only [Bool.and_eq_true] at hx
    exact good_okto I hdst (hlt d rfl) (by simp only [execOp, hop]) (conv_rel I.rel.heap hx.2 (opd_rel I.rel hx.1) hv)
  | box d loc x =>
    obtain ⟨t, x', hop, hx⟩ := inv_box hchk
    cases loc with
    | true =>
      simp only [stepOp] at hrun
      cases hb : (!g && s.fresh d) with
      | false => rw [hb] at hrun; cases hrun
      | true =>
        rw [hb] at hrun
        simp only [cond_true, Option.bind_eq_some_iff] at hrun
        obtain ⟨cs, hcs, hrun⟩ := hrun
        refine ⟨_, _, hrun, ?_⟩
        simp only [Bool.and_eq_true] at hb
        obtain ⟨c1, c2⟩ := cells_rel (opd_rel I.rel hx) hcs
        obtain ⟨C, S⟩ := I.rel.newLoc I.big (hlt d rfl) hb.2 c1 c2 t
        intro K Q hk
        refine wp_value (u := .pointer (some ⟨w.heap.size, 0, none⟩)) (w' := w.alloc (.cells (a.eval x').cells t)) (by simp [execOp, hop, Instr.box, newVar, newRow]) ?_
        rw [hdst]
        exact hk _ _ _ _ ⟨C, I.step.trans I.dom S, I.base, I.dom⟩ S.one
    | false =>
      simp only [stepOp, Option.bind_eq_some_iff] at hrun
      obtain ⟨cs, hcs, hrun⟩ := hrun
      refine ⟨_, _, hrun, ?_⟩
      exact good_okto I hdst (hlt d rfl) (by simp only [execOp, hop]) (box_rel I.rel.heap t (opd_rel I.rel hx) hcs)
  | alloc d loc zero =>
    obtain ⟨t, hop, hz⟩ := inv_alloc hchk
    cases loc with
    | true =>
      simp only [stepOp] at hrun
      cases hb : (!g && s.fresh d) with
      | false => rw [hb] at hrun; cases hrun
      | true =>
        rw [hb] at hrun
        simp only [cond_true] at hrun
        refine ⟨_, _, hrun, ?_⟩
        simp only [Bool.and_eq_true] at hb
        obtain ⟨z, hz1, c1, c2⟩ := zero_rel (P := P) w hz φ
        obtain ⟨C, S⟩ := I.rel.newLoc I.big (hlt d rfl) hb.2 c1 c2 t
        intro K Q hk
        refine wp_value (u := .pointer (some ⟨w.heap.size, 0, none⟩)) (w' := w.alloc (.cells z.cells t)) (by simp [execOp, hop, Instr.alloc, hz1, newVar, newRow]) ?_
        rw [hdst]
        exact hk _ _ _ _ ⟨C, I.step.trans I.dom S, I.base, I.dom⟩ S.one
    | false =>
      simp only [stepOp] at hrun
      refine ⟨_, _, hrun, ?_⟩
      exact good_okto I hdst (hlt d rfl) (by simp only [execOp, hop]) (alloc_rel I.rel.heap hz)
  | buildSl d zero es len parts =>
    simp only [stepOp, Option.bind_eq_some_iff] at hrun
    obtain ⟨cs, hcs, hrun⟩ := hrun
    refine ⟨_, _, hrun, ?_⟩
    obtain ⟨t, len', parts', hop, hc⟩ := inv_buildSl hchk
    simp only [Bool.and_eq_true] at hc
    obtain ⟨⟨e1, hp⟩, hc⟩ := hc
    have e1 := Nat.eq_of_beq_eq_true e1
    subst e1
    split at hc
    · rename_i e hu
      simp only [Bool.and_eq_true, sizeIs, decide_eq_true_eq] at hc
      exact good_okto I hdst (hlt d rfl) (by simp only [execOp, hop]) (buildSl_rel I.rel.heap (fun x y hxy => opd_rel I.rel hxy) hu hc.1.1.1 hc.1.1.2 (Nat.eq_of_beq_eq_true hc.1.2) (Nat.le_of_ble_eq_true hc.2) hp hcs)
    · cases hc
  | load d agg m x =>
    obtain ⟨t, x', hop, hc⟩ := inv_load hchk
    simp only [Bool.and_eq_true] at hc
    simp only [stepOp] at hrun
    split at hrun
    · rename_i l off hl
      simp only [Option.bind_eq_some_iff] at hrun
      obtain ⟨cs, ⟨cs0, hl0, hcs⟩, v, hv, hrun⟩ := hrun
      refine ⟨_, _, hrun, ?_⟩
      obtain ⟨_, hxv⟩ := lad_spec I.rel hc.1 hl
      obtain ⟨us, u1, u2, u3, u4⟩ := loc_rd I.rel hl0 hcs
      obtain ⟨u, hu, hr⟩ := loadVar_of (P := P) (w := w) hc.2 u1 u2 u3 u4 hv
      intro K Q hk
      refine wp_value (u := u) (w' := w) (by simp [execOp, hop, hxv, Instr.loadAt, Instr.sureAddr, hu]) ?_
      rw [hdst]
      exact hk φ L _ _ (I.put (Step.refl _ _ _) I.rel.heap (hlt d rfl) hr) (Step.refl _ _ _).one
    · simp only [Option.bind_eq_some_iff] at hrun
      obtain ⟨cs, hcs, v, hv, hrun⟩ := hrun
      refine ⟨_, _, hrun, ?_⟩
      obtain ⟨u, hu, hr⟩ := load_rel I.rel.heap hc.2 (opd_rel I.rel hc.1) hcs hv
      intro K Q hk
      refine wp_value (u := u) (w' := w) (by simp [execOp, hop, hu]) ?_
      rw [hdst]
      exact hk φ L _ _ (I.put (Step.refl _ _ _) I.rel.heap (hlt d rfl) hr) (Step.refl _ _ _).one
  | store agg m x v =>
    obtain ⟨t, x', v', hop, hc⟩ := inv_store hchk
    simp only [Bool.and_eq_true] at hc
    simp only [stepOp, Option.bind_eq_some_iff] at hrun
    obtain ⟨cs, hcs, hrun⟩ := hrun
    have hput : ∀ u, a.put o.dst u = a := fun u => by rw [hdst]; rfl
    split at hrun
    · rename_i l off hl
      cases g with
      | true => cases hrun
      | false =>
        simp only [Bool.not_false, cond_true, Option.bind_eq_some_iff] at hrun
        obtain ⟨old, hold, hrun⟩ := hrun
        cases hb : Nat.ble (off + m) old.length with
        | false => rw [hb] at hrun; cases hrun
        | true =>
          rw [hb] at hrun
          refine ⟨_, _, hrun, ?_⟩
          have hle := Nat.le_of_ble_eq_true hb
          obtain ⟨_, hxv⟩ := lad_spec I.rel hc.1.1 hl
          obtain ⟨c1, c2, c3, c4⟩ := aCells_rel (opd_rel I.rel hc.1.2) hcs
          obtain ⟨_, hsz, _⟩ := run_aggOk w hc.2
          obtain ⟨w', hst, C, hoth, hW⟩ := CRel.locWr (P := P) (off := off) I.rel hold c1 c2 (by omega)
          obtain ⟨w1, w2, w3, w4, w5⟩ := hW w0 I.base
          intro K Q hk
          have hrun' : (execOp a.eval o).run P w = .ok .skip w' := by
            simp [execOp, hop, hxv, Instr.storeAt, Instr.sureAddr, storeVar, hsz, c3, hst]
          unfold Oper.wp
          rw [hrun', Oper.upon_skip, hput]
          refine hk φ L _ _ ⟨C, ?_, I.base, I.dom⟩ ⟨Ext.refl _, Nat.le_refl _, fun b x _ hx => ⟨x, hx, rfl⟩, fun _ _ h1 h2 => (by rw [h1] at h2; cases h2), w2, fun _ _ _ => rfl, fun k b0 L0 _ h1 h2 _ => hoth k (by
            obtain ⟨_, _, g3, _⟩ := I.rel.locs l old hold
            intro e
            exact g3 b0 L0 h1 (h2.trans e))⟩
          have S := I.step
          exact ⟨S.ext, S.next, S.old, S.new, Nat.le_trans S.size w2, S.keep, fun k hk hf => by rw [w1 k (by have := I.base; omega)]; exact S.frame k hk hf, w3.trans S.os, w4.trans S.tape, w5.trans S.output⟩
    · simp only [Option.bind_eq_some_iff] at hrun
      obtain ⟨h', hh', hrun⟩ := hrun
      refine ⟨_, _, hrun, ?_⟩
      obtain ⟨w', hst, H, S⟩ := store_rel I.rel.heap hc.2 (opd_rel I.rel hc.1.1) (opd_rel I.rel hc.1.2) hcs hh'
      intro K Q hk
      have hrun' : (execOp a.eval o).run P w = .ok .skip w' := by
        simp [execOp, hop, hst]
      unfold Oper.wp
      rw [hrun', Oper.upon_skip, hput]
      exact hk φ L _ _ ⟨I.rel.step S H, I.step.trans I.dom S, I.base, I.dom⟩ S.one
  | mkSlice d es bytes zero len cap =>
    simp only [stepOp, Option.bind_eq_some_iff] at hrun
    obtain ⟨⟨v, h'⟩, hv, hrun⟩ := hrun
    refine ⟨_, _, hrun, ?_⟩
    obtain ⟨t, l', c', hop, hc⟩ := inv_mkSlice hchk
    simp only [Bool.and_eq_true] at hc
    obtain ⟨⟨x1, x2⟩, hc⟩ := hc
    split at hc
    · rename_i e hu
      simp only [Bool.and_eq_true, sizeIs, bytesIs, decide_eq_true_eq] at hc
      exact good_okto I hdst (hlt d rfl) (by simp only [execOp, hop]) (make_rel I.rel.heap hu hc.1.1.1 hc.1.1.2 hc.1.2 (Nat.eq_of_beq_eq_true hc.2) (opd_rel I.rel x1) (opd_rel I.rel x2) hv)
    · cases hc
  | call d f args =>
    simp only [stepOp, Option.bind_eq_some_iff] at hrun
    obtain ⟨⟨v, h'⟩, hv, hrun⟩ := hrun
    refine ⟨_, _, hrun, ?_⟩
    obtain ⟨c, hop, hc⟩ := inv_call hchk
    simp only [chkCall] at hc
    split at hc
    · rename_i f' hcal
      simp only [Bool.and_eq_true] at hc
      have e := Nat.eq_of_beq_eq_true hc.1
      subst e
      refine good_call I hcall hdst (hlt d rfl) (args_rel I.rel hc.2) ?_ hv
      simp [execOp, hop, resolve, hcal, Act.eval, Deferred.ofValue, invoke]
    · cases hc
  | callv d fn args =>
    simp only [stepOp, Option.bind_eq_some_iff] at hrun
    obtain ⟨⟨f, caps⟩, hfn, ⟨v, h'⟩, hv, hrun⟩ := hrun
    refine ⟨_, _, hrun, ?_⟩
    obtain ⟨c, hop, hc⟩ := inv_callv hchk
    simp only [chkCall] at hc
    split at hc
    · rename_i t hcal
      simp only [Bool.and_eq_true] at hc
      have hf := opd_rel I.rel hc.1
      unfold aFn at hfn
      split at hfn
      · rename_i f2 c2 hev
        cases hfn
        rw [hev] at hf
        obtain ⟨cs, hval, hcs⟩ := vrel_func.1 hf
        have hargs := args_rel I.rel hc.2
        refine good_call I hcall hdst (hlt d rfl) (vs := c.args.map a.eval ++ cs) (by rw [Array.toList_append]; exact VRels.append hargs hcs) ?_ hv
        simp only [execOp, hop, resolve, hcal, hval, Deferred.ofValue, invoke, Sem.run_bind, Sem.run_pure, Result.andThen_ok]
        simp
      · cases hfn
    · cases hc
  | invoke d tbl recv args =>
    simp only [stepOp, Option.bind_eq_some_iff] at hrun
    obtain ⟨⟨f, rv⟩, hfn, ⟨v, h'⟩, hv, hrun⟩ := hrun
    refine ⟨_, _, hrun, ?_⟩
    obtain ⟨c, hop, hc⟩ := inv_invoke hchk
    simp only [chkCall] at hc
    split at hc
    · rename_i rc name hcal
      simp only [Bool.and_eq_true, List.all_eq_true] at hc
      obtain ⟨⟨o1, o2⟩, htbl⟩ := hc
      have hr := opd_rel I.rel o1
      unfold aMeth at hfn
      split at hfn
      · rename_i t x hev
        rw [hev] at hr
        obtain ⟨y, hval, hy⟩ := vrel_iface.1 hr
        obtain ⟨mode, hlk, hmode⟩ : ∃ mode, lookM tbl t = some (f, mode) ∧ ((mode = none ∧ rv = x) ∨ ∃ off m agg cs, mode = some (off, m, agg) ∧ aField off m x = some cs ∧ fromCells agg cs = some rv) := by
          split at hfn
          · rename_i f2 hl; cases hfn; exact ⟨none, hl, .inl ⟨rfl, rfl⟩⟩
          · rename_i f2 off m agg hl
            simp only [Option.bind_eq_some_iff, Option.some.injEq, Prod.mk.injEq] at hfn
            obtain ⟨cs, h1, r2, h2, rfl, rfl⟩ := hfn
            exact ⟨some (off, m, agg), hl, .inr ⟨off, m, agg, cs, rfl, h1, h2⟩⟩
          · cases hfn
        obtain ⟨u, hu, hur⟩ := method_rel w (htbl _ (lookM_mem hlk)) hy hmode
        have hargs := args_rel I.rel o2
        refine good_call I hcall hdst (hlt d rfl) (vs := #[u] ++ c.args.map a.eval) (by
          rw [show (#[u] ++ c.args.map a.eval).toList = u :: (c.args.map a.eval).toList by rw [Array.toList_append]; rfl]
          exact (show VRel φ rv u ∧ VRels φ (args.map s.ev) _ from ⟨hur, hargs⟩)) ?_ hv
        have hex : (#[a.eval rc] ++ c.args.map a.eval).extract 1 (#[a.eval rc] ++ c.args.map a.eval).size = c.args.map a.eval := by
          apply Array.ext'
          rw [Array.toList_extract, List.extract_eq_take_drop]
          simp only [Array.toList_append, List.cons_append, List.nil_append, List.drop_succ_cons, List.drop_zero]
          exact List.take_of_length_le (by simp)
        have h0' : (#[a.eval rc] ++ c.args.map a.eval)[0]? = some (a.eval rc) := by rw [← Array.getElem?_toList, Array.toList_append]; rfl
        simp only [execOp, hop, resolve, hcal, Sem.run_bind, Sem.run_pure, Result.andThen_ok, invoke, h0', hex]
        simp only [hval, callMethod, Sem.run_bind, run_program, Result.andThen_ok, hu]
      · cases hfn
    · cases hc
  | append d es bytes zero zeros sl x =>
    simp only [stepOp, Option.bind_eq_some_iff] at hrun
    obtain ⟨⟨v, h'⟩, hv, hrun⟩ := hrun
    refine ⟨_, _, hrun, ?_⟩
    obtain ⟨c, hop, hc⟩ := inv_append hchk
    simp only [chkCall] at hc
    split at hc
    · rename_i s' x' t ts h1 h2 h3
      simp only [Bool.and_eq_true] at hc
      obtain ⟨⟨⟨o1, o2⟩, hc⟩, hz⟩ := hc
      split at hc
      · rename_i e hu
        simp only [Bool.and_eq_true, sizeIs, bytesIs, decide_eq_true_eq] at hc
        obtain ⟨⟨⟨q1, q2⟩, q3⟩, q4⟩ := hc
        have q4 := Nat.eq_of_beq_eq_true q4
        have ha : c.args.map a.eval = #[a.eval s', a.eval x'] := by
          apply Array.ext'
          rw [Array.toList_map, h2]
          rfl
        have ht : c.argTypes[0]? = some t := by rw [← Array.getElem?_toList, h3]; rfl
        obtain ⟨z, hz1, hz2, hz3⟩ := zero_rel (P := P) w q3 φ
        have hzv : ∀ w, (zeroValue e).run P w = .ok z w := by
          intro w2
          obtain ⟨z', hz1', _, _⟩ := zero_rel (P := P) w2 q3 φ
          unfold zeroOk at q3
          split at q3
          · rename_i zz hzz
            cases hi : P.info? e with
            | none => rw [hi] at hzz; cases hzz
            | some i =>
              rw [hi] at hzz
              simp only [Option.bind_some] at hzz
              simp [zeroValue, run_typeInfo w hi, hzz] at hz1
              subst hz1
              simp [zeroValue, run_typeInfo w2 hi, hzz]
          · cases q3
        have hzs : z.cells.size = es := by have := VRels.length hz2; simp at this; omega
        have hkk : (zeros = false ∧ (c.argTypes[1]? = none ∨ ∃ u d, c.argTypes[1]? = some u ∧ P.underlying u = some d ∧ (∀ k, d ≠ .int k))) ∨ (zeros = true ∧ ∃ u ik, c.argTypes[1]? = some u ∧ P.underlying u = some (.int ik)) := by
          split at hz
          · rename_i u
            have hu1 : c.argTypes[1]? = some u := by rw [← Array.getElem?_toList, h3]; rfl
            split at hz
            · rename_i ik hui
              exact .inr ⟨hz, u, ik, hu1, hui⟩
            · rename_i dd hne hui
              refine .inl ⟨by simpa using hz, .inr ⟨u, dd, hu1, hui, fun k e => ?_⟩⟩
              subst e
              exact hne k rfl
            · cases hz
          · have hu1 : c.argTypes[1]? = none := by rw [← Array.getElem?_toList, h3]; rfl
            exact .inl ⟨by simpa using hz, .inl hu1⟩
          · cases hz
        refine good_okto I hdst (hlt d rfl) (sem := Builtin.append_ c.argTypes o.type #[a.eval s', a.eval x']) ?_ (append_rel I.rel.heap hzs (opd_rel I.rel o1) (fun nn news en => appRun I.rel.heap hu q1 q2 hzv hz2 hz3 q4 ht hkk (opd_rel I.rel o2) en) hv)
        simp only [execOp, hop, resolve, h1, invoke, builtin, ha]
        rfl
      · cases hc
    · cases hc
  | copy d es dst src =>
    simp only [stepOp, Option.bind_eq_some_iff] at hrun
    obtain ⟨⟨v, h'⟩, hv, hrun⟩ := hrun
    refine ⟨_, _, hrun, ?_⟩
    obtain ⟨c, hop, hc⟩ := inv_copy hchk
    simp only [chkCall] at hc
    split at hc
    · rename_i s' x' t ts h1 h2 h3
      simp only [Bool.and_eq_true] at hc
      obtain ⟨⟨o1, o2⟩, hc⟩ := hc
      split at hc
      · rename_i e hu
        simp only [sizeIs, decide_eq_true_eq] at hc
        have ha : c.args.map a.eval = #[a.eval s', a.eval x'] := by
          apply Array.ext'
          rw [Array.toList_map, h2]
          rfl
        have ht : c.argTypes[0]? = some t := by rw [← Array.getElem?_toList, h3]; rfl
        refine good_okto I hdst (hlt d rfl) (sem := Builtin.copy_ c.argTypes o.type #[a.eval s', a.eval x']) ?_ (copy_rel I.rel.heap ht hu hc (opd_rel I.rel o1) (opd_rel I.rel o2) hv)
        simp only [execOp, hop, resolve, h1, invoke, builtin, ha]
        rfl
      · cases hc
    · cases hc
  | clear d zero sl =>
    simp only [stepOp, Option.bind_eq_some_iff] at hrun
    obtain ⟨⟨v, h'⟩, hv, hrun⟩ := hrun
    refine ⟨_, _, hrun, ?_⟩
    obtain ⟨c, hop, hc⟩ := inv_clear hchk
    simp only [chkCall] at hc
    split at hc
    · rename_i s' t ts h1 h2 h3
      simp only [Bool.and_eq_true] at hc
      obtain ⟨o1, hc⟩ := hc
      split at hc
      · rename_i e hu
        have ha : c.args.map a.eval = #[a.eval s'] := by
          apply Array.ext'
          rw [Array.toList_map, h2]
          rfl
        have ht : c.argTypes[0]? = some t := by rw [← Array.getElem?_toList, h3]; rfl
        have hput : ∀ u, a.put o.dst u = a := fun u => by rw [hdst]; rfl
        obtain ⟨u', w', φ', hu', _, H', S⟩ := clear_rel (ty := o.type) I.rel.heap ht hu hc (opd_rel I.rel o1) hv
        have he : execOp a.eval o = (do pure (.value (← Builtin.clear_ c.argTypes o.type #[a.eval s']))) := by
          simp only [execOp, hop, resolve, h1, invoke, builtin, ha]
          rfl
        intro K Q hk
        refine wp_value (u := u') (w' := w') ?_ ?_
        · rw [he, Sem.run_bind, hu']
          rfl
        · rw [hput]
          exact hk φ' L _ _ ⟨I.rel.step S H', I.step.trans I.dom S, I.base, I.dom⟩ S.one
      · cases hc
    · cases hc

end
end Go.Fw
