/- Regions that keep the order of the text. -/
import Derived.Test.YtfdhljghamkgjaaFwP
namespace Go.Fw
set_option linter.unusedSimpArgs false
set_option linter.unusedVariables false

/-- What an operation may change of a frame's abstract state. -/
def EnvStep (g : Bool) (ds : List Nat) (s s' : Env) : Prop :=
  (∀ t, t ∉ ds → look s'.vals t = look s.vals t ∧ lookA s'.lads t = lookA s.lads t) ∧ (g = true → s'.locs = s.locs)

theorem EnvStep.refl (g : Bool) (ds : List Nat) (s : Env) : EnvStep g ds s s := ⟨fun _ _ => ⟨rfl, rfl⟩, fun _ => rfl⟩
theorem EnvStep.trans {g : Bool} {ds ds' : List Nat} {s s' s'' : Env} (h : EnvStep g ds s s') (k : EnvStep g ds' s' s'') : EnvStep g (ds ++ ds') s s'' :=
  ⟨fun t ht => ⟨(k.1 t (fun m => ht (List.mem_append_right _ m))).1.trans (h.1 t (fun m => ht (List.mem_append_left _ m))).1, (k.1 t (fun m => ht (List.mem_append_right _ m))).2.trans (h.1 t (fun m => ht (List.mem_append_left _ m))).2⟩, fun hg => (k.2 hg).trans (h.2 hg)⟩

theorem env_set (g : Bool) (s : Env) (d : Nat) (v : AVal) : EnvStep g [d] s (s.set d v) :=
  ⟨fun t ht => by
    have hne : t ≠ d := fun e => ht (by simp [e])
    simp [Env.set, look_cons, lookA_drop, hne], fun _ => rfl⟩
theorem env_setL (g : Bool) (s : Env) (d l off : Nat) : EnvStep g [d] s (s.setL d l off) :=
  ⟨fun t ht => by
    have hne : t ≠ d := fun e => ht (by simp [e])
    simp [Env.setL, lookA_cons, hne], fun _ => rfl⟩

open Classical in
noncomputable def gate (p : Prop) (x : Option J) : Option J := if p then x else none
theorem gate_pos {p : Prop} (h : p) (x : Option J) : gate p x = x := if_pos h
theorem gate_some {p : Prop} {x : Option J} {r : J} (h : gate p x = some r) : p ∧ x = some r := by
  unfold gate at h
  split at h
  · exact ⟨‹_›, h⟩
  · cases h

theorem stepOp_env (call : Call) (g : Bool) (ao : AOp) (s : Env) (h : Heap) (k : Env → Heap → Option J) :
    stepOp call g ao s h k = stepOp call g ao s h (fun s' h' => gate (EnvStep g (opDst ao).toList s s') (k s' h')) := by
  have e1 : ∀ d v h', (gate (EnvStep g [d] s (s.set d v)) (k (s.set d v) h')) = k (s.set d v) h' := fun d v h' => gate_pos (env_set g s d v) _
  have e2 : ∀ d l off h', (gate (EnvStep g [d] s (s.setL d l off)) (k (s.setL d l off) h')) = k (s.setL d l off) h' := fun d l off h' => gate_pos (env_setL g s d l off) _
  have e3 : ∀ ds h', (gate (EnvStep g ds s s) (k s h')) = k s h' := fun ds h' => gate_pos (EnvStep.refl _ _ _) _
  cases ao with
  | box d loc x =>
    cases loc with
    | true =>
      cases g with
      | true => rfl
      | false =>
        have e4 : ∀ cs h', (gate (EnvStep false [d] s (s.newLoc d cs)) (k (s.newLoc d cs) h')) = k (s.newLoc d cs) h' := fun cs h' => gate_pos ⟨fun t ht => by
          have hne : t ≠ d := fun e => ht (by simp [e])
          simp [Env.newLoc, lookA_cons, hne], by simp⟩ _
        simp only [stepOp, opDst, Option.toList, e4]
    | false => simp only [stepOp, opDst, Option.toList, e1]
  | alloc d loc zero =>
    cases loc with
    | true =>
      cases g with
      | true => rfl
      | false =>
        have e4 : ∀ cs h', (gate (EnvStep false [d] s (s.newLoc d cs)) (k (s.newLoc d cs) h')) = k (s.newLoc d cs) h' := fun cs h' => gate_pos ⟨fun t ht => by
          have hne : t ≠ d := fun e => ht (by simp [e])
          simp [Env.newLoc, lookA_cons, hne], by simp⟩ _
        simp only [stepOp, opDst, Option.toList, e4]
    | false => simp only [stepOp, opDst, Option.toList, e1]
  | store agg m x v =>
    cases g with
    | true =>
      simp only [stepOp, opDst, Option.toList, e3, Bool.not_true, cond_false]
    | false =>
      have e4 : ∀ q h', (gate (EnvStep false [] s { s with locs := q }) (k { s with locs := q } h')) = k { s with locs := q } h' := fun q h' => gate_pos ⟨fun t _ => ⟨rfl, rfl⟩, by simp⟩ _
      simp only [stepOp, opDst, Option.toList, e3, e4]
  | iaddr d arr es x i => cases arr <;> simp only [stepOp, opDst, Option.toList, e1, e2]
  | index d kk x i => cases kk <;> simp only [stepOp, opDst, Option.toList, e1]
  | slice d kk x lo hi mx => cases kk <;> simp only [stepOp, opDst, Option.toList, e1]
  | clear d zero sl => simp only [stepOp, opDst, Option.toList, e3]
  | _ => simp only [stepOp, opDst, Option.toList, e1, e2]

mutual
def flatItem (gd : Option (Nat × Bool)) : AItem → List (Option (Nat × Bool) × Nat × AOp)
  | .op i o => [(gd, i, o)]
  | .guard t want items _ _ => flatItems (some (t, want)) items
def flatItems (gd : Option (Nat × Bool)) : List AItem → List (Option (Nat × Bool) × Nat × AOp)
  | [] => []
  | x :: r => flatItem gd x ++ flatItems gd r
end

/-- Guards that stand well: what is asked is not written behind it; within a guard, a guard asks what was written there. -/
def itemsDirect : List AItem → List Nat
  | [] => []
  | .op _ o :: r => (opDst o).toList ++ itemsDirect r
  | .guard .. :: r => itemsDirect r
mutual
def guardsOk (inG : Bool) (seen : List Nat) : AItem → Bool
  | .op _ _ => true
  | .guard t _ items _ live => !((itemsDsts items).contains t) && (!inG || seen.contains t) && guardsAll true [] items && live.all fun l => (itemsDsts items).contains l
def guardsAll (inG : Bool) (seen : List Nat) : List AItem → Bool
  | [] => true
  | x :: r => guardsOk inG seen x && guardsAll inG (match x with | .op _ o => (opDst o).toList ++ seen | _ => seen) r
end

def operOkF (P : Program) (n : Nat) (ops : Array Oper) (e : Option (Nat × Bool) × Nat × AOp) : Bool :=
  match ops[e.2.1]? with
  | none => false
  | some o =>
    decide (o.dst = opDst e.2.2) && (match opDst e.2.2 with | some d => Nat.blt d n | none => true) && chkOp P o.op (unFl e.2.2) &&
    (match o.guard, e.1 with
     | none, none => true
     | some (j, want), some (t, want') => (want == want') && decide ((ops[j]?).bind (·.dst) = some t)
     | _, _ => false)

def operOk (P : Program) (n : Nat) (ops : Array Oper) (e : Option (Nat × Bool) × Nat × AOp) : Bool := operOkF P n ops e && !(isFl e.2.2)

def regionOkF (P : Program) (n : Nat) (ops : Array Oper) (items : List AItem) : Bool :=
  let fl := flatItems none items
  decide (fl.map (·.2.1) = List.range ops.size) && fl.all (operOkF P n ops) && guardsAll false [] items
def regionOk (P : Program) (n : Nat) (ops : Array Oper) (items : List AItem) : Bool :=
  let fl := flatItems none items
  decide (fl.map (·.2.1) = List.range ops.size) && fl.all (operOk P n ops) && guardsAll false [] items

section
variable {P : Program} {B n : Nat} {φ0 : Phi} {h0 : Heap} {w0 : World} {φ : Phi} {L : Nat → Nat} {s : Env} {h : Heap} {a : Act} {w : World}

theorem In.env (I : In B n φ0 h0 w0 φ L s h a w) {s' : Env} (h1 : s'.vals = s.vals) (h2 : s'.lads = s.lads) (h3 : s'.locs = s.locs) : In B n φ0 h0 w0 φ L s' h a w := by
  obtain ⟨c, S, b, d⟩ := I
  exact ⟨⟨c.heap, c.size, c.defers, by rw [h1, h2]; exact c.vals, by rw [h2, h3]; exact c.lads, by rw [h3]; exact c.locs, by rw [h3]; exact c.inj⟩, S, b, d⟩

/-- A skipped operation's value. -/
theorem skip_rel : VRel φ skipV undef := vrel_tuple.2 ⟨#[], rfl, by simp [VRels]⟩

theorem operOkF_spec {ops : Array Oper} {gd : Option (Nat × Bool)} {i : Nat} {ao : AOp} (h : operOkF P n ops (gd, i, ao) = true) : ∃ o, ops[i]? = some o ∧ o.dst = opDst ao ∧ (∀ d, opDst ao = some d → d < n) ∧ chkOp P o.op (unFl ao) = true ∧
    ((o.guard = none ∧ gd = none) ∨ ∃ j t want, o.guard = some (j, want) ∧ gd = some (t, want) ∧ (ops[j]?).bind (·.dst) = some t) := by
  unfold operOkF at h
  split at h
  · cases h
  · rename_i o ho
    simp only [Bool.and_eq_true, decide_eq_true_eq] at h
    obtain ⟨⟨⟨h1, h2⟩, h3⟩, h4⟩ := h
    refine ⟨o, ho, h1, ?_, h3, ?_⟩
    · intro d hd
      rw [hd] at h2
      have := Nat.le_of_ble_eq_true (show Nat.ble (d + 1) n = true from h2)
      omega
    · cases hg : o.guard with
      | none =>
        rw [hg] at h4
        cases gd with
        | none => exact .inl ⟨rfl, rfl⟩
        | some p => cases h4
      | some p =>
        rw [hg] at h4
        cases gd with
        | none => cases h4
        | some q =>
          obtain ⟨j, want⟩ := p
          obtain ⟨t, want'⟩ := q
          simp only [Bool.and_eq_true, beq_iff_eq, decide_eq_true_eq] at h4
          obtain ⟨rfl, h5⟩ := h4
          exact .inr ⟨j, t, want, rfl, rfl, h5⟩

theorem unFl_of {ao : AOp} (h : isFl ao = false) : unFl ao = ao := by
  cases ao <;> first | rfl | (cases h; done)

theorem operOk_spec {ops : Array Oper} {gd : Option (Nat × Bool)} {i : Nat} {ao : AOp} (h : operOk P n ops (gd, i, ao) = true) : ∃ o, ops[i]? = some o ∧ o.dst = opDst ao ∧ (∀ d, opDst ao = some d → d < n) ∧ chkOp P o.op ao = true ∧
    ((o.guard = none ∧ gd = none) ∨ ∃ j t want, o.guard = some (j, want) ∧ gd = some (t, want) ∧ (ops[j]?).bind (·.dst) = some t) := by
  simp only [operOk, Bool.and_eq_true, Bool.not_eq_true'] at h
  have := operOkF_spec h.1
  rw [unFl_of h.2] at this
  exact this
theorem operOk_fl {ops : Array Oper} {gd : Option (Nat × Bool)} {i : Nat} {ao : AOp} (h : operOk P n ops (gd, i, ao) = true) : isFl ao = false := by
  simp only [operOk, Bool.and_eq_true, Bool.not_eq_true'] at h
  exact h.2

/-- Is an operation wanted: what the guard's temporary says. -/
theorem wanted_guard {ops : Array Oper} {o : Oper} {j t : Nat} {want : Bool} (hg : o.guard = some (j, want)) (hj : (ops[j]?).bind (·.dst) = some t) (tmps : Array Value) :
    Region.wanted o (yielded ops tmps) = (match tmps[t]? with | some (.bool b) => b == want | _ => false) := by
  unfold Region.wanted
  rw [hg]
  simp only [yielded, hj, Option.bind_some]
  cases tmps[t]? with
  | none => rfl
  | some v => cases v <;> rfl

theorem getD_some {tmps : Array Value} {t : Nat} {v : Value} (h : tmps.getD t undef = v) (hv : v ≠ undef) : tmps[t]? = some v := by
  rw [Array.getD_eq_getD_getElem?] at h
  cases hh : tmps[t]? with
  | none => rw [hh] at h; exact absurd h.symm hv
  | some u => rw [hh] at h; simp at h; rw [h]


/-- One operation whose guard holds. -/
theorem op_step {call : Call} (hcall : CallOk P call) {ops : Array Oper} {gd : Option (Nat × Bool)} {i : Nat} {ao : AOp} (hok : operOk P n ops (gd, i, ao) = true) (hgd : ∀ t want, gd = some (t, want) → look s.vals t = .bool want ∧ lookA s.lads t = none) {g : Bool} {k : Env → Heap → Option J} {r : J}
    (hrun : stepOp call g ao s h k = some r) (I : In B n φ0 h0 w0 φ L s h a w) : ∃ s' h', k s' h' = some r ∧ EnvStep g (opDst ao).toList s s' ∧
      ∀ (Q : Exit → Act → World → Prop) (rest : List Nat), (∀ φ' L' a' w', In B n φ0 h0 w0 φ' L' s' h' a' w' → wpOps P ops Q rest a' w') → wpOps P ops Q (i :: rest) a w := by
  obtain ⟨o, ho, hdst, hlt, hchk, hg⟩ := operOk_spec hok
  rw [stepOp_env] at hrun
  obtain ⟨s', h', hk, hgood⟩ := stepOp_sound hcall (operOk_fl hok) hchk hdst hlt hrun I
  obtain ⟨he, hk⟩ := gate_some hk
  refine ⟨s', h', hk, he, fun Q rest hrest => ?_⟩
  have hw : Region.wanted o (yielded ops a.tmps) = true := by
    rcases hg with ⟨h1, _⟩ | ⟨j, t, want, h1, h2, h3⟩
    · unfold Region.wanted; rw [h1]
    · rw [wanted_guard h1 h3]
      obtain ⟨hv, hl⟩ := hgd t want h2
      have := I.rel.vals t hl
      rw [hv, vrel_bool] at this
      rw [getD_some this (by simp [undef])]
      simp
  simp only [wpOps, ho, hw, if_true]
  exact .inl (hgood _ _ fun φ' L' a' w' I' _ => hrest φ' L' a' w' I')

/-- An environment that says less. -/
structure Weak (s' s : Env) : Prop where
  vals : ∀ t, lookA s'.lads t = none → look s'.vals t = .undef ∨ look s'.vals t = s.get t
  lads : ∀ t l off, lookA s'.lads t = some (l, off) → lookA s.lads t = some (l, off) ∧ ∃ cs, lookB s'.locs l = some cs
  locs : ∀ l cs, lookB s'.locs l = some cs → lookB s.locs l = some cs

theorem In.weak (I : In B n φ0 h0 w0 φ L s h a w) {s' : Env} (k : Weak s' s) : In B n φ0 h0 w0 φ L s' h a w := by
  obtain ⟨c, S, b, d⟩ := I
  refine ⟨⟨c.heap, c.size, c.defers, fun t ht => ?_, fun t l off ht => ?_, fun l cs hl => c.locs l cs (k.locs l cs hl), fun l l' c1 c2 e1 e2 => c.inj l l' c1 c2 (k.locs _ _ e1) (k.locs _ _ e2)⟩, S, b, d⟩
  · rcases k.vals t ht with e | e
    · rw [e]; exact vrel_undef.2 trivial
    · rw [e]; exact c.get t
  · obtain ⟨h1, h2⟩ := k.lads t l off ht
    exact ⟨h2, (c.lads t l off h1).2⟩

def skipEnv (s : Env) : List (Option (Nat × Bool) × Nat × AOp) → Env
  | [] => s
  | (_, _, ao) :: fl => skipEnv (match opDst ao with | some d => s.set d skipV | none => s) fl

/-- Operations that are skipped, all of them. -/
theorem skip_all {ops : Array Oper} : ∀ (fl : List (Option (Nat × Bool) × Nat × AOp)) (a : Act) (s : Env), (∀ e ∈ fl, operOk P n ops e = true) →
    (∀ (pre : List (Option (Nat × Bool) × Nat × AOp)) e post, fl = pre ++ e :: post → ∃ t want, e.1 = some (t, want) ∧ ((∃ e' ∈ pre, opDst e'.2.2 = some t) ∨ ∀ u, a.tmps[t]? = some u → u ≠ .bool want)) →
    In B n φ0 h0 w0 φ L s h a w → ∀ (Q : Exit → Act → World → Prop) (rest : List Nat),
      (∀ a', In B n φ0 h0 w0 φ L (skipEnv s fl) h a' w → wpOps P ops Q rest a' w) → wpOps P ops Q (fl.map (·.2.1) ++ rest) a w
  | [], a, s, _, _, I, Q, rest, hk => hk a I
  | (gd, i, ao) :: fl, a, s, hall, hsk, I, Q, rest, hk => by
    obtain ⟨o, ho, hdst, hlt, hchk, hg⟩ := operOk_spec (hall _ List.mem_cons_self)
    obtain ⟨t, want, hgd, hno⟩ := hsk [] _ fl rfl
    simp only at hgd
    have hw : Region.wanted o (yielded ops a.tmps) = false := by
      rcases hg with ⟨_, h2⟩ | ⟨j, t', want', h1, h2, h3⟩
      · rw [h2] at hgd; cases hgd
      · rw [h2] at hgd
        cases hgd
        rw [wanted_guard h1 h3]
        rcases hno with ⟨_, hm, _⟩ | hno
        · cases hm
        · cases hh : a.tmps[t]? with
          | none => rfl
          | some u =>
            cases u with
            | bool b => simp only [beq_eq_false_iff_ne, ne_eq]; intro e; subst e; exact hno _ hh rfl
            | _ => rfl
    simp only [List.map_cons, List.cons_append, wpOps, ho, hw, Bool.false_eq_true, if_false]
    cases hd : opDst ao with
    | none =>
      rw [hdst, hd]
      refine skip_all fl a s (fun e he => hall e (List.mem_cons_of_mem _ he)) ?_ I Q rest ?_
      · intro pre e post hfl
        obtain ⟨t2, want2, h1, h2⟩ := hsk ((gd, i, ao) :: pre) e post (by rw [hfl]; rfl)
        refine ⟨t2, want2, h1, ?_⟩
        rcases h2 with ⟨e', he', h2⟩ | h2
        · rcases List.mem_cons.1 he' with rfl | he'
          · simp only [hd] at h2; cases h2
          · exact .inl ⟨e', he', h2⟩
        · exact .inr h2
      · intro a' ha'
        exact hk a' (by simp only [skipEnv, hd]; exact ha')
    | some d =>
      rw [hdst, hd]
      have hdn := hlt d hd
      have I' := I.put (Step.refl φ h w) I.rel.heap hdn (skip_rel (φ := φ))
      refine skip_all fl (a.put (some d) undef) (s.set d skipV) (fun e he => hall e (List.mem_cons_of_mem _ he)) ?_ I' Q rest ?_
      · intro pre e post hfl
        obtain ⟨t2, want2, h1, h2⟩ := hsk ((gd, i, ao) :: pre) e post (by rw [hfl]; rfl)
        refine ⟨t2, want2, h1, ?_⟩
        have hput : ∀ u, (a.put (some d) undef).tmps[t2]? = some u → (t2 = d ∧ u = undef) ∨ (t2 ≠ d ∧ a.tmps[t2]? = some u) := by
          intro u hu
          simp only [Act.put, Array.getElem?_setIfInBounds] at hu
          split at hu
          · rename_i he
            split at hu
            · cases hu; exact .inl ⟨he.symm, rfl⟩
            · cases hu
          · rename_i hne; exact .inr ⟨Ne.symm hne, hu⟩
        rcases h2 with ⟨e', he', h2⟩ | h2
        · rcases List.mem_cons.1 he' with rfl | he'
          · simp only [hd, Option.some.injEq] at h2
            subst h2
            right
            intro u hu
            rcases hput u hu with ⟨_, rfl⟩ | ⟨hne, _⟩
            · simp [undef]
            · exact absurd rfl hne
          · exact .inl ⟨e', he', h2⟩
        · right
          intro u hu
          rcases hput u hu with ⟨_, rfl⟩ | ⟨_, hu⟩
          · simp [undef]
          · exact h2 u hu
      · intro a' ha'
        exact hk a' (by simp only [skipEnv, hd]; exact ha')

theorem skipEnv_spec : ∀ (fl : List (Option (Nat × Bool) × Nat × AOp)) (s : Env), (skipEnv s fl).locs = s.locs ∧
    (∀ t, (∀ e ∈ fl, opDst e.2.2 ≠ some t) → look (skipEnv s fl).vals t = look s.vals t ∧ lookA (skipEnv s fl).lads t = lookA s.lads t) ∧
    (∀ t, (∃ e ∈ fl, opDst e.2.2 = some t) → look (skipEnv s fl).vals t = skipV ∧ lookA (skipEnv s fl).lads t = none)
  | [], s => ⟨rfl, fun _ _ => ⟨rfl, rfl⟩, fun t h => by obtain ⟨e, he, _⟩ := h; cases he⟩
  | (gd, i, ao) :: fl, s => by
    simp only [skipEnv]
    cases hd : opDst ao with
    | none =>
      obtain ⟨h1, h2, h3⟩ := skipEnv_spec fl s
      refine ⟨h1, fun t ht => h2 t fun e he => ht e (List.mem_cons_of_mem _ he), fun t ht => h3 t ?_⟩
      obtain ⟨e, he, h⟩ := ht
      rcases List.mem_cons.1 he with rfl | he
      · simp only [hd] at h; cases h
      · exact ⟨e, he, h⟩
    | some d =>
      obtain ⟨h1, h2, h3⟩ := skipEnv_spec fl (s.set d skipV)
      refine ⟨h1, fun t ht => ?_, fun t ht => ?_⟩
      · obtain ⟨q1, q2⟩ := h2 t fun e he => ht e (List.mem_cons_of_mem _ he)
        have hne : t ≠ d := fun e => ht _ List.mem_cons_self (by simp only [hd, e])
        rw [q1, q2]
        simp [Env.set, look_cons, lookA_drop, hne]
      · by_cases hm : ∃ e ∈ fl, opDst e.2.2 = some t
        · exact h3 t hm
        · obtain ⟨q1, q2⟩ := h2 t fun e he h => hm ⟨e, he, h⟩
          obtain ⟨e, he, h⟩ := ht
          rcases List.mem_cons.1 he with rfl | he
          · simp only [hd, Option.some.injEq] at h
            subst h
            rw [q1, q2]
            simp [Env.set, look_cons, lookA_drop]
          · exact absurd ⟨e, he, h⟩ hm


mutual
theorem flat_skip_item : ∀ (x : AItem) (gd : Option (Nat × Bool)) (seen : List Nat) (pf : List (Option (Nat × Bool) × Nat × AOp)), guardsOk true seen x = true → (∀ l ∈ seen, ∃ e' ∈ pf, opDst e'.2.2 = some l) →
    ∀ (pre : List (Option (Nat × Bool) × Nat × AOp)) e post, flatItem gd x = pre ++ e :: post → e.1 = gd ∨ ∃ t2 w2, e.1 = some (t2, w2) ∧ ∃ e' ∈ pf ++ pre, opDst e'.2.2 = some t2
  | .op i o, gd, seen, pf, _, _, pre, e, post, hfl => by
    simp only [flatItem] at hfl
    cases pre with
    | nil => simp only [List.nil_append, List.cons.injEq] at hfl; rw [← hfl.1]; exact .inl rfl
    | cons p pre => simp at hfl
  | .guard t want items ps live, gd, seen, pf, hok, hseen, pre, e, post, hfl => by
    simp only [flatItem] at hfl
    simp only [guardsOk, Bool.and_eq_true, Bool.not_true, Bool.false_or] at hok
    obtain ⟨⟨⟨_, h2⟩, h3⟩, _⟩ := hok
    obtain ⟨e', he', hd⟩ := hseen t (by simpa using h2)
    rcases flat_skip_items items (some (t, want)) [] [] h3 (by simp) pre e post hfl with h | ⟨t2, w2, h, e2, he2, hd2⟩
    · exact .inr ⟨t, want, h, e', List.mem_append_left _ he', hd⟩
    · exact .inr ⟨t2, w2, h, e2, List.mem_append_right _ (by simpa using he2), hd2⟩
theorem flat_skip_items : ∀ (l : List AItem) (gd : Option (Nat × Bool)) (seen : List Nat) (pf : List (Option (Nat × Bool) × Nat × AOp)), guardsAll true seen l = true → (∀ l ∈ seen, ∃ e' ∈ pf, opDst e'.2.2 = some l) →
    ∀ (pre : List (Option (Nat × Bool) × Nat × AOp)) e post, flatItems gd l = pre ++ e :: post → e.1 = gd ∨ ∃ t2 w2, e.1 = some (t2, w2) ∧ ∃ e' ∈ pf ++ pre, opDst e'.2.2 = some t2
  | [], gd, seen, pf, _, _, pre, e, post, hfl => by simp [flatItems] at hfl
  | x :: r, gd, seen, pf, hok, hseen, pre, e, post, hfl => by
    simp only [flatItems] at hfl
    simp only [guardsAll, Bool.and_eq_true] at hok
    rcases List.append_eq_append_iff.1 hfl with ⟨m, h1, h2⟩ | ⟨m, h1, h2⟩
    · -- the first lies within pre
      have hseen' : ∀ q ∈ (match x with | .op _ o => (opDst o).toList ++ seen | _ => seen), ∃ e' ∈ pf ++ flatItem gd x, opDst e'.2.2 = some q := by
        intro q hq
        cases x with
        | op i o =>
          rcases List.mem_append.1 hq with hq | hq
          · exact ⟨(gd, i, o), List.mem_append_right _ (by simp [flatItem]), by simpa using hq⟩
          · obtain ⟨e', he', hd⟩ := hseen q hq
            exact ⟨e', List.mem_append_left _ he', hd⟩
        | guard t want items ps live =>
          obtain ⟨e', he', hd⟩ := hseen q hq
          exact ⟨e', List.mem_append_left _ he', hd⟩
      rcases flat_skip_items r gd _ (pf ++ flatItem gd x) hok.2 hseen' m e post h2 with h | ⟨t2, w2, h, e2, he2, hd2⟩
      · exact .inl h
      · exact .inr ⟨t2, w2, h, e2, by rw [h1, ← List.append_assoc]; exact he2, hd2⟩
    · cases m with
      | nil =>
        simp only [List.append_nil, List.nil_append] at h1 h2
        have hseen' : ∀ q ∈ (match x with | .op _ o => (opDst o).toList ++ seen | _ => seen), ∃ e' ∈ pf ++ flatItem gd x, opDst e'.2.2 = some q := by
          intro q hq
          cases x with
          | op i o =>
            rcases List.mem_append.1 hq with hq | hq
            · exact ⟨(gd, i, o), List.mem_append_right _ (by simp [flatItem]), by simpa using hq⟩
            · obtain ⟨e', he', hd⟩ := hseen q hq
              exact ⟨e', List.mem_append_left _ he', hd⟩
          | guard t want items ps live =>
            obtain ⟨e', he', hd⟩ := hseen q hq
            exact ⟨e', List.mem_append_left _ he', hd⟩
        rcases flat_skip_items r gd _ (pf ++ flatItem gd x) hok.2 hseen' [] e post h2.symm with h | ⟨t2, w2, h, e2, he2, hd2⟩
        · exact .inl h
        · exact .inr ⟨t2, w2, h, e2, by rw [← h1]; simpa using he2, hd2⟩
      | cons q m =>
        simp only [List.cons_append, List.cons.injEq] at h2
        obtain ⟨rfl, h2⟩ := h2
        exact flat_skip_item x gd seen pf hok.1 hseen pre e m h1
end

mutual
theorem flat_dsts_item : ∀ (x : AItem) (gd : Option (Nat × Bool)) (t : Nat), t ∈ itemDsts x ↔ ∃ e ∈ flatItem gd x, opDst e.2.2 = some t
  | .op i o, gd, t => by simp [itemDsts, flatItem]
  | .guard t' want items ps live, gd, t => by simp only [itemDsts, flatItem]; exact flat_dsts items _ t
theorem flat_dsts : ∀ (l : List AItem) (gd : Option (Nat × Bool)) (t : Nat), t ∈ itemsDsts l ↔ ∃ e ∈ flatItems gd l, opDst e.2.2 = some t
  | [], gd, t => by simp [itemsDsts, flatItems]
  | x :: r, gd, t => by
    simp only [itemsDsts, flatItems, List.mem_append]
    rw [flat_dsts_item x gd t, flat_dsts r gd t]
    constructor
    · rintro (⟨e, he, h⟩ | ⟨e, he, h⟩)
      · exact ⟨e, .inl he, h⟩
      · exact ⟨e, .inr he, h⟩
    · rintro ⟨e, he | he, h⟩
      · exact .inl ⟨e, he, h⟩
      · exact .inr ⟨e, he, h⟩
end

theorem lookA_dropAs : ∀ (ds : List Nat) (l : List (Nat × Nat × Nat)) (t : Nat), lookA (dropAs l ds) t = if t ∈ ds then none else lookA l t
  | [], l, t => by simp [dropAs]
  | d :: ds, l, t => by
    simp only [dropAs]
    rw [lookA_dropAs ds, lookA_drop]
    by_cases h1 : t ∈ ds
    · simp [h1]
    · by_cases h2 : t = d
      · simp [h1, h2]
      · simp [h1, h2]

theorem look_append : ∀ (l l' : List (Nat × AVal)) (t : Nat), look (l ++ l') t = if t ∈ l.map (·.1) then look l t else look l' t
  | [], l', t => by simp
  | (d, v) :: l, l', t => by
    rw [List.cons_append, look_cons, look_cons, look_append l l' t]
    by_cases h : t = d
    · simp [h]
    · have hm : t ∈ ((d, v) :: l).map (·.1) ↔ t ∈ l.map (·.1) := by simp [h]
      simp only [hm, if_neg h]

theorem look_undef : ∀ (ds : List Nat) (t : Nat), look (ds.map fun d => (d, AVal.undef)) t = .undef
  | [], t => rfl
  | d :: ds, t => by
    rw [List.map_cons, look_cons, look_undef ds t]
    split <;> rfl

/-- What is handed on, looked up: a value of the row, at its place. -/
theorem look_zip (f : Nat → AVal) (xs : List AVal) : ∀ (live : List Nat) (i : Nat) (t : Nat), (∀ j l, live[j]? = some l → xs.getD (i + j) .undef = f l) → t ∈ live →
    look ((live.zipIdx i).map fun p => (p.1, xs.getD p.2 .undef)) t = f t
  | [], i, t, _, ht => by cases ht
  | l :: live, i, t, h, ht => by
    rw [List.zipIdx_cons, List.map_cons, look_cons]
    split
    · rename_i e; subst e; exact h 0 _ rfl
    · rename_i hne
      rcases List.mem_cons.1 ht with e | ht
      · exact absurd e hne
      · exact look_zip f xs live (i + 1) t (fun j l' hj => by have := h (j + 1) l' hj; rwa [show i + (j + 1) = i + 1 + j by omega] at this) ht

/-- The environment behind a guarded part says no more than is known. -/
theorem upd_weak {s s1 : Env} {dsts live : List Nat} (he : ∀ t, t ∉ dsts → look s1.vals t = look s.vals t ∧ lookA s1.lads t = lookA s.lads t) (hl : s1.locs = s.locs) (hlads : ∀ t l off, lookA s.lads t = some (l, off) → ∃ cs, lookB s.locs l = some cs)
    {xs : List AVal} (hxs : ∀ j l, live[j]? = some l → xs.getD j .undef = s1.get l) : Weak (s.upd dsts live xs) s1 where
  vals := fun t ht => by
    simp only [Env.upd] at ht ⊢
    rw [lookA_dropAs] at ht
    rw [List.append_assoc, look_append, look_append]
    have hm1 : (live.zipIdx.map fun p => (p.1, xs.getD p.2 AVal.undef)).map (·.1) = live := by
      rw [List.map_map]
      have : ((fun x : Nat × AVal => x.1) ∘ fun p : Nat × Nat => (p.1, xs.getD p.2 AVal.undef)) = fun p => p.1 := rfl
      rw [this, List.zipIdx_map_fst]
    have hm2 : (dsts.map fun d => (d, AVal.undef)).map (·.1) = dsts := by
      rw [List.map_map]
      have : ((fun x : Nat × AVal => x.1) ∘ fun d : Nat => (d, AVal.undef)) = id := rfl
      rw [this, List.map_id]
    rw [hm1, hm2]
    by_cases h1 : t ∈ live
    · rw [if_pos h1]
      right
      exact look_zip s1.get xs live 0 t (fun j l hj => by rw [Nat.zero_add]; exact hxs j l hj) h1
    · rw [if_neg h1]
      by_cases h2 : t ∈ dsts
      · rw [if_pos h2, look_undef]; exact .inl rfl
      · rw [if_neg h2]
        rw [if_neg h2] at ht
        right
        obtain ⟨q1, q2⟩ := he t h2
        unfold Env.get
        rw [q2, ht, q1]
  lads := fun t l off ht => by
    simp only [Env.upd] at ht ⊢
    rw [lookA_dropAs] at ht
    split at ht
    · cases ht
    · rename_i h2
      rw [(he t h2).2]
      exact ⟨ht, hlads t l off ht⟩
  locs := fun l cs h => by
    simp only [Env.upd] at h
    rw [hl]; exact h

theorem getD_map {f : Nat → AVal} {live : List Nat} {j l : Nat} (h : live[j]? = some l) : (live.map f).getD j .undef = f l := by
  rw [List.getD_eq_getElem?_getD, List.getElem?_map, h]
  rfl

theorem get_bool {s : Env} {t : Nat} {x : Bool} (h : s.get t = .bool x) : look s.vals t = .bool x ∧ lookA s.lads t = none := by
  unfold Env.get at h
  split at h
  · cases h
  · exact ⟨h, ‹_›⟩

theorem EnvStep.sub {g : Bool} {ds ds' : List Nat} {s s' : Env} (h : EnvStep g ds s s') (hs : ∀ t ∈ ds, t ∈ ds') : EnvStep g ds' s s' := ⟨fun t ht => h.1 t (fun m => ht (hs t m)), h.2⟩

mutual
theorem item_sound {call : Call} (hcall : CallOk P call) {ops : Array Oper} : ∀ (x : AItem) (g : Bool) (pairs : List (Nat × Nat)) (gd : Option (Nat × Bool)) (seen : List Nat) (φ : Phi) (L : Nat → Nat) (s : Env) (h : Heap) (a : Act) (w : World) (k : Env → Heap → Option J) (r : J),
    runItem call g pairs x s h k = some r → (∀ e ∈ flatItem gd x, operOk P n ops e = true) → guardsOk g seen x = true → (∀ t want, gd = some (t, want) → look s.vals t = .bool want ∧ lookA s.lads t = none) →
    In B n φ0 h0 w0 φ L s h a w → ∀ (Q : Exit → Act → World → Prop) (rest : List Nat), (∀ s' h' φ' L' a' w', k s' h' = some r → EnvStep g (itemDsts x) s s' → In B n φ0 h0 w0 φ' L' s' h' a' w' → wpOps P ops Q rest a' w') → wpOps P ops Q ((flatItem gd x).map (·.2.1) ++ rest) a w
  | .op i o, g, pairs, gd, seen, φ, L, s, h, a, w, k, r, hrun, hok, _, hgd, I => by
    simp only [runItem] at hrun
    obtain ⟨s', h', hk, he, hw⟩ := op_step hcall (hok (gd, i, o) (by simp [flatItem])) hgd hrun I
    intro Q rest hrest
    simp only [flatItem, List.map_cons, List.map_nil, List.cons_append, List.nil_append]
    refine hw Q rest fun φ' L' a' w' I' => hrest _ h' φ' L' a' w' hk ?_ ?_
    · simp only [itemDsts]
      cases inPairs pairs i
      · exact he
      · exact ⟨he.1, he.2⟩
    · cases inPairs pairs i
      · exact I'
      · exact I'.env rfl rfl rfl
  | .guard t want items ps live, g, pairs, gd, seen, φ, L, s, h, a, w, k, r, hrun, hok, hgo, _, I => by
    simp only [runItem, Option.bind_eq_some_iff] at hrun
    obtain ⟨r0, hr0, hk⟩ := hrun
    simp only [guardsOk, Bool.and_eq_true, Bool.not_eq_true', List.all_eq_true] at hgo
    obtain ⟨⟨⟨g1, g2⟩, g3⟩, g4⟩ := hgo
    have hnot : t ∉ itemsDsts items := by
      intro hm
      rw [List.contains_eq_mem] at g1
      simp [hm] at g1
    have hlive : ∀ l ∈ live, l ∈ itemsDsts items := fun l hl => by simpa using g4 l hl
    have hlads : ∀ t l off, lookA s.lads t = some (l, off) → ∃ cs, lookB s.locs l = some cs := fun t l off hh => (I.rel.lads t l off hh).1
    have hupd : EnvStep g (itemsDsts items) s (s.upd (itemsDsts items) live r0.2.1) := by
      refine ⟨fun q hq => ?_, fun _ => rfl⟩
      simp only [Env.upd]
      have hm1 : (live.zipIdx.map fun p => (p.1, r0.2.1.getD p.2 AVal.undef)).map (·.1) = live := by
        rw [List.map_map]
        have : ((fun x : Nat × AVal => x.1) ∘ fun p : Nat × Nat => (p.1, r0.2.1.getD p.2 AVal.undef)) = fun p => p.1 := rfl
        rw [this, List.zipIdx_map_fst]
      have hm2 : ((itemsDsts items).map fun d => (d, AVal.undef)).map (·.1) = itemsDsts items := by
        rw [List.map_map]
        have : ((fun x : Nat × AVal => x.1) ∘ fun d : Nat => (d, AVal.undef)) = id := rfl
        rw [this, List.map_id]
      rw [List.append_assoc, look_append, look_append, hm1, hm2, lookA_dropAs, if_neg hq, if_neg hq, if_neg fun hh => hq (hlive q hh)]
      exact ⟨rfl, rfl⟩
    intro Q rest hrest
    have hexec : s.get t = .bool want → runItems call true ps items s.noLog h (fun s' h' => bif s'.noLads live && checkPairs s'.log ps then some (0, s'.vout live, h') else none) = some r0 →
        wpOps P ops Q ((flatItem gd (.guard t want items ps live)).map (·.2.1) ++ rest) a w := by
      intro hb hrun
      simp only [flatItem]
      refine items_sound hcall items true ps (some (t, want)) [] φ L s.noLog h a w _ r0 hrun (by simpa [flatItem] using hok) g3
        (fun t' want' e => by cases e; exact get_bool hb) hnot (I.env rfl rfl rfl) Q rest ?_
      intro s1 h1 φ' L' a' w' hk1 he1 I'
      cases hcp : (s1.noLads live && checkPairs s1.log ps) with
      | false => rw [hcp] at hk1; cases hk1
      | true =>
        rw [hcp] at hk1
        cases hk1
        refine hrest _ _ φ' L' a' w' hk hupd (I'.weak ?_)
        exact upd_weak (s := s) he1.1 (he1.2 rfl) hlads fun j l hj => getD_map hj
    have hskip : (∀ u, a.tmps[t]? = some u → u ≠ .bool want) → r0 = (0, live.map fun _ => skipV, h) →
        wpOps P ops Q ((flatItem gd (.guard t want items ps live)).map (·.2.1) ++ rest) a w := by
      intro hno he
      subst he
      simp only [flatItem] at hok ⊢
      refine skip_all _ a s hok ?_ I Q rest fun a' I' => hrest _ _ φ L a' w hk hupd (I'.weak ?_)
      · intro pre e post hfl
        rcases flat_skip_items items (some (t, want)) [] [] g3 (by simp) pre e post hfl with h | ⟨t2, w2, h, e2, he2, hd2⟩
        · exact ⟨t, want, h, .inr hno⟩
        · exact ⟨t2, w2, h, .inl ⟨e2, by simpa using he2, hd2⟩⟩
      · obtain ⟨q1, q2, q3⟩ := skipEnv_spec (flatItems (some (t, want)) items) s
        refine upd_weak (fun t' ht' => q2 t' fun e he hd => ht' ((flat_dsts items _ t').2 ⟨e, he, hd⟩)) q1 hlads fun j l hj => ?_
        rw [getD_map (f := fun _ => skipV) hj]
        obtain ⟨z1, z2⟩ := q3 l ((flat_dsts items _ l).1 (hlive l (List.mem_of_getElem? hj)))
        unfold Env.get
        rw [z2, z1]
    unfold guardV at hr0
    split at hr0
    · rename_i x hx
      cases hxw : (x == want) with
      | true =>
        rw [hxw] at hr0
        have : x = want := by simpa using hxw
        subst this
        exact hexec hx hr0
      | false =>
        rw [hxw] at hr0
        refine hskip ?_ (by cases hr0; rfl)
        intro u hu e
        subst e
        obtain ⟨v1, v2⟩ := get_bool hx
        have := I.rel.vals t v2
        rw [v1, vrel_bool, Array.getD_eq_getD_getElem?, hu] at this
        simp only [Option.getD_some, Value.bool.injEq] at this
        subst this
        simp at hxw
    · rename_i hx
      refine hskip ?_ (by cases hr0; rfl)
      intro u hu e
      subst e
      have := I.rel.get t
      rw [hx] at this
      obtain ⟨vs, hv, _⟩ := vrel_tuple.1 this
      rw [Array.getD_eq_getD_getElem?, hu] at hv
      cases hv
    · cases hr0
theorem items_sound {call : Call} (hcall : CallOk P call) {ops : Array Oper} : ∀ (l : List AItem) (g : Bool) (pairs : List (Nat × Nat)) (gd : Option (Nat × Bool)) (seen : List Nat) (φ : Phi) (L : Nat → Nat) (s : Env) (h : Heap) (a : Act) (w : World) (k : Env → Heap → Option J) (r : J),
    runItems call g pairs l s h k = some r → (∀ e ∈ flatItems gd l, operOk P n ops e = true) → guardsAll g seen l = true → (∀ t want, gd = some (t, want) → look s.vals t = .bool want ∧ lookA s.lads t = none) →
    (match gd with | some (t, _) => t ∉ itemsDsts l | none => True) →
    In B n φ0 h0 w0 φ L s h a w → ∀ (Q : Exit → Act → World → Prop) (rest : List Nat), (∀ s' h' φ' L' a' w', k s' h' = some r → EnvStep g (itemsDsts l) s s' → In B n φ0 h0 w0 φ' L' s' h' a' w' → wpOps P ops Q rest a' w') → wpOps P ops Q ((flatItems gd l).map (·.2.1) ++ rest) a w
  | [], g, pairs, gd, seen, φ, L, s, h, a, w, k, r, hrun, _, _, _, _, I => by
    simp only [runItems] at hrun
    intro Q rest hrest
    simpa [flatItems] using hrest s h φ L a w hrun (EnvStep.refl _ _ _) I
  | x :: l, g, pairs, gd, seen, φ, L, s, h, a, w, k, r, hrun, hok, hgo, hgd, hnot, I => by
    simp only [runItems] at hrun
    simp only [guardsAll, Bool.and_eq_true] at hgo
    intro Q rest hrest
    simp only [flatItems, List.map_append, List.append_assoc]
    refine item_sound hcall x g pairs gd seen φ L s h a w _ r hrun (fun e he => hok e (by simp only [flatItems]; exact List.mem_append_left _ he)) hgo.1 hgd I Q _ ?_
    intro s1 h1 φ1 L1 a1 w1 hk1 he1 I1
    refine items_sound hcall l g pairs gd _ φ1 L1 s1 h1 a1 w1 k r hk1 (fun e he => hok e (by simp only [flatItems]; exact List.mem_append_right _ he)) hgo.2 ?_ ?_ I1 Q rest ?_
    · intro t want e
      subst e
      simp only [itemsDsts, List.mem_append, not_or] at hnot
      obtain ⟨q1, q2⟩ := he1.1 t hnot.1
      rw [q1, q2]
      exact hgd t want rfl
    · cases gd with
      | none => trivial
      | some p => simp only [itemsDsts, List.mem_append, not_or] at hnot; exact hnot.2
    · intro s' h' φ' L' a' w' hk he I'
      exact hrest s' h' φ' L' a' w' hk (he1.trans he) I'
end

/-- A region in the order of the text. -/
theorem region_sound {call : Call} (hcall : CallOk P call) {ops : Array Oper} {id : Nat} {items : List AItem} {pairs : List (Nat × Nat)} (hok : regionOk P n ops items = true) {k : Env → Heap → Option J} {r : J}
    (hrun : runItems call false pairs items s h k = some r) (I : In B n φ0 h0 w0 φ L s h a w) (Q : Exit → Act → World → Prop)
    (hQ : ∀ s' h' φ' L' a' w', k s' h' = some r → In B n φ0 h0 w0 φ' L' s' h' a' w' → Q .normal a' w') : (Code.region id ops false).wp P Q a w := by
  unfold regionOk at hok
  simp only [Bool.and_eq_true, decide_eq_true_eq, List.all_eq_true] at hok
  obtain ⟨⟨h1, h2⟩, h3⟩ := hok
  refine wp_region ?_
  rw [← h1]
  have := items_sound hcall items false pairs none [] φ L s h a w k r hrun h2 h3 (fun _ _ e => by cases e) trivial I Q [] ?_
  · simpa using this
  · intro s' h' φ' L' a' w' hk _ I'
    exact hQ s' h' φ' L' a' w' hk I'

end
end Go.Fw
