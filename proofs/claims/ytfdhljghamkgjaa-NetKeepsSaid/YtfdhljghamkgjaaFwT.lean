/- Functions: what the abstract run answers, a call of the model's function does. -/
import Derived.Test.YtfdhljghamkgjaaFwR
import Derived.Test.YtfdhljghamkgjaaFwS
namespace Go.Fw
set_option linter.unusedSimpArgs false
set_option linter.unusedVariables false

def resOk (P : Program) : ResultVar → ARes → Bool
  | .tmp t, .tmp u => Nat.beq t u
  | .cell a t, .cell b agg n => Nat.beq a b && aggOk P t agg n
  | _, _ => false
def ressOk (P : Program) : List ResultVar → List ARes → Bool
  | [], [] => true
  | r :: rs, a :: as => resOk P r a && ressOk P rs as
  | _, _ => false

def resSem (tmps : Array Value) : ResultVar → Sem Value
  | .tmp t => pure (tmps.getD t undef)
  | .cell a t => do loadVar t (← asAddr (tmps.getD a undef))

theorem results_eq (fn : Func) (tmps : Array Value) : results fn tmps = (do let vs ← fn.results.mapM (resSem tmps); pure (if h : vs.size = 1 then vs[0] else .tuple vs)) := by
  have : (fun x => match x with | .tmp t => pure (tmps.getD t undef) | .cell a t => do loadVar t (← asAddr (tmps.getD a undef))) = resSem tmps := by
    funext x; cases x <;> rfl
  rw [← this]
  rfl

/-- The check of a function. -/
def funcOk (P : Program) (drawOk : Nat → Nat → Array Oper → List AItem → List (Nat × Nat) → Bool) (fn : Func) (a : AFunc) : Bool :=
  Nat.ble a.nargs fn.ntmps && ressOk P fn.results.toList a.results && (match fn.body with | some c => codeOk P drawOk fn.ntmps a.body c | none => false)

/-- What a function set aside must do. -/
def PrimOk (P : Program) (f : Nat) (sem : List AVal → Heap → Option (AVal × Heap)) : Prop :=
  ∀ args h r h', sem args h = some (r, h') → ∀ φ w (vs : Array Value), HRel φ h w → VRels φ args vs.toList →
    ((callFunc f vs).run P w = .ok (.enter f vs) w) ∧
    Calls P f vs w fun e w' => ∃ φ' v, e = .returned v ∧ VRel φ' r v ∧ HRel φ' h' w' ∧ Step φ h w φ' h' w'

def FnOk (P : Program) (drawOk : Nat → Nat → Array Oper → List AItem → List (Nat × Nat) → Bool) (f : Nat) : AFn → Prop
  | .code a => ∃ fn, P.funcs[f]? = some fn ∧ fn.name ≠ "runtime.NumGoroutine" ∧ funcOk P drawOk fn a = true
  | .prim sem => PrimOk P f sem

section
variable {P : Program} {B n : Nat} {φ0 : Phi} {h0 : Heap} {w0 : World} {φ : Phi} {L : Nat → Nat} {s : Env} {h : Heap} {a : Act} {w : World}

theorem res_rel (c : CRel B n φ L s h a w) {x : ResultVar} {y : ARes} (hc : resOk P x y = true) {v : AVal} (hv : resOf s h y = some v) :
    ∃ u, (resSem a.tmps x).run P w = .ok u w ∧ VRel φ v u := by
  cases x with
  | tmp t =>
    cases y with
    | tmp u =>
      have e : t = u := Nat.eq_of_beq_eq_true hc
      subst e
      cases hv
      exact ⟨_, rfl, c.get t⟩
    | cell => cases hc
  | cell b t =>
    cases y with
    | tmp => cases hc
    | cell b' agg m =>
      simp only [resOk, Bool.and_eq_true] at hc
      have e : b = b' := Nat.eq_of_beq_eq_true hc.1
      subst e
      have hop : opdOk (.tmp b) (.tmp b) = true := by simp [opdOk]
      simp only [resOf] at hv
      split at hv
      · rename_i l off hl
        simp only [Option.bind_eq_some_iff] at hv
        obtain ⟨cs, ⟨cs0, hl0, hcs⟩, hv⟩ := hv
        obtain ⟨_, hxv⟩ := lad_spec c hop hl
        obtain ⟨us, u1, u2, u3, u4⟩ := loc_rd c hl0 hcs
        obtain ⟨u, hu, hr⟩ := loadVar_of (P := P) (w := w) hc.2 u1 u2 u3 u4 hv
        refine ⟨u, ?_, hr⟩
        have hxv' : a.tmps.getD b undef = _ := hxv
        show (do loadVar t (← asAddr (a.tmps.getD b undef)) : Sem Value).run P w = _
        rw [hxv']
        simp only [asAddr, Sem.run_bind, Sem.run_pure, Result.andThen_ok]
        exact hu
      · simp only [Option.bind_eq_some_iff] at hv
        obtain ⟨cs, hcs, hv⟩ := hv
        have hx := c.get b
        obtain ⟨u, hu, hr⟩ := load_rel (P := P) c.heap hc.2 hx hcs hv
        refine ⟨u, ?_, hr⟩
        unfold aLoad at hcs
        split at hcs
        · rename_i e
          rw [e] at hx
          obtain ⟨L, hbl, hp⟩ := vrel_ptr.1 hx
          rw [hp] at hu
          simp [Instr.loadAt, Instr.sureAddr] at hu
          show (do loadVar t (← asAddr (a.tmps.getD b undef)) : Sem Value).run P w = _
          rw [hp]
          simp only [asAddr, Sem.run_bind, Sem.run_pure, Result.andThen_ok]
          exact hu
        · cases hcs

theorem ress_rel (c : CRel B n φ L s h a w) : ∀ {xs : List ResultVar} {ys : List ARes} (_ : ressOk P xs ys = true) {vs : List AVal} (_ : resAll s h ys = some vs),
    ∃ us, (xs.mapM (resSem a.tmps)).run P w = .ok us w ∧ VRels φ vs us
  | [], [], _, vs, hv => by
    cases hv
    exact ⟨[], rfl, by simp [VRels]⟩
  | [], _ :: _, hc, _, _ => by cases hc
  | _ :: _, [], hc, _, _ => by cases hc
  | x :: xs, y :: ys, hc, vs, hv => by
    simp only [ressOk, Bool.and_eq_true] at hc
    simp only [resAll, Option.bind_eq_some_iff, Option.some.injEq] at hv
    obtain ⟨v, h1, vs', h2, rfl⟩ := hv
    obtain ⟨u, hu, hr⟩ := res_rel c hc.1 h1
    obtain ⟨us, hus, hrs⟩ := ress_rel c hc.2 h2
    refine ⟨u :: us, ?_, by simp only [VRels]; exact ⟨hr, hrs⟩⟩
    rw [List.mapM_cons]
    simp only [Sem.run_bind, hu, Result.andThen_ok, hus, Sem.run_pure]

theorem results_rel (c : CRel B n φ L s h a w) {fn : Func} {ys : List ARes} (hc : ressOk P fn.results.toList ys = true) {vs : List AVal} (hv : resAll s h ys = some vs) :
    ∃ u, (results fn a.tmps).run P w = .ok u w ∧ VRel φ (oneOr vs) u := by
  obtain ⟨us, hus, hr⟩ := ress_rel c hc hv
  refine ⟨if h : us.toArray.size = 1 then us.toArray[0] else .tuple us.toArray, ?_, ?_⟩
  · rw [results_eq, Array.mapM_eq_mapM_toList]
    simp only [Sem.run_bind]
    have : ((List.toArray <$> fn.results.toList.mapM (resSem a.tmps)) : Sem (Array Value)).run P w = .ok us.toArray w := by
      rw [map_eq_pure_bind]
      simp only [Sem.run_bind, hus, Result.andThen_ok, Sem.run_pure]
    rw [this]
    simp only [Result.andThen_ok, Sem.run_pure]
  · have hlen := VRels.length hr
    match vs, us, hr with
    | [], [], _ => unfold oneOr VRel; exact ⟨#[], by simp, by simp [VRels]⟩
    | [v], [u], hr => simp only [VRels, and_true] at hr; simpa [oneOr] using hr
    | v1 :: v2 :: vs, u1 :: u2 :: us, hr =>
      unfold oneOr VRel
      exact ⟨_, by simp, hr⟩

theorem look_args (args : List AVal) : ∀ (i t : Nat), look ((args.zipIdx i).map fun p => (p.2, p.1)) t = if i ≤ t then args.getD (t - i) .undef else .undef := by
  induction args with
  | nil => intro i t; simp [look]
  | cons x args ih =>
    intro i t
    rw [List.zipIdx_cons, List.map_cons, look_cons, ih]
    by_cases h : t = i
    · subst h; simp
    · simp only [if_neg h]
      by_cases h2 : i ≤ t
      · rw [if_pos h2, if_pos (by omega : i + 1 ≤ t), show t - i = (t - (i + 1)) + 1 by omega]
        simp
      · rw [if_neg h2, if_neg (by omega)]

theorem fn_sound {drawOk : Nat → Nat → Array Oper → List AItem → List (Nat × Nat) → Bool} (hdraw : DrawSound P drawOk) {call : Call} (hcall : CallOk P call) {f : Nat} {fn : Func} {a : AFunc}
    (hf : P.funcs[f]? = some fn) (hname : fn.name ≠ "runtime.NumGoroutine") (hok : funcOk P drawOk fn a = true) : PrimOk P f (runFn call (.code a)) := by
  intro args h r h' hrun φ w vs H hargs
  simp only [funcOk, Bool.and_eq_true] at hok
  obtain ⟨⟨hn, hres⟩, hbody⟩ := hok
  split at hbody
  · rename_i c hb
    refine ⟨?_, ?_⟩
    · simp only [callFunc, Sem.run_bind]
      simp [hf, hname, hb]
    · simp only [runFn] at hrun
      cases hl : Nat.beq args.length a.nargs with
      | false => rw [hl] at hrun; cases hrun
      | true =>
        rw [hl] at hrun
        simp only [cond_true, Option.bind_eq_some_iff] at hrun
        obtain ⟨r0, hrun, hans⟩ := hrun
        have hl' := Nat.eq_of_beq_eq_true hl
        have hlen := VRels.length hargs
        simp only [Array.length_toList] at hlen
        have hn' := Nat.le_of_ble_eq_true hn
        refine calls_of_wp hf hb ?_
        refine code_sound hdraw hcall a.body c hbody φ (fun _ => 0) (argEnv args) h _ w (endF a.results) r0 hrun (B := w.heap.size) (φ0 := φ) (h0 := h) (w0 := w) ?_ _ ?_
        · refine ⟨⟨H, ?_, rfl, ?_, ?_, ?_, ?_⟩, Step.refl _ _ _, rfl, fun b L hb => (H.dom b L hb).1⟩
          · simp; omega
          · intro t _
            simp only [argEnv]
            rw [look_args]
            simp only [Nat.zero_le, if_true, Nat.sub_zero]
            by_cases ht : t < args.length
            · obtain ⟨v, hv, hr⟩ := VRels.get hargs t args[t] (by simp [ht])
              rw [List.getD_eq_getElem?_getD, List.getElem?_eq_getElem ht, Option.getD_some]
              rw [Array.getElem?_toList] at hv
              rw [Array.getD_eq_getD_getElem?, Array.getElem?_append_left (by omega), hv]
              exact hr
            · rw [List.getD_eq_getElem?_getD, List.getElem?_eq_none (by omega)]
              unfold VRel
              trivial
          · intro t l off hh; cases hh
          · intro l cs hh; cases hh
          · intro l l' cs cs' hh; cases hh
        · intro e s' h1 φ' L' a' w' hk I'
          cases e with
          | exit id => cases hk
          | normal =>
            simp only [endF, Option.bind_eq_some_iff, Option.some.injEq] at hk
            obtain ⟨us, hus, rfl⟩ := hk
            cases hans
            obtain ⟨u, hu, hr⟩ := results_rel I'.rel hres hus
            exact ⟨I'.rel.defers, u, hu, φ', u, rfl, hr, I'.rel.heap, I'.step⟩
          | ret =>
            simp only [endF, Option.bind_eq_some_iff, Option.some.injEq] at hk
            obtain ⟨us, hus, rfl⟩ := hk
            cases hans
            obtain ⟨u, hu, hr⟩ := results_rel I'.rel hres hus
            exact ⟨I'.rel.defers, u, hu, φ', u, rfl, hr, I'.rel.heap, I'.step⟩
  · cases hbody
end

theorem runF_sound {P : Program} {drawOk : Nat → Nat → Array Oper → List AItem → List (Nat × Nat) → Bool} (hdraw : DrawSound P drawOk) {tbl : Nat → Option AFn} (htbl : ∀ f a, tbl f = some a → FnOk P drawOk f a) : ∀ n, CallOk P (runF tbl n)
  | 0 => by intro f args h r h' hh; cases hh
  | n + 1 => by
    intro f args h r h' hh
    rw [runF] at hh
    split at hh
    · rename_i a ha
      have hfn := htbl f a ha
      cases a with
      | prim sem => exact hfn args h r h' hh
      | code a =>
        obtain ⟨fn, h1, h2, h3⟩ := hfn
        exact fn_sound hdraw (runF_sound hdraw htbl n) h1 h2 h3 args h r h' hh
    · cases hh

/-- **What the abstract functions answer, the program's do.** -/
theorem E_sound {P : Program} {drawOk : Nat → Nat → Array Oper → List AItem → List (Nat × Nat) → Bool} (hdraw : DrawSound P drawOk) {tbl : Nat → Option AFn} (htbl : ∀ f a, tbl f = some a → FnOk P drawOk f a) : CallOk P (E tbl) := by
  intro f args h r h' hh
  obtain ⟨n, hn⟩ := E_some.1 hh
  exact runF_sound hdraw htbl n f args h r h' hn

end Go.Fw
