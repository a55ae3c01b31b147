/- The region that counts a key. -/
import Derived.Test.YtllogmedpmanoaaMapC
namespace Go.Fw
set_option linter.unusedSimpArgs false
set_option linter.unusedVariables false
open Go.ChangeMaps (setBlock)

def counted (k : Tx2) (L : List (Tx2 × Int)) : List (Tx2 × Int) := (placed k L).modify (placeOf k L) fun e => (e.1, IntKind.i64.wrap (cntOf k L + 1))
theorem placeOf_lt (k : Tx2) (L : List (Tx2 × Int)) : placeOf k L < (placed k L).length := by
  unfold placeOf placed
  cases h : idxOf k L 0 with
  | none => simp
  | some p =>
    obtain ⟨j, h1, h2⟩ := idxOf_spec k L 0 p h
    have := (List.getElem?_eq_some_iff.1 h2).1
    simp only
    omega
theorem set_modify {α : Type} (L : List α) (p : Nat) (hp : p < L.length) (f : α → α) : L.set p (f L[p]) = L.modify p f := by
  apply List.ext_getElem?
  intro i
  rw [List.getElem?_set, List.getElem?_modify]
  by_cases e : p = i
  · subst e; simp [hp]
  · simp [e]

/-- The map behind the entry's making, and behind the store. -/
def mapIs (k : Tx2) (L : List (Tx2 × Int)) (d5 d7 : Bool) : List (Tx2 × Int) := bif d7 then counted k L else bif d5 then placed k L else L

structure Reg (N n : Nat) (w0 : World) (φ : Phi) (h : Heap) (vs : List (Nat × AVal)) (w1 : World) (r b : Nat) (k : Tx2) (L : List (Tx2 × Int)) (D : Nat → Bool) (a : Act) (w : World) : Prop where
  sta : Sta N n w0 φ h vs a w
  kept : ∀ (j : Nat) (x : Obj), j ≠ r → w1.heap[j]? = some x → ¬ isCells x → w.heap[j]? = some x
  t0 : D 0 = true → a.tmps.getD 56 undef = .map (some r)
  t1 : D 1 = true → VRel φ (.ptr b 0) (a.tmps.getD 57 undef)
  t2 : D 2 = true → a.tmps.getD 58 undef = kv k
  t3 : D 3 = true → a.tmps.getD 59 undef = .int .i64 (cntOf k L)
  t4 : D 4 = true → a.tmps.getD 60 undef = .int .i64 (IntKind.i64.wrap (cntOf k L + 1))
  t5 : D 5 = true → ∃ v, a.tmps.getD 61 undef = .tuple #[v, .int .i64 (placeOf k L)]
  t6 : D 6 = true → a.tmps.getD 62 undef = .int .i64 (placeOf k L)
  c57 : D 7 = true → ∀ j, j < 7 → D j = true
  map : MapAt w r (mapIs k L (D 5) (D 7))

section
variable {N : Nat} {w0 : World} {φ : Phi} {h : Heap} {vs : List (Nat × AVal)} {w1 : World} {r b : Nat} {k : Tx2} {L : List (Tx2 × Int)} {D : Nat → Bool} {a : Act} {w : World}
theorem Reg.put (T : Reg N 78 w0 φ h vs w1 r b k L D a w) (hf : ∀ d, 56 ≤ d → d < 63 → look vs d = .undef) {i : Nat} (hi : i < 7) (u : Value) {w' : World} (S : Sta N 78 w0 φ h vs a w')
    (kept : ∀ (j : Nat) (x : Obj), j ≠ r → w.heap[j]? = some x → ¬ isCells x → w'.heap[j]? = some x) (c57 : D 7 = false) (M : MapAt w' r (mapIs k L (setD D i 5) (D 7)))
    (n0 : i = 0 → u = .map (some r)) (n1 : i = 1 → VRel φ (.ptr b 0) u) (n2 : i = 2 → u = kv k) (n3 : i = 3 → u = .int .i64 (cntOf k L)) (n4 : i = 4 → u = .int .i64 (IntKind.i64.wrap (cntOf k L + 1)))
    (n5 : i = 5 → ∃ v, u = .tuple #[v, .int .i64 (placeOf k L)]) (n6 : i = 6 → u = .int .i64 (placeOf k L)) : Reg N 78 w0 φ h vs w1 r b k L (setD D i) (a.put (some (56 + i)) u) w' := by
  have hs : 56 + i < a.tmps.size := by rw [T.sta.size]; omega
  have get : ∀ t, (a.put (some (56 + i)) u).tmps.getD t undef = if t = 56 + i then u else a.tmps.getD t undef := fun t => put_get a (56 + i) t u hs
  have old : ∀ j, j ≠ i → setD D i j = true → D j = true := fun j hj hh => by unfold setD at hh; rwa [if_neg hj] at hh
  refine ⟨S.skip (by omega) (hf _ (by omega) (by omega)) u, fun j x hj hx hc => kept j x hj (T.kept j x hj hx hc) hc, fun hh => ?_, fun hh => ?_, fun hh => ?_, fun hh => ?_, fun hh => ?_, fun hh => ?_, fun hh => ?_, fun hh => ?_, ?_⟩
  · rw [get]
    by_cases e : 0 = i
    · rw [if_pos (by omega)]; exact n0 e.symm
    · rw [if_neg (by omega)]; exact T.t0 (old 0 e hh)
  · rw [get]
    by_cases e : 1 = i
    · rw [if_pos (by omega)]; exact n1 e.symm
    · rw [if_neg (by omega)]; exact T.t1 (old 1 e hh)
  · rw [get]
    by_cases e : 2 = i
    · rw [if_pos (by omega)]; exact n2 e.symm
    · rw [if_neg (by omega)]; exact T.t2 (old 2 e hh)
  · rw [get]
    by_cases e : 3 = i
    · rw [if_pos (by omega)]; exact n3 e.symm
    · rw [if_neg (by omega)]; exact T.t3 (old 3 e hh)
  · rw [get]
    by_cases e : 4 = i
    · rw [if_pos (by omega)]; exact n4 e.symm
    · rw [if_neg (by omega)]; exact T.t4 (old 4 e hh)
  · rw [get]
    by_cases e : 5 = i
    · rw [if_pos (by omega)]; exact n5 e.symm
    · rw [if_neg (by omega)]; exact T.t5 (old 5 e hh)
  · rw [get]
    by_cases e : 6 = i
    · rw [if_pos (by omega)]; exact n6 e.symm
    · rw [if_neg (by omega)]; exact T.t6 (old 6 e hh)
  · have h7 := old 7 (by omega) hh
    rw [c57] at h7
    cases h7
  · have e7 : setD D i 7 = D 7 := by unfold setD; rw [if_neg (by omega)]
    rw [e7]
    exact M
end

theorem idxOf_app (k : Tx2) (x : Int) : ∀ (L : List (Tx2 × Int)) (i : Nat), idxOf k L i = none → idxOf k (L ++ [(k, x)]) i = some (i + L.length, x)
  | [], i, _ => by simp [idxOf]
  | e :: L, i, h => by
    unfold idxOf at h
    rw [List.cons_append]
    unfold idxOf
    cases hk : k == e.1 with
    | true => rw [hk] at h; cases h
    | false =>
      rw [hk] at h
      rw [cond_false, idxOf_app k x L (i + 1) h, List.length_cons]
      congr 2
      omega
theorem cnt_placed (k : Tx2) (L : List (Tx2 × Int)) : cntOf k (placed k L) = cntOf k L := by
  unfold placed
  cases h : idxOf k L 0 with
  | some p => rfl
  | none =>
    unfold cntOf
    rw [idxOf_app k 0 L 0 h, h]
    rfl
theorem mapAt_of {w : World} {r : Nat} {L : List (Tx2 × Int)} {o : Obj} (h : w.heap[r]? = some o) : MapAt (setBlock w r (.map (ents L) L.length)) r L := setBlock_at h
theorem not_cells_map (es : Array MapEntry) (c : Nat) : ¬ isCells (.map es c) := fun h => h
theorem set_kept {w : World} {r : Nat} {o' : Obj} : ∀ (j : Nat) (x : Obj), j ≠ r → w.heap[j]? = some x → ¬ isCells x → (setBlock w r o').heap[j]? = some x := fun j x hj hx _ => by
  rw [setBlock_ne o' (fun e => hj e.symm)]; exact hx

theorem extract_run (v : Value) (x : Value) (w : World) : (Instr.extract (.tuple #[v, x]) 1).run PP w = .ok x w := by kernel_rfl
theorem fadd_tag : tagOk PP 3 (.tmp 59) (.const (.int .i64 1)) .plain = true := by kernel_rfl
theorem faddr_ok : chkOp PP (.fieldAddr 40 (.tmp 10) 0) (.faddr 57 0 (.tmp 10)) = true := by kernel_rfl
theorem load_ok : aggOk PP 36 true 2 = true := by kernel_rfl

section
variable {P : Program} {ops : Array Oper} {Q : Exit → Act → World → Prop} {i : Nat} {o : Oper} {a : Act} {w w' : World} {K : Act → World → Prop}
theorem wpOp_value (ho : ops[i]? = some o) (hg : o.guard = none) {u : Value} (he : (execOp a.eval o).run P w = .ok (.value u) w') (hk : K (a.put o.dst u) w') : wpOp P ops Q i K a w := by
  have hw : Region.wanted o (yielded ops a.tmps) = true := by unfold Region.wanted; rw [hg]
  simp only [wpOp, ho, hw, if_true]
  exact .inl (wp_value he hk)
theorem wpOp_skip (ho : ops[i]? = some o) (hg : o.guard = none) (he : (execOp a.eval o).run P w = .ok .skip w') (hk : K (a.put o.dst undef) w') : wpOp P ops Q i K a w := by
  have hw : Region.wanted o (yielded ops a.tmps) = true := by unfold Region.wanted; rw [hg]
  simp only [wpOp, ho, hw, if_true]
  refine .inl ?_
  unfold Oper.wp
  rw [he]
  exact hk
theorem exec_v {ρ : Operand → Value} {sem : Sem Value} {u : Value} (he : execOp ρ o = (do pure (.value (← sem)))) (hr : sem.run P w = .ok u w') : (execOp ρ o).run P w = .ok (.value u) w' := by
  rw [he]
  simp only [Sem.run_bind, hr, Result.andThen_ok, Sem.run_pure]
theorem exec_u {ρ : Operand → Value} {sem : Sem Unit} (he : execOp ρ o = (do sem; pure .skip)) (hr : sem.run P w = .ok () w') : (execOp ρ o).run P w = .ok .skip w' := by
  rw [he]
  simp only [Sem.run_bind, hr, Result.andThen_ok, Sem.run_pure]
end

theorem count_key {N : Nat} {w0 : World} {φ : Phi} {h : Heap} {vs : List (Nat × AVal)} {a : Act} {w : World} {r b : Nat} {k : Tx2} {L : List (Tx2 × Int)} (S : Sta N 78 w0 φ h vs a w) (M : MapAt w r L) (hr : N ≤ r)
    (v7 : look vs 7 = .mapv r) (v10 : look vs 10 = .ptr b 0) (hk : h.rd b 0 2 = some [.str k.1, .str k.2]) (hf : ∀ d, 56 ≤ d → d < 63 → look vs d = .undef)
    {Q : Exit → Act → World → Prop} (hQ : ∀ a' w', Sta N 78 w0 φ h vs a' w' → MapAt w' r (counted k L) → (∀ (j : Nat) (x : Obj), j ≠ r → w.heap[j]? = some x → ¬ isCells x → w'.heap[j]? = some x) → Q .normal a' w') : kd11.wp PP Q a w := by
  rw [kd11_eq]
  have hm : PP.follows .mixedOrders = true := by kernel_rfl
  have hsz : (cOps kd11).size = 8 := by kernel_rfl
  have info : ∀ i o, (cOps kd11)[i]? = some o → ((cOps kd11).toList.map opInfo)[i]? = some (opInfo o) := fun i o ho => by
    rw [List.getElem?_map, Array.getElem?_toList, ho]; rfl
  rw [ops11] at info
  have deps : ∀ o : Oper, ∀ e ∈ o.after.toList, Region.binds .any e = true → e.on ∈ (opInfo o).2.2.2 := fun o e he hb => List.mem_map.2 ⟨e, List.mem_filter.2 ⟨he, hb⟩, rfl⟩
  have need : ∀ (D : Nat → Bool) (o : Oper), (∀ e ∈ o.after.toList, Region.binds .any e = true → D e.on = true) → ∀ j ∈ (opInfo o).2.2.2, D j = true := fun D o hh j hj => by
    obtain ⟨e, he, rfl⟩ := List.mem_map.1 hj
    rw [List.mem_filter] at he
    exact hh e he.1 he.2
  have bound : ∀ i o, (cOps kd11)[i]? = some o → i < 8 := fun i o ho => by
    rcases Nat.lt_or_ge i 8 with h | h
    · exact h
    · rw [Array.getElem?_eq_none (by rw [hsz]; exact h)] at ho; cases ho
  refine wp_region_any hm ?_
  have S1 : Sta N 78 w0 φ h vs a { w with drawn := w.drawn + 1 } := S.other (Nat.le_refl _) (fun _ _ h _ => h) (fun _ _ => rfl) rfl rfl rfl
  have R0 : Reg N 78 w0 φ h vs w r b k L (fun i => (Array.replicate (cOps kd11).size false).getD i false) a { w with drawn := w.drawn + 1 } := by
    have hF : ∀ i, (Array.replicate (cOps kd11).size false).getD i false = false := fun i => by
      rw [Array.getD_eq_getD_getElem?, Array.getElem?_replicate]
      split <;> rfl
    refine ⟨S1, fun j x _ hx _ => hx, ?_, ?_, ?_, ?_, ?_, ?_, ?_, ?_, ?_⟩ <;> simp only [hF]
    all_goals first | (intro hh; cases hh) | exact M
  refine any_inv (Reg N 78 w0 φ h vs w r b k L) ?_ ?_ ?_ _ _ _ _ (by simp) ?_ R0
  · -- what is waited for stands ahead
    intro i o ho e he hb
    have hi := bound i o ho
    have h1 := info i o ho
    have h2 := deps o e he hb
    rcases i with _ | _ | _ | _ | _ | _ | _ | _ | i
    all_goals first
      | omega
      | (rw [← Option.some.inj h1] at h2; simp only [List.mem_cons, List.not_mem_nil, or_false] at h2; done)
      | (rw [← Option.some.inj h1] at h2; simp only [List.mem_cons, List.not_mem_nil, or_false] at h2; omega)
  · intro D a w i o ho hD hdep T
    have hi := bound i o ho
    have h1 := info i o ho
    have h2 := need D o hdep
    have l7 : a.tmps.getD 7 undef = .map (some r) := by have := T.sta.vals 7; rwa [v7, vrel_mapv] at this
    have l10 : VRel φ (.ptr b 0) (a.tmps.getD 10 undef) := by have := T.sta.vals 10; rwa [v10] at this
    have same : ∀ j, j ≠ 5 → MapAt w r (mapIs k L (setD D j 5) (D 7)) := fun j hj => by
      have e : setD D j 5 = D 5 := by unfold setD; rw [if_neg (fun e => hj e.symm)]
      rw [e]; exact T.map
    have nk : ∀ (j : Nat) (x : Obj), j ≠ r → w.heap[j]? = some x → ¬ isCells x → w.heap[j]? = some x := fun j x _ hx _ => hx
    have no7 : ∀ j, j < 7 → D j = false → D 7 = false := fun j hj hd => by
      cases h7 : D 7 with
      | false => rfl
      | true => rw [T.c57 h7 j hj] at hd; cases hd
    rcases i with _ | _ | _ | _ | _ | _ | _ | _ | i
    · obtain ⟨e1, e2, e3, _⟩ := Prod.mk.inj (Option.some.inj h1) |>.imp id fun q => (Prod.mk.inj q).imp id Prod.mk.inj
      refine wpOp_value (u := .map (some r)) (w' := w) ho e2.symm ?_ ?_
      · unfold execOp; rw [← e3]; exact congrArg (fun x => Result.ok (Next.value x) w) l7
      · rw [← e1]
        exact T.put hf (i := 0) (by omega) _ T.sta nk (no7 0 (by omega) hD) (same 0 (by omega)) (fun _ => rfl) (by omega) (by omega) (by omega) (by omega) (by omega) (by omega)
    · obtain ⟨e1, e2, e3, _⟩ := Prod.mk.inj (Option.some.inj h1) |>.imp id fun q => (Prod.mk.inj q).imp id Prod.mk.inj
      obtain ⟨u, hu, hr'⟩ := pure_exec w (φ := φ) (o := o) (ρ := a.eval) (ao := .faddr 57 0 (.tmp 10)) (ev := (env0 vs [] 0).ev) (r := .ptr b 0) (by rw [← e3]; exact faddr_ok) (fun x y hxy => opd_rel T.sta.toIn.rel hxy)
        (by show aFaddr 0 (look vs 10) = _; rw [v10]; rfl)
      refine wpOp_value (u := u) (w' := w) ho e2.symm hu ?_
      rw [← e1]
      exact T.put hf (i := 1) (by omega) _ T.sta nk (no7 1 (by omega) hD) (same 1 (by omega)) (by omega) (fun _ => hr') (by omega) (by omega) (by omega) (by omega) (by omega)
    · obtain ⟨e1, e2, e3, e4⟩ := Prod.mk.inj (Option.some.inj h1) |>.imp id fun q => (Prod.mk.inj q).imp id Prod.mk.inj
      rw [show (opInfo o).2.2.2 = _ from e4.symm] at h2
      obtain ⟨u, hu, hr'⟩ := load_rel (P := PP) T.sta.heap load_ok (T.t1 (h2 1 (by simp))) (cs := [.str k.1, .str k.2]) hk (r := .agg [.str k.1, .str k.2]) rfl
      have hkv : u = kv k := by
        obtain ⟨us, rfl, hus, _⟩ := vrel_agg.1 hr'
        have hl := VRels.length hus
        obtain ⟨us⟩ := us
        match us, hl, hus with
        | [x, y], _, hus =>
          simp only [VRels, and_true] at hus
          rw [vrel_str.1 hus.1, vrel_str.1 hus.2]
          rfl
      refine wpOp_value (u := u) (w' := w) ho e2.symm (exec_v (sem := Instr.loadAt 36 (a.tmps.getD 57 undef)) (by unfold execOp; rw [← e3]; rfl) hu) ?_
      rw [← e1]
      exact T.put hf (i := 2) (by omega) _ T.sta nk (no7 2 (by omega) hD) (same 2 (by omega)) (by omega) (by omega) (fun _ => hkv) (by omega) (by omega) (by omega) (by omega)
    · obtain ⟨e1, e2, e3, e4⟩ := Prod.mk.inj (Option.some.inj h1) |>.imp id fun q => (Prod.mk.inj q).imp id Prod.mk.inj
      rw [show (opInfo o).2.2.2 = _ from e4.symm] at h2
      have n7 := no7 3 (by omega) hD
      have MM := T.map
      rw [n7] at MM
      have hc : cntOf k (mapIs k L (D 5) false) = cntOf k L := by
        cases D 5 with
        | true => exact cnt_placed k L
        | false => rfl
      have hl := lookup_run MM k
      rw [hc] at hl
      refine wpOp_value (u := .int .i64 (cntOf k L)) (w' := w) ho e2.symm (exec_v (sem := Instr.lookup 34 (a.tmps.getD 56 undef) (a.tmps.getD 58 undef) false) (by unfold execOp; rw [← e3]; rfl) (by rw [T.t0 (h2 0 (by simp)), T.t2 (h2 2 (by simp))]; exact hl)) ?_
      rw [← e1]
      exact T.put hf (i := 3) (by omega) _ T.sta nk n7 (same 3 (by omega)) (by omega) (by omega) (by omega) (fun _ => rfl) (by omega) (by omega) (by omega)
    · obtain ⟨e1, e2, e3, e4⟩ := Prod.mk.inj (Option.some.inj h1) |>.imp id fun q => (Prod.mk.inj q).imp id Prod.mk.inj
      rw [show (opInfo o).2.2.2 = _ from e4.symm] at h2
      obtain ⟨z, hz, hr'⟩ := run_bin (P := PP) w fadd_tag (a := .int .i64 (cntOf k L)) (b := .int .i64 1) (op := .add) (bin_add _ _ _) (φ := φ) (u := .int .i64 (cntOf k L)) (v := .int .i64 1) (vrel_int.2 rfl) (vrel_int.2 rfl)
      rw [vrel_int] at hr'
      subst hr'
      refine wpOp_value (w' := w) ho e2.symm (exec_v (sem := do eqGuard .add 3 (.tmp 59) (.const (.int .i64 1)) (a.tmps.getD 59 undef) (.int .i64 1); binOp .add 3 (a.tmps.getD 59 undef) (.int .i64 1)) (by unfold execOp; rw [← e3]; rfl) (by rw [T.t3 (h2 3 (by simp))]; exact hz)) ?_
      rw [← e1]
      exact T.put hf (i := 4) (by omega) _ T.sta nk (no7 4 (by omega) hD) (same 4 (by omega)) (by omega) (by omega) (by omega) (by omega) (fun _ => rfl) (by omega) (by omega)
    · obtain ⟨e1, e2, e3, e4⟩ := Prod.mk.inj (Option.some.inj h1) |>.imp id fun q => (Prod.mk.inj q).imp id Prod.mk.inj
      rw [show (opInfo o).2.2.2 = _ from e4.symm] at h2
      have n7 := no7 5 (by omega) hD
      have MM : MapAt w r L := by have := T.map; rw [n7, hD] at this; exact this
      obtain ⟨v, hv⟩ := mapEntry_run MM k
      refine wpOp_value (w' := setBlock w r (.map (ents (placed k L)) (placed k L).length)) ho e2.symm (exec_v (sem := Instr.mapEntry 34 (a.tmps.getD 56 undef) (a.tmps.getD 58 undef)) (by unfold execOp; rw [← e3]; rfl) (by rw [T.t0 (h2 0 (by simp)), T.t2 (h2 2 (by simp))]; exact hv)) ?_
      rw [← e1]
      refine T.put hf (i := 5) (by omega) _ (T.sta.setBlock MM (not_cells_map _ _) hr) set_kept n7 ?_ (by omega) (by omega) (by omega) (by omega) (by omega) (fun _ => ⟨v, rfl⟩) (by omega)
      rw [n7]
      exact mapAt_of MM
    · obtain ⟨e1, e2, e3, e4⟩ := Prod.mk.inj (Option.some.inj h1) |>.imp id fun q => (Prod.mk.inj q).imp id Prod.mk.inj
      rw [show (opInfo o).2.2.2 = _ from e4.symm] at h2
      obtain ⟨v, hv⟩ := T.t5 (h2 5 (by simp))
      refine wpOp_value (u := .int .i64 (placeOf k L)) (w' := w) ho e2.symm (exec_v (sem := Instr.extract (a.tmps.getD 61 undef) 1) (by unfold execOp; rw [← e3]; rfl) (by rw [hv]; exact extract_run _ _ _)) ?_
      rw [← e1]
      exact T.put hf (i := 6) (by omega) _ T.sta nk (no7 6 (by omega) hD) (same 6 (by omega)) (by omega) (by omega) (by omega) (by omega) (by omega) (by omega) (fun _ => rfl)
    · obtain ⟨e1, e2, e3, e4⟩ := Prod.mk.inj (Option.some.inj h1) |>.imp id fun q => (Prod.mk.inj q).imp id Prod.mk.inj
      rw [show (opInfo o).2.2.2 = _ from e4.symm] at h2
      have d5 := h2 5 (by simp)
      have MM : MapAt w r (placed k L) := by have := T.map; rw [hD, d5] at this; exact this
      have hs := store_run MM (placeOf k L) (placeOf_lt k L) (IntKind.i64.wrap (cntOf k L + 1))
      rw [set_modify (placed k L) (placeOf k L) (placeOf_lt k L) (fun e => (e.1, IntKind.i64.wrap (cntOf k L + 1)))] at hs
      refine wpOp_skip (w' := setBlock w r (.map (ents (counted k L)) (placed k L).length)) ho e2.symm (exec_u (sem := Instr.entryStore 34 (a.tmps.getD 56 undef) (a.tmps.getD 62 undef) (a.tmps.getD 60 undef)) (by unfold execOp; rw [← e3]; rfl) (by rw [T.t0 (h2 0 (by simp)), T.t6 (h2 6 (by simp)), T.t4 (h2 4 (by simp))]; exact hs)) ?_
      rw [← e1]
      have old : ∀ j, j ≠ 7 → setD D 7 j = true → D j = true := fun j hj hh => by unfold setD at hh; rwa [if_neg hj] at hh
      refine ⟨T.sta.setBlock MM (not_cells_map _ _) hr, fun j x hj hx hc => set_kept j x hj (T.kept j x hj hx hc) hc, fun hh => T.t0 (old 0 (by omega) hh), fun hh => T.t1 (old 1 (by omega) hh), fun hh => T.t2 (old 2 (by omega) hh), fun hh => T.t3 (old 3 (by omega) hh),
        fun hh => T.t4 (old 4 (by omega) hh), fun hh => T.t5 (old 5 (by omega) hh), fun hh => T.t6 (old 6 (by omega) hh), fun _ j hj => ?_, ?_⟩
      · unfold setD
        rw [if_neg (by omega)]
        have : j = 0 ∨ j = 1 ∨ j = 2 ∨ j = 3 ∨ j = 4 ∨ j = 5 ∨ j = 6 := by omega
        rcases this with rfl | rfl | rfl | rfl | rfl | rfl | rfl <;> exact h2 _ (by simp)
      · have e7 : setD D 7 7 = true := by unfold setD; rw [if_pos rfl]
        rw [e7]
        have hl : (placed k L).length = (counted k L).length := by unfold counted; rw [List.length_modify]
        rw [hl]
        exact mapAt_of MM
    · omega
  · intro D a' w' hall T
    have h7 := hall 7 (by rw [hsz]; omega)
    have h5 := hall 5 (by rw [hsz]; omega)
    have := T.map
    rw [h7, h5] at this
    exact hQ a' w' T.sta this T.kept
  · refine Nat.le_trans (List.countP_le_length) ?_
    simp
end Go.Fw
