/- '==' on structs, and on what else the abstract semantics compares. -/
import Derived.Test.YtfdhljghamkgjaaFwD
import Derived.WalkSpells
import Derived.LaidEql
namespace Go.Fw
set_option linter.unusedSimpArgs false
set_option linter.unusedVariables false

section
variable {P : Program} (w : World)

theorem cellsEq_length : ∀ (ks : List Nat) (as bs : List AVal) (r : Bool), cellsEq ks as bs = some r → as.length = ks.length ∧ bs.length = ks.length
  | ks, as, bs, r, h => by
    unfold cellsEq at h
    split at h
    all_goals first
      | (exact ⟨rfl, rfl⟩)
      | (cases h; done)
      | (simp only [Option.bind_eq_some_iff, Option.some.injEq] at h
         obtain ⟨q, hq, rfl⟩ := h
         obtain ⟨h1, h2⟩ := cellsEq_length _ _ _ _ hq
         simp [h1, h2])
      | (split at h
         · simp only [Option.bind_eq_some_iff, Option.some.injEq] at h
           obtain ⟨q, hq, rfl⟩ := h
           obtain ⟨h1, h2⟩ := cellsEq_length _ _ _ _ hq
           simp [h1, h2]
         · cases h)

theorem flatK_under {d : Nat} {t : TypeId} {ks : List Nat} (h : flatK P d t = some ks) : ∃ u, P.underlying t = some u := by
  cases d with
  | zero => simp [flatK] at h
  | succ d =>
    unfold flatK at h
    cases hu : P.underlying t with
    | none => rw [hu] at h; cases h
    | some u => exact ⟨u, rfl⟩

theorem valOf_flat {d : Nat} {t : TypeId} {ks : List Nat} (h : flatK P d t = some ks) (l : List Value) (hl : l.length = ks.length) : ∃ v, valOf P t l = some v := by
  cases d with
  | zero => simp [flatK] at h
  | succ d =>
    unfold flatK at h
    unfold valOf
    split at h
    all_goals first
      | (cases h; done)
      | (rename_i hu
         cases h
         obtain ⟨v, rfl⟩ : ∃ v, l = [v] := by
           match l, hl with
           | [v], _ => exact ⟨v, rfl⟩
         exact ⟨v, by simp [hu]⟩)
      | (rename_i hu; exact ⟨_, by simp [hu]; rfl⟩)

theorem pair1 {k : Nat} {as bs : List AVal} {r : Bool} (h : cellsEq [k] as bs = some r) : ∃ a b, as = [a] ∧ bs = [b] := by
  obtain ⟨h1, h2⟩ := cellsEq_length _ _ _ _ h
  match as, bs, h1, h2 with
  | [a], [b], _, _ => exact ⟨a, b, rfl, rfl⟩

theorem cells_bool {as bs : List AVal} {r : Bool} (h : cellsEq [0] as bs = some r) : ∃ p q, as = [.bool p] ∧ bs = [.bool q] ∧ r = (p == q) := by
  obtain ⟨a, b, rfl, rfl⟩ := pair1 h
  cases a <;> cases b <;> simp [cellsEq] at h
  exact ⟨_, _, rfl, rfl, h.symm⟩
theorem cells_int {as bs : List AVal} {r : Bool} (h : cellsEq [1] as bs = some r) : ∃ j p q, as = [.int j p] ∧ bs = [.int j q] ∧ r = (p == q) := by
  obtain ⟨a, b, rfl, rfl⟩ := pair1 h
  cases a <;> cases b <;> simp [cellsEq] at h
  obtain ⟨rfl, h⟩ := h
  exact ⟨_, _, _, rfl, rfl, h.symm⟩
theorem cells_str {as bs : List AVal} {r : Bool} (h : cellsEq [2] as bs = some r) : ∃ p q, as = [.str p] ∧ bs = [.str q] ∧ r = (p == q) := by
  obtain ⟨a, b, rfl, rfl⟩ := pair1 h
  cases a <;> cases b <;> simp [cellsEq] at h
  exact ⟨_, _, rfl, rfl, h.symm⟩

theorem vrels_one {φ : Phi} {a : AVal} {vs : List Value} (h : VRels φ [a] vs) : ∃ v, vs = [v] ∧ VRel φ a v := by
  match vs, h with
  | [v], h => simp only [VRels, and_true] at h; exact ⟨v, rfl, h⟩
  | [], h => simp [VRels] at h
  | _ :: _ :: _, h => simp [VRels] at h

theorem run_flatFs {φ : Phi} (d D : Nat) (ih : ∀ (t : TypeId) (ks : List Nat), flatK P d t = some ks → ∀ (as bs : List AVal) (vs us : List Value) (x y : Value) (r : Bool),
      VRels φ as vs → VRels φ bs us → valOf P t vs = some x → valOf P t us = some y → cellsEq ks as bs = some r → (Op.equalIn (D + d) t x y).run P w = .ok r w)
    (as bs : List AVal) (vs us : Array Value) (ha : VRels φ as vs.toList) (hb : VRels φ bs us.toList) : ∀ (fs : List Field) (off : Nat) (ks : List Nat) (r : Bool),
    flatFs (flatK P d) P off fs = some ks → cellsEq ks (as.drop off) (bs.drop off) = some r → (Op.eqFields (D + d) vs us fs).run P w = .ok r w
  | [], off, ks, r, hf, hc => by
    simp only [flatFs, Option.some.injEq] at hf
    subst hf
    have h0 := cellsEq_length _ _ _ _ hc
    have e1 : as.drop off = [] := List.eq_nil_of_length_eq_zero h0.1
    have e2 : bs.drop off = [] := List.eq_nil_of_length_eq_zero h0.2
    rw [e1, e2] at hc
    simp only [cellsEq, Option.some.injEq] at hc
    simp [Op.eqFields, hc]
  | f :: fs, off, ks, r, hf, hc => by
    simp only [flatFs] at hf
    split at hf
    · rename_i hn
      split at hf
      · rename_i k1 hk
        split at hf
        · rename_i hlen
          split at hf
          · rename_i kr hr
            simp only [Option.some.injEq] at hf
            subst hf
            obtain ⟨r1, r2, h1, h2, rfl⟩ := cellsEq_append _ _ _ _ _ hc
            obtain ⟨u, hu⟩ := flatK_under hk
            obtain ⟨i, hi⟩ := info_of_underlying hu
            have hl1 := (cellsEq_length _ _ _ _ h1).1
            have hl2 := (cellsEq_length _ _ _ _ h1).2
            have ra : VRels φ ((as.drop off).take k1.length) ((vs.toList.drop off).take k1.length) := VRels.take _ (VRels.drop _ ha)
            have rb : VRels φ ((bs.drop off).take k1.length) ((us.toList.drop off).take k1.length) := VRels.take _ (VRels.drop _ hb)
            obtain ⟨x, hx⟩ := valOf_flat hk ((vs.toList.drop off).take k1.length) (by rw [← VRels.length ra, hl1])
            obtain ⟨y, hy⟩ := valOf_flat hk ((us.toList.drop off).take k1.length) (by rw [← VRels.length rb, hl2])
            have p1 := run_part w hu hi vs off (by rw [← hlen]; exact hx)
            have p2 := run_part w hu hi us off (by rw [← hlen]; exact hy)
            have p3 := ih f.type k1 hk _ _ _ _ x y r1 ra rb hx hy h1
            have p4 := run_flatFs d D ih as bs vs us ha hb fs (off + k1.length) kr r2 hr (by simpa [List.drop_drop] using h2)
            simp only [Op.eqFields, hn.1, hn.2, ne_eq, not_false_eq_true, if_true, Sem.run_bind, p1, p2, p3, Result.andThen_ok]
            cases r1
            · simp
            · simpa using p4
          · cases hf
        · cases hf
      · cases hf
    · cases hf

theorem run_flat {φ : Phi} : ∀ (d D : Nat) (t : TypeId) (ks : List Nat), flatK P d t = some ks → ∀ (as bs : List AVal) (vs us : List Value) (x y : Value) (r : Bool),
    VRels φ as vs → VRels φ bs us → valOf P t vs = some x → valOf P t us = some y → cellsEq ks as bs = some r → (Op.equalIn (D + d) t x y).run P w = .ok r w
  | 0, _, _, _, h, _, _, _, _, _, _, _, _, _, _, _, _ => by simp [flatK] at h
  | d + 1, D, t, ks, h, as, bs, vs, us, x, y, r, ha, hb, hx, hy, hc => by
    unfold flatK at h
    unfold valOf at hx hy
    split at h
    case h_1 hu =>
      cases h
      obtain ⟨p, q, rfl, rfl, rfl⟩ := cells_bool hc
      obtain ⟨v, rfl, hv⟩ := vrels_one ha
      obtain ⟨u, rfl, hu'⟩ := vrels_one hb
      simp only [hu, Option.some.injEq] at hx hy
      subst hx; subst hy
      rw [vrel_bool.1 hv, vrel_bool.1 hu']
      exact run_equalIn_bool' w (D + d) t p q hu
    case h_2 k hu =>
      cases h
      obtain ⟨j, p, q, rfl, rfl, rfl⟩ := cells_int hc
      obtain ⟨v, rfl, hv⟩ := vrels_one ha
      obtain ⟨u, rfl, hu'⟩ := vrels_one hb
      simp only [hu, Option.some.injEq] at hx hy
      subst hx; subst hy
      rw [vrel_int.1 hv, vrel_int.1 hu']
      exact run_equalIn_int w (D + d) t j k p q hu
    case h_3 hu =>
      cases h
      obtain ⟨p, q, rfl, rfl, rfl⟩ := cells_str hc
      obtain ⟨v, rfl, hv⟩ := vrels_one ha
      obtain ⟨u, rfl, hu'⟩ := vrels_one hb
      simp only [hu, Option.some.injEq] at hx hy
      subst hx; subst hy
      rw [vrel_str.1 hv, vrel_str.1 hu']
      rw [show D + (d + 1) = (D + d) + 1 from rfl, run_equalIn_string w (D + d) t _ _ hu, ByteArray.toList_mk, ByteArray.toList_mk]
    case h_4 fs hu =>
      split at h
      · cases h
      · rename_i hs
        simp only [hu, Option.some.injEq] at hx hy
        subst hx; subst hy
        have hfo : P.fieldsOf t = fs := by simp [Program.fieldsOf, hu]
        rw [show D + (d + 1) = (D + d) + 1 from rfl, run_equalIn_struct w (D + d) t _ _ (by rw [hfo]; exact hu) (by simpa using hs), hfo]
        exact run_flatFs w d D (fun t ks hk => run_flat d D t ks hk) as bs vs.toArray us.toArray (by simpa using ha) (by simpa using hb) fs.toList 0 ks r h (by simpa using hc)
    case h_5 => cases h

/-- How a tag may stand at a type. 'x', 'y': the operands. -/
def isConstOp : Operand → Bool
  | .const _ => true
  | _ => false
def tagOk (P : Program) (t : TypeId) (x y : Operand) : EqTag → Bool
  | .plain => true
  | .bool => (match P.underlying t with | some .bool => true | _ => false)
  | .ptr => (match P.underlying t with | some (.pointer _) => true | _ => false)
  | .slice => (match P.underlying t with | some (.slice _) => true | _ => false)
  | .func => (match P.underlying t with | some (.func ..) => true | _ => false)
  | .iface c ints => (match P.underlying t with | some (.interface _) => true | _ => false) && (!c || isConstOp x || isConstOp y) &&
      ints.all fun u => (match P.underlying u with | some (.int _) => true | _ => false) && ((P.info? u).map (·.comparable)).getD false
  | .cells ks => decide (flatK P 20 t = some ks) && !(P.eqGuardType P.depth t) && (match P.underlying t with | some (.struct _) => true | _ => false)

theorem run_guard_else (op : BinOp) (t : TypeId) (x y : Operand) (u v : Value) (h : ∀ a b, u = .agg a → v = .agg b → False) (h' : u = .nilIface → v = .nilIface → False) :
    (eqGuard op t x y u v).run P w = .ok () w := by
  unfold eqGuard
  split
  all_goals
    simp only [Bool.not_true, Bool.not_false, Bool.false_eq_true, if_false, if_true]
    first
      | rfl
      | (cases u <;> cases v <;> first | rfl | exact (h' rfl rfl).elim | exact (h _ _ rfl rfl).elim)

theorem run_iface_nil (op : BinOp) (t : TypeId) (x y : Operand) (hc : (isConstOp x || isConstOp y) = true) : (eqGuard op t x y .nilIface .nilIface).run P w = .ok () w := by
  unfold eqGuard
  split
  all_goals
    simp only [Bool.not_true, Bool.not_false, Bool.false_eq_true, if_false, if_true]
    first
      | rfl
      | (cases x <;> cases y <;> first | (simp [isConstOp] at hc; done) | rfl)

theorem run_cmp {op : BinOp} {t : TypeId} {x y : Operand} {u v : Value} {r : Bool} (hop : op = .eql ∨ op = .neq)
    (hg : (eqGuard op t x y u v).run P w = .ok () w) (he : (Op.equal t u v).run P w = .ok r w)
    (h1 : binOp .eql t u v = (do pure (.bool (← Op.equal t u v)))) (h2 : binOp .neq t u v = (do pure (.bool (!(← Op.equal t u v))))) :
    (do eqGuard op t x y u v; binOp op t u v : Sem Value).run P w = .ok (.bool (if op = .eql then r else !r)) w := by
  rcases hop with rfl | rfl
  · simp [hg, h1, he]
  · simp [hg, h2, he]

theorem tag_bool {t : TypeId} {x y : Operand} (h : tagOk P t x y .bool = true) : P.underlying t = some .bool := by
  simp only [tagOk] at h; split at h
  · assumption
  · cases h
theorem tag_ptr {t : TypeId} {x y : Operand} (h : tagOk P t x y .ptr = true) : ∃ e, P.underlying t = some (.pointer e) := by
  simp only [tagOk] at h; split at h
  · exact ⟨_, ‹_›⟩
  · cases h
theorem tag_slice {t : TypeId} {x y : Operand} (h : tagOk P t x y .slice = true) : ∃ e, P.underlying t = some (.slice e) := by
  simp only [tagOk] at h; split at h
  · exact ⟨_, ‹_›⟩
  · cases h
theorem tag_func {t : TypeId} {x y : Operand} (h : tagOk P t x y .func = true) : ∃ a b c, P.underlying t = some (.func a b c) := by
  simp only [tagOk] at h; split at h
  · exact ⟨_, _, _, ‹_›⟩
  · cases h
theorem tag_iface {t : TypeId} {x y : Operand} {c : Bool} {ints : List Nat} (h : tagOk P t x y (.iface c ints) = true) : (∃ ms, P.underlying t = some (.interface ms)) ∧ (c = true → (isConstOp x || isConstOp y) = true) ∧
    ∀ u ∈ ints, (∃ k, P.underlying u = some (.int k)) ∧ ∃ i, P.info? u = some i ∧ i.comparable = true := by
  simp only [tagOk, Bool.and_eq_true, List.all_eq_true] at h
  obtain ⟨⟨h1, h2⟩, h3⟩ := h
  refine ⟨?_, ?_, ?_⟩
  · split at h1
    · exact ⟨_, ‹_›⟩
    · cases h1
  · intro hc; subst hc; simpa using h2
  · intro u hu
    obtain ⟨h4, h5⟩ := h3 u hu
    refine ⟨?_, ?_⟩
    · split at h4
      · exact ⟨_, ‹_›⟩
      · cases h4
    · cases hi : P.info? u with
      | none => rw [hi] at h5; simp at h5
      | some i => rw [hi] at h5; exact ⟨i, rfl, by simpa using h5⟩
theorem tag_cells {t : TypeId} {x y : Operand} {ks : List Nat} (h : tagOk P t x y (.cells ks) = true) : flatK P 20 t = some ks ∧ P.eqGuardType P.depth t = false ∧ ∃ fs, P.underlying t = some (.struct fs) := by
  simp only [tagOk, Bool.and_eq_true, decide_eq_true_eq, Bool.not_eq_true'] at h
  obtain ⟨⟨h1, h2⟩, h3⟩ := h
  refine ⟨h1, h2, ?_⟩
  split at h3
  · exact ⟨_, ‹_›⟩
  · cases h3


section
variable (d : Nat) {t : TypeId}
theorem eq_ptr1 {e : TypeId} (hu : P.underlying t = some (.pointer e)) (b : Option Addr) : (Op.equalIn (d + 1) t (.pointer none) (.pointer b)).run P w = .ok b.isNone w := by
  simp [Op.equalIn, run_underlying hu]
theorem eq_ptr2 {e : TypeId} (hu : P.underlying t = some (.pointer e)) (b : Addr) : (Op.equalIn (d + 1) t (.pointer (some b)) (.pointer none)).run P w = .ok false w := by
  simp [Op.equalIn, run_underlying hu]
theorem eq_slice1 {e : TypeId} (hu : P.underlying t = some (.slice e)) (b : Option Addr) (n m k l : Nat) : (Op.equalIn (d + 1) t (.slice none n m) (.slice b k l)).run P w = .ok b.isNone w := by
  simp [Op.equalIn, run_underlying hu]
theorem eq_slice2 {e : TypeId} (hu : P.underlying t = some (.slice e)) (b : Addr) (n m k l : Nat) : (Op.equalIn (d + 1) t (.slice (some b) n m) (.slice none k l)).run P w = .ok false w := by
  simp [Op.equalIn, run_underlying hu]
theorem eq_func1 {a b : Array TypeId} {c : Bool} (hu : P.underlying t = some (.func a b c)) : (Op.equalIn (d + 1) t .nilFunc .nilFunc).run P w = .ok true w := by
  simp [Op.equalIn, run_underlying hu]
theorem eq_func2 {a b : Array TypeId} {c : Bool} (hu : P.underlying t = some (.func a b c)) (f : Fn) (x y : Array Value) : (Op.equalIn (d + 1) t .nilFunc (.func f x y)).run P w = .ok false w := by
  simp [Op.equalIn, run_underlying hu]
theorem eq_func3 {a b : Array TypeId} {c : Bool} (hu : P.underlying t = some (.func a b c)) (f : Fn) (x y : Array Value) : (Op.equalIn (d + 1) t (.func f x y) .nilFunc).run P w = .ok false w := by
  simp [Op.equalIn, run_underlying hu]
theorem eq_if1 {ms : Array (String × TypeId)} (hu : P.underlying t = some (.interface ms)) : (Op.equalIn (d + 1) t .nilIface .nilIface).run P w = .ok true w := by
  simp [Op.equalIn, run_underlying hu]
theorem eq_if2 {ms : Array (String × TypeId)} (hu : P.underlying t = some (.interface ms)) (u : TypeId) (v : Value) : (Op.equalIn (d + 1) t .nilIface (.iface u v)).run P w = .ok false w := by
  simp [Op.equalIn, run_underlying hu]
theorem eq_if3 {ms : Array (String × TypeId)} (hu : P.underlying t = some (.interface ms)) (u : TypeId) (v : Value) : (Op.equalIn (d + 1) t (.iface u v) .nilIface).run P w = .ok false w := by
  simp [Op.equalIn, run_underlying hu]
theorem eq_if4 {ms : Array (String × TypeId)} (hu : P.underlying t = some (.interface ms)) {u1 u2 : TypeId} (hne : u1 ≠ u2) (v1 v2 : Value) : (Op.equalIn (d + 1) t (.iface u1 v1) (.iface u2 v2)).run P w = .ok false w := by
  simp [Op.equalIn, run_underlying hu, hne]
theorem eq_if5 {ms : Array (String × TypeId)} (hu : P.underlying t = some (.interface ms)) {u : TypeId} {i : TypeInfo} {k k' : IntKind} (hi : P.info? u = some i) (hc : i.comparable = true) (hk : P.underlying u = some (.int k')) (p q : Int) :
    (Op.equalIn (d + 2) t (.iface u (.int k p)) (.iface u (.int k q))).run P w = .ok (p == q) w := by
  simp [Op.equalIn, run_underlying hu, run_typeInfo w hi, hc, run_underlying hk]
end

theorem run_eq {t : TypeId} {x y : Operand} {tag : EqTag} (htag : tagOk P t x y tag = true) {a b : AVal} {r : Bool} (h : aEq tag a b = some r) {φ : Phi} {u v : Value} (ha : VRel φ a u) (hb : VRel φ b v)
    {op : BinOp} (hop : op = .eql ∨ op = .neq) : (do eqGuard op t x y u v; binOp op t u v : Sem Value).run P w = .ok (.bool (if op = .eql then r else !r)) w := by
  unfold aEq at h
  split at h
  all_goals first | (cases h; done) | skip
  -- bool
  · cases h
    rw [vrel_bool.1 ha, vrel_bool.1 hb]
    exact run_cmp w hop (run_guard_else w _ _ _ _ _ _ (by simp) (by simp)) (run_equalIn_bool' w 9999 t _ _ (tag_bool htag)) rfl rfl
  -- pointers
  · cases h
    rw [vrel_nilPtr.1 ha, vrel_nilPtr.1 hb]
    obtain ⟨e, hu⟩ := tag_ptr htag
    refine run_cmp w hop (run_guard_else w _ _ _ _ _ _ (by simp) (by simp)) ?_ rfl rfl
    exact eq_ptr1 w 9999 hu _
  · cases h
    obtain ⟨L, _, rfl⟩ := vrel_ptr.1 hb
    rw [vrel_nilPtr.1 ha]
    obtain ⟨e, hu⟩ := tag_ptr htag
    refine run_cmp w hop (run_guard_else w _ _ _ _ _ _ (by simp) (by simp)) ?_ rfl rfl
    exact eq_ptr1 w 9999 hu _
  · cases h
    obtain ⟨L, _, rfl⟩ := vrel_ptr.1 ha
    rw [vrel_nilPtr.1 hb]
    obtain ⟨e, hu⟩ := tag_ptr htag
    refine run_cmp w hop (run_guard_else w _ _ _ _ _ _ (by simp) (by simp)) ?_ rfl rfl
    exact eq_ptr2 w 9999 hu _
  -- slices
  · cases h
    rw [vrel_nilSlice.1 ha, vrel_nilSlice.1 hb]
    obtain ⟨e, hu⟩ := tag_slice htag
    refine run_cmp w hop (run_guard_else w _ _ _ _ _ _ (by simp) (by simp)) ?_ rfl rfl
    exact eq_slice1 w 9999 hu _ _ _ _ _
  · cases h
    obtain ⟨L, _, _, _, rfl, _⟩ := vrel_slice.1 hb
    rw [vrel_nilSlice.1 ha]
    obtain ⟨e, hu⟩ := tag_slice htag
    refine run_cmp w hop (run_guard_else w _ _ _ _ _ _ (by simp) (by simp)) ?_ rfl rfl
    exact eq_slice1 w 9999 hu _ _ _ _ _
  · cases h
    obtain ⟨L, _, _, _, rfl, _⟩ := vrel_slice.1 ha
    rw [vrel_nilSlice.1 hb]
    obtain ⟨e, hu⟩ := tag_slice htag
    refine run_cmp w hop (run_guard_else w _ _ _ _ _ _ (by simp) (by simp)) ?_ rfl rfl
    exact eq_slice2 w 9999 hu _ _ _ _ _
  -- functions
  · cases h
    rw [vrel_nilFunc.1 ha, vrel_nilFunc.1 hb]
    obtain ⟨_, _, _, hu⟩ := tag_func htag
    refine run_cmp w hop (run_guard_else w _ _ _ _ _ _ (by simp) (by simp)) ?_ rfl rfl
    exact eq_func1 w 9999 hu
  · cases h
    obtain ⟨_, rfl, _⟩ := vrel_func.1 hb
    rw [vrel_nilFunc.1 ha]
    obtain ⟨_, _, _, hu⟩ := tag_func htag
    refine run_cmp w hop (run_guard_else w _ _ _ _ _ _ (by simp) (by simp)) ?_ rfl rfl
    exact eq_func2 w 9999 hu _ _ _
  · cases h
    obtain ⟨_, rfl, _⟩ := vrel_func.1 ha
    rw [vrel_nilFunc.1 hb]
    obtain ⟨_, _, _, hu⟩ := tag_func htag
    refine run_cmp w hop (run_guard_else w _ _ _ _ _ _ (by simp) (by simp)) ?_ rfl rfl
    exact eq_func3 w 9999 hu _ _ _
  -- interfaces
  · cases h
    obtain ⟨_, rfl, _⟩ := vrel_iface.1 hb
    rw [vrel_nilIface.1 ha]
    obtain ⟨⟨_, hu⟩, _⟩ := tag_iface htag
    refine run_cmp w hop (run_guard_else w _ _ _ _ _ _ (by simp) (by simp)) ?_ rfl rfl
    exact eq_if2 w 9999 hu _ _
  · cases h
    obtain ⟨_, rfl, _⟩ := vrel_iface.1 ha
    rw [vrel_nilIface.1 hb]
    obtain ⟨⟨_, hu⟩, _⟩ := tag_iface htag
    refine run_cmp w hop (run_guard_else w _ _ _ _ _ _ (by simp) (by simp)) ?_ rfl rfl
    exact eq_if3 w 9999 hu _ _
  · cases h
    rw [vrel_nilIface.1 ha, vrel_nilIface.1 hb]
    obtain ⟨⟨_, hu⟩, hc, _⟩ := tag_iface htag
    refine run_cmp w hop (run_iface_nil w _ _ _ _ (hc rfl)) ?_ rfl rfl
    exact eq_if1 w 9999 hu
  · rename_i c ints t1 k p t2 j q
    obtain ⟨_, rfl, h1⟩ := vrel_iface.1 ha
    obtain ⟨_, rfl, h2⟩ := vrel_iface.1 hb
    rw [vrel_int.1 h1, vrel_int.1 h2]
    obtain ⟨⟨_, hu⟩, _, hi⟩ := tag_iface htag
    split at h
    · rename_i ht
      subst ht
      split at h
      · rename_i hk
        obtain ⟨rfl, hm⟩ := hk
        cases h
        obtain ⟨⟨kk, hu2⟩, i, hi1, hi2⟩ := hi _ hm
        refine run_cmp w hop (run_guard_else w _ _ _ _ _ _ (by simp) (by simp)) ?_ rfl rfl
        exact eq_if5 w 9998 hu hi1 hi2 hu2 _ _
      · cases h
    · rename_i ht
      cases h
      refine run_cmp w hop (run_guard_else w _ _ _ _ _ _ (by simp) (by simp)) ?_ rfl rfl
      exact eq_if4 w 9999 hu ht _ _
  · obtain ⟨_, rfl, h1⟩ := vrel_iface.1 ha
    obtain ⟨_, rfl, h2⟩ := vrel_iface.1 hb
    obtain ⟨⟨_, hu⟩, _, _⟩ := tag_iface htag
    split at h
    · cases h
    · rename_i ht
      cases h
      refine run_cmp w hop (run_guard_else w _ _ _ _ _ _ (by simp) (by simp)) ?_ rfl rfl
      exact eq_if4 w 9999 hu ht _ _
  -- structs
  · rename_i ks as bs
    obtain ⟨vs, rfl, h1, _⟩ := vrel_agg.1 ha
    obtain ⟨us, rfl, h2, _⟩ := vrel_agg.1 hb
    obtain ⟨hf, hg, fs, hu⟩ := tag_cells htag
    refine run_cmp w hop (run_eqGuard_agg w op t x y vs us hg) ?_ rfl rfl
    show (Op.equalIn (9980 + 20) t _ _).run P w = _
    exact run_flat w 20 9980 t ks hf as bs vs.toList us.toList _ _ r h1 h2 (by simp [valOf, hu]) (by simp [valOf, hu]) h

theorem run_bin {t : TypeId} {x y : Operand} {tag : EqTag} (htag : tagOk P t x y tag = true) {a b r : AVal} {op : BinOp} (h : aBin op tag a b = some r) {φ : Phi} {u v : Value} (ha : VRel φ a u) (hb : VRel φ b v) :
    ∃ z, (do eqGuard op t x y u v; binOp op t u v : Sem Value).run P w = .ok z w ∧ VRel φ r z := by
  unfold aBin at h
  split at h
  · rename_i k p j q
    rw [vrel_int.1 ha, vrel_int.1 hb]
    have hsh : ∀ op, (op = .shl ∨ op = .shr) → aShift op k p q = some r → ∃ z, (do eqGuard op t x y (.int k p) (.int j q); binOp op t (.int k p) (.int j q) : Sem Value).run P w = .ok z w ∧ VRel φ r z := by
      intro op ho hh
      obtain ⟨z, hz, hr⟩ := run_shift w (j := j) hh φ
      refine ⟨z, ?_, hr⟩
      rcases ho with rfl | rfl <;> simp only [Sem.run_bind, run_eqGuard_int, Result.andThen_ok] <;> exact hz
    split at h
    · exact hsh _ (.inl rfl) h
    · exact hsh _ (.inr rfl) h
    · split at h
      · rename_i hk
        subst hk
        obtain ⟨z, hz, hr⟩ := run_intOp w (t := t) h φ (by simpa using ‹op = BinOp.shl → False›) (by simpa using ‹op = BinOp.shr → False›)
        exact ⟨z, by simp only [Sem.run_bind, run_eqGuard_int, Result.andThen_ok]; exact hz, hr⟩
      · cases h
  · rw [vrel_str.1 ha, vrel_str.1 hb]
    obtain ⟨z, hz, hr⟩ := run_strOp w (t := t) h φ
    exact ⟨z, by simp only [Sem.run_bind, run_eqGuard_string, Result.andThen_ok]; exact hz, hr⟩
  · cases h
  · split at h
    · simp only [Option.bind_eq_some_iff, Option.some.injEq] at h
      obtain ⟨q, hq, rfl⟩ := h
      exact ⟨_, run_eq w htag hq ha hb (.inl rfl), vrel_bool.2 (by simp)⟩
    · simp only [Option.bind_eq_some_iff, Option.some.injEq] at h
      obtain ⟨q, hq, rfl⟩ := h
      exact ⟨_, run_eq w htag hq ha hb (.inr rfl), vrel_bool.2 (by simp)⟩
    · cases h
end
end Go.Fw
