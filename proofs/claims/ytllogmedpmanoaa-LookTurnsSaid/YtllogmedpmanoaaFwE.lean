import Derived.LaidEql
import Derived.ChangeKeysEq
import Derived.Test.YtllogmedpmanoaaFwA
import Derived.WalkSpells
import Derived.Laws.Slices
import Derived.Laws.Strings2
import Derived.Laws.Build
import Derived.Stop.Asserts
import Derived.Laws.Entries
/- '==' on structs, and on what else the abstract semantics compares. -/
namespace Go.Fw
set_option linter.unusedSimpArgs false
set_option linter.unusedVariables false

section
variable {P : Program} (w : World)

theorem cellsEq_length : ∀ (ks : List Nat) (as bs : List AVal) (r : Bool), cellsEq ks as bs = some r → as.length = ks.length ∧ bs.length = ks.length
  | ks, as, bs, r, h => by
    unfold cellsEq at h
    split at h
    all_goals first
      | (exact ⟨rfl, rfl⟩)
      | (cases h; done)
      | (simp only [Option.bind_eq_some_iff, Option.some.injEq] at h
         obtain ⟨q, hq, rfl⟩ := h
         obtain ⟨h1, h2⟩ := cellsEq_length _ _ _ _ hq
         simp [h1, h2])
      | (split at h
         · simp only [Option.bind_eq_some_iff, Option.some.injEq] at h
           obtain ⟨q, hq, rfl⟩ := h
           obtain ⟨h1, h2⟩ := cellsEq_length _ _ _ _ hq
           simp [h1, h2]
         · cases h)

theorem flatK_under {d : Nat} {t : TypeId} {ks : List Nat} (h : flatK P d t = some ks) : ∃ u, P.underlying t = some u := by
  cases d with
  | zero => simp [flatK] at h
  | succ d =>
    unfold flatK at h
    cases hu : P.underlying t with
    | none => rw [hu] at h; cases h
    | some u => exact ⟨u, rfl⟩

theorem valOf_flat {d : Nat} {t : TypeId} {ks : List Nat} (h : flatK P d t = some ks) (l : List Value) (hl : l.length = ks.length) : ∃ v, valOf P t l = some v := by
  cases d with
  | zero => simp [flatK] at h
  | succ d =>
    unfold flatK at h
    unfold valOf
    split at h
    all_goals first
      | (cases h; done)
      | (rename_i hu
         cases h
         obtain ⟨v, rfl⟩ : ∃ v, l = [v] := by
           match l, hl with
           | [v], _ => exact ⟨v, rfl⟩
         exact ⟨v, by simp [hu]⟩)
      | (rename_i hu; exact ⟨_, by simp [hu]; rfl⟩)

theorem pair1 {k : Nat} {as bs : List AVal} {r : Bool} (h : cellsEq [k] as bs = some r) : ∃ a b, as = [a] ∧ bs = [b] := by
  obtain ⟨h1, h2⟩ := cellsEq_length _ _ _ _ h
  match as, bs, h1, h2 with
  | [a], [b], _, _ => exact ⟨a, b, rfl, rfl⟩

theorem cells_bool {as bs : List AVal} {r : Bool} (h : cellsEq [0] as bs = some r) : ∃ p q, as = [.bool p] ∧ bs = [.bool q] ∧ r = (p == q) := by
  obtain ⟨a, b, rfl, rfl⟩ := pair1 h
  cases a <;> cases b <;> simp [cellsEq] at h
  exact ⟨_, _, rfl, rfl, h.symm⟩
theorem cells_int {as bs : List AVal} {r : Bool} (h : cellsEq [1] as bs = some r) : ∃ j p q, as = [.int j p] ∧ bs = [.int j q] ∧ r = (p == q) := by
  obtain ⟨a, b, rfl, rfl⟩ := pair1 h
  cases a <;> cases b <;> simp [cellsEq] at h
  obtain ⟨rfl, h⟩ := h
  exact ⟨_, _, _, rfl, rfl, h.symm⟩
theorem cells_str {as bs : List AVal} {r : Bool} (h : cellsEq [2] as bs = some r) : ∃ p q, as = [.str p] ∧ bs = [.str q] ∧ r = (p == q) := by
  obtain ⟨a, b, rfl, rfl⟩ := pair1 h
  cases a <;> cases b <;> simp [cellsEq] at h
  exact ⟨_, _, rfl, rfl, h.symm⟩

theorem vrels_one {φ : Phi} {a : AVal} {vs : List Value} (h : VRels φ [a] vs) : ∃ v, vs = [v] ∧ VRel φ a v := by
  match vs, h with
  | [v], h => simp only [VRels, and_true] at h; exact ⟨v, rfl, h⟩
  | [], h => simp [VRels] at h
  | _ :: _ :: _, h => simp [VRels] at h

theorem run_flatFs {φ : Phi} (d D : Nat) (ih : ∀ (t : TypeId) (ks : List Nat), flatK P d t = some ks → ∀ (as bs : List AVal) (vs us : List Value) (x y : Value) (r : Bool),
      VRels φ as vs → VRels φ bs us → valOf P t vs = some x → valOf P t us = some y → cellsEq ks as bs = some r → (Op.equalIn (D + d) t x y).run P w = .ok r w)
    (as bs : List AVal) (vs us : Array Value) (ha : VRels φ as vs.toList) (hb : VRels φ bs us.toList) : ∀ (fs : List Field) (off : Nat) (ks : List Nat) (r : Bool),
    flatFs (flatK P d) P off fs = some ks → cellsEq ks (as.drop off) (bs.drop off) = some r → (Op.eqFields (D + d) vs us fs).run P w = .ok r w
  | [], off, ks, r, hf, hc => by
    simp only [flatFs, Option.some.injEq] at hf
    subst hf
    have h0 := cellsEq_length _ _ _ _ hc
    have e1 : as.drop off = [] := List.eq_nil_of_length_eq_zero h0.1
    have e2 : bs.drop off = [] := List.eq_nil_of_length_eq_zero h0.2
    rw [e1, e2] at hc
    simp only [cellsEq, Option.some.injEq] at hc
    simp [Op.eqFields, hc]
  | f :: fs, off, ks, r, hf, hc => by
    simp only [flatFs] at hf
    split at hf
    · rename_i hn
      split at hf
      · rename_i k1 hk
        split at hf
        · rename_i hlen
          split at hf
          · rename_i kr hr
            simp only [Option.some.injEq] at hf
            subst hf
            obtain ⟨r1, r2, h1, h2, rfl⟩ := cellsEq_append _ _ _ _ _ hc
            obtain ⟨u, hu⟩ := flatK_under hk
            obtain ⟨i, hi⟩ := info_of_underlying hu
            have hl1 := (cellsEq_length _ _ _ _ h1).1
            have hl2 := (cellsEq_length _ _ _ _ h1).2
            have ra : VRels φ ((as.drop off).take k1.length) ((vs.toList.drop off).take k1.length) := VRels.take _ (VRels.drop _ ha)
            have rb : VRels φ ((bs.drop off).take k1.length) ((us.toList.drop off).take k1.length) := VRels.take _ (VRels.drop _ hb)
            obtain ⟨x, hx⟩ := valOf_flat hk ((vs.toList.drop off).take k1.length) (by rw [← VRels.length ra, hl1])
            obtain ⟨y, hy⟩ := valOf_flat hk ((us.toList.drop off).take k1.length) (by rw [← VRels.length rb, hl2])
            have p1 := run_part w hu hi vs off (by rw [← hlen]; exact hx)
            have p2 := run_part w hu hi us off (by rw [← hlen]; exact hy)
            have p3 := ih f.type k1 hk _ _ _ _ x y r1 ra rb hx hy h1
            have p4 := run_flatFs d D ih as bs vs us ha hb fs (off + k1.length) kr r2 hr (by simpa [List.drop_drop] using h2)
            simp only [Op.eqFields, hn.1, hn.2, ne_eq, not_false_eq_true, if_true, Sem.run_bind, p1, p2, p3, Result.andThen_ok]
            cases r1
            · simp
            · simpa using p4
          · cases hf
        · cases hf
      · cases hf
    · cases hf

theorem run_items {φ : Phi} (d D : Nat) {t : TypeId} (hc1 : P.cellsOf t = 1) (ht : flatK P d t = some [1]) (ih : ∀ (as bs : List AVal) (vs us : List Value) (x y : Value) (r : Bool),
      VRels φ as vs → VRels φ bs us → valOf P t vs = some x → valOf P t us = some y → cellsEq [1] as bs = some r → (Op.equalIn (D + d) t x y).run P w = .ok r w)
    (as bs : List AVal) (vs us : Array Value) (ha : VRels φ as vs.toList) (hb : VRels φ bs us.toList) : ∀ (m off : Nat) (r : Bool),
    cellsEq (List.replicate m 1) (as.drop off) (bs.drop off) = some r → (Op.eqItems (D + d) t (P.cellsOf t) vs us (List.range' off m)).run P w = .ok r w
  | 0, off, r, hc => by
    have h0 := cellsEq_length _ _ _ _ hc
    have e1 : as.drop off = [] := List.eq_nil_of_length_eq_zero h0.1
    have e2 : bs.drop off = [] := List.eq_nil_of_length_eq_zero h0.2
    rw [e1, e2] at hc
    simp only [List.replicate_zero, cellsEq, Option.some.injEq] at hc
    simp [Op.eqItems, hc]
  | m + 1, off, r, hc => by
    have hc' : cellsEq ([1] ++ List.replicate m 1) (as.drop off) (bs.drop off) = some r := hc
    obtain ⟨r1, r2, h1, h2, rfl⟩ := cellsEq_append _ _ _ _ _ hc'
    obtain ⟨u, hu⟩ := flatK_under ht
    obtain ⟨i, hi⟩ := info_of_underlying hu
    have hl1 := (cellsEq_length _ _ _ _ h1).1
    have hl2 := (cellsEq_length _ _ _ _ h1).2
    have ra : VRels φ ((as.drop off).take 1) ((vs.toList.drop off).take 1) := VRels.take _ (VRels.drop _ ha)
    have rb : VRels φ ((bs.drop off).take 1) ((us.toList.drop off).take 1) := VRels.take _ (VRels.drop _ hb)
    obtain ⟨x, hx⟩ := valOf_flat ht ((vs.toList.drop off).take 1) (by rw [← VRels.length ra]; exact hl1)
    obtain ⟨y, hy⟩ := valOf_flat ht ((us.toList.drop off).take 1) (by rw [← VRels.length rb]; exact hl2)
    have p1 := run_part w hu hi vs (off * P.cellsOf t) (by rw [hc1, Nat.mul_one]; exact hx)
    have p2 := run_part w hu hi us (off * P.cellsOf t) (by rw [hc1, Nat.mul_one]; exact hy)
    have p3 := ih _ _ _ _ x y r1 ra rb hx hy h1
    have p4 := run_items d D hc1 ht ih as bs vs us ha hb m (off + 1) r2 (by simpa [List.drop_drop] using h2)
    rw [List.range'_succ]
    simp only [Op.eqItems, Sem.run_bind, p1, p2, p3, Result.andThen_ok]
    cases r1
    · simp
    · simpa using p4

theorem run_flat {φ : Phi} : ∀ (d D : Nat) (t : TypeId) (ks : List Nat), flatK P d t = some ks → ∀ (as bs : List AVal) (vs us : List Value) (x y : Value) (r : Bool),
    VRels φ as vs → VRels φ bs us → valOf P t vs = some x → valOf P t us = some y → cellsEq ks as bs = some r → (Op.equalIn (D + d) t x y).run P w = .ok r w
  | 0, _, _, _, h, _, _, _, _, _, _, _, _, _, _, _, _ => by simp [flatK] at h
  | d + 1, D, t, ks, h, as, bs, vs, us, x, y, r, ha, hb, hx, hy, hc => by
    unfold flatK at h
    unfold valOf at hx hy
    split at h
    case h_1 hu =>
      cases h
      obtain ⟨p, q, rfl, rfl, rfl⟩ := cells_bool hc
      obtain ⟨v, rfl, hv⟩ := vrels_one ha
      obtain ⟨u, rfl, hu'⟩ := vrels_one hb
      simp only [hu, Option.some.injEq] at hx hy
      subst hx; subst hy
      rw [vrel_bool.1 hv, vrel_bool.1 hu']
      exact run_equalIn_bool' w (D + d) t p q hu
    case h_2 k hu =>
      cases h
      obtain ⟨j, p, q, rfl, rfl, rfl⟩ := cells_int hc
      obtain ⟨v, rfl, hv⟩ := vrels_one ha
      obtain ⟨u, rfl, hu'⟩ := vrels_one hb
      simp only [hu, Option.some.injEq] at hx hy
      subst hx; subst hy
      rw [vrel_int.1 hv, vrel_int.1 hu']
      exact run_equalIn_int w (D + d) t j k p q hu
    case h_3 hu =>
      cases h
      obtain ⟨p, q, rfl, rfl, rfl⟩ := cells_str hc
      obtain ⟨v, rfl, hv⟩ := vrels_one ha
      obtain ⟨u, rfl, hu'⟩ := vrels_one hb
      simp only [hu, Option.some.injEq] at hx hy
      subst hx; subst hy
      rw [vrel_str.1 hv, vrel_str.1 hu']
      rw [show D + (d + 1) = (D + d) + 1 from rfl, run_equalIn_string w (D + d) t _ _ hu, ByteArray.toList_mk, ByteArray.toList_mk]
    case h_4 fs hu =>
      split at h
      · cases h
      · rename_i hs
        simp only [hu, Option.some.injEq] at hx hy
        subst hx; subst hy
        have hfo : P.fieldsOf t = fs := by simp [Program.fieldsOf, hu]
        rw [show D + (d + 1) = (D + d) + 1 from rfl, run_equalIn_struct w (D + d) t _ _ (by rw [hfo]; exact hu) (by simpa using hs), hfo]
        exact run_flatFs w d D (fun t ks hk => run_flat d D t ks hk) as bs vs.toArray us.toArray (by simpa using ha) (by simpa using hb) fs.toList 0 ks r h (by simpa using hc)
    case h_5 n e hu =>
      split at h
      · rename_i hcond
        cases h
        simp only [hu, Option.some.injEq] at hx hy
        subst hx; subst hy
        obtain ⟨u, hu'⟩ := flatK_under hcond.2
        obtain ⟨i, hi⟩ := info_of_underlying hu'
        rw [show D + (d + 1) = (D + d) + 1 from rfl, run_equalIn_array w (D + d) _ _ hu hi, List.range_eq_range']
        exact run_items w d D hcond.1 hcond.2 (fun as bs vs us x y r => run_flat d D e [1] hcond.2 as bs vs us x y r) as bs vs.toArray us.toArray (by simpa using ha) (by simpa using hb) n 0 r (by simpa using hc)
      · cases h
    case h_6 => cases h

/-- How a tag may stand at a type. 'x', 'y': the operands. -/
def isConstOp : Operand → Bool
  | .const _ => true
  | _ => false
def tagOk (P : Program) (t : TypeId) (x y : Operand) : EqTag → Bool
  | .plain => true
  | .bool => (match P.underlying t with | some .bool => true | _ => false)
  | .ptr => (match P.underlying t with | some (.pointer _) => true | _ => false)
  | .slice => (match P.underlying t with | some (.slice _) => true | _ => false)
  | .func => (match P.underlying t with | some (.func ..) => true | _ => false)
  | .iface c ints => (match P.underlying t with | some (.interface _) => true | _ => false) && (!c || isConstOp x || isConstOp y) &&
      ints.all fun u => (match P.underlying (u / 2) with | some (.int _) => Nat.beq (u % 2) 0 | some (.pointer e) => Nat.beq (u % 2) 1 && (P.info? e).isSome | _ => false) && ((P.info? (u / 2)).map (·.comparable)).getD false
  | .cells ks => decide (flatK P 20 t = some ks) && !(P.eqGuardType P.depth t) && (match P.underlying t with | some (.struct _) => true | some (.array _ _) => true | _ => false)

theorem run_guard_else (op : BinOp) (t : TypeId) (x y : Operand) (u v : Value) (h : ∀ a b, u = .agg a → v = .agg b → False) (h' : u = .nilIface → v = .nilIface → False) :
    (eqGuard op t x y u v).run P w = .ok () w := by
  unfold eqGuard
  split
  all_goals
    simp only [Bool.not_true, Bool.not_false, Bool.false_eq_true, if_false, if_true]
    first
      | rfl
      | (cases u <;> cases v <;> first | rfl | exact (h' rfl rfl).elim | exact (h _ _ rfl rfl).elim)

theorem run_iface_nil (op : BinOp) (t : TypeId) (x y : Operand) (hc : (isConstOp x || isConstOp y) = true) : (eqGuard op t x y .nilIface .nilIface).run P w = .ok () w := by
  unfold eqGuard
  split
  all_goals
    simp only [Bool.not_true, Bool.not_false, Bool.false_eq_true, if_false, if_true]
    first
      | rfl
      | (cases x <;> cases y <;> first | (simp [isConstOp] at hc; done) | rfl)

theorem run_cmp {op : BinOp} {t : TypeId} {x y : Operand} {u v : Value} {r : Bool} (hop : op = .eql ∨ op = .neq)
    (hg : (eqGuard op t x y u v).run P w = .ok () w) (he : (Op.equal t u v).run P w = .ok r w)
    (h1 : binOp .eql t u v = (do pure (.bool (← Op.equal t u v)))) (h2 : binOp .neq t u v = (do pure (.bool (!(← Op.equal t u v))))) :
    (do eqGuard op t x y u v; binOp op t u v : Sem Value).run P w = .ok (.bool (if op = .eql then r else !r)) w := by
  rcases hop with rfl | rfl
  · simp [hg, h1, he]
  · simp [hg, h2, he]

theorem tag_bool {t : TypeId} {x y : Operand} (h : tagOk P t x y .bool = true) : P.underlying t = some .bool := by
  simp only [tagOk] at h; split at h
  · assumption
  · cases h
theorem tag_ptr {t : TypeId} {x y : Operand} (h : tagOk P t x y .ptr = true) : ∃ e, P.underlying t = some (.pointer e) := by
  simp only [tagOk] at h; split at h
  · exact ⟨_, ‹_›⟩
  · cases h
theorem tag_slice {t : TypeId} {x y : Operand} (h : tagOk P t x y .slice = true) : ∃ e, P.underlying t = some (.slice e) := by
  simp only [tagOk] at h; split at h
  · exact ⟨_, ‹_›⟩
  · cases h
theorem tag_func {t : TypeId} {x y : Operand} (h : tagOk P t x y .func = true) : ∃ a b c, P.underlying t = some (.func a b c) := by
  simp only [tagOk] at h; split at h
  · exact ⟨_, _, _, ‹_›⟩
  · cases h
theorem tag_iface {t : TypeId} {x y : Operand} {c : Bool} {ints : List Nat} (h : tagOk P t x y (.iface c ints) = true) : (∃ ms, P.underlying t = some (.interface ms)) ∧ (c = true → (isConstOp x || isConstOp y) = true) ∧
    ∀ u ∈ ints, ((u % 2 = 0 ∧ ∃ k, P.underlying (u / 2) = some (.int k)) ∨ (u % 2 = 1 ∧ ∃ e j, P.underlying (u / 2) = some (.pointer e) ∧ P.info? e = some j)) ∧ ∃ i, P.info? (u / 2) = some i ∧ i.comparable = true := by
  simp only [tagOk, Bool.and_eq_true, List.all_eq_true] at h
  obtain ⟨⟨h1, h2⟩, h3⟩ := h
  refine ⟨?_, ?_, ?_⟩
  · split at h1
    · exact ⟨_, ‹_›⟩
    · cases h1
  · intro hc; subst hc; simpa using h2
  · intro u hu
    obtain ⟨h4, h5⟩ := h3 u hu
    refine ⟨?_, ?_⟩
    · split at h4
      · exact .inl ⟨Nat.eq_of_beq_eq_true h4, _, ‹_›⟩
      · simp only [Bool.and_eq_true, Option.isSome_iff_exists] at h4
        obtain ⟨j, hj⟩ := h4.2
        exact .inr ⟨Nat.eq_of_beq_eq_true h4.1, _, j, ‹_›, hj⟩
      · cases h4
    · cases hi : P.info? (u / 2) with
      | none => rw [hi] at h5; simp at h5
      | some i => rw [hi] at h5; exact ⟨i, rfl, by simpa using h5⟩
theorem tag_cells {t : TypeId} {x y : Operand} {ks : List Nat} (h : tagOk P t x y (.cells ks) = true) : flatK P 20 t = some ks ∧ P.eqGuardType P.depth t = false ∧ ((∃ fs, P.underlying t = some (.struct fs)) ∨ ∃ n e, P.underlying t = some (.array n e)) := by
  simp only [tagOk, Bool.and_eq_true, decide_eq_true_eq, Bool.not_eq_true'] at h
  obtain ⟨⟨h1, h2⟩, h3⟩ := h
  refine ⟨h1, h2, ?_⟩
  split at h3
  · exact .inl ⟨_, ‹_›⟩
  · exact .inr ⟨_, _, ‹_›⟩
  · cases h3


section
variable (d : Nat) {t : TypeId}
theorem eq_ptr1 {e : TypeId} (hu : P.underlying t = some (.pointer e)) (b : Option Addr) : (Op.equalIn (d + 1) t (.pointer none) (.pointer b)).run P w = .ok b.isNone w := by
  simp [Op.equalIn, run_underlying hu]
theorem eq_ptr2 {e : TypeId} (hu : P.underlying t = some (.pointer e)) (b : Addr) : (Op.equalIn (d + 1) t (.pointer (some b)) (.pointer none)).run P w = .ok false w := by
  simp [Op.equalIn, run_underlying hu]
theorem eq_slice1 {e : TypeId} (hu : P.underlying t = some (.slice e)) (b : Option Addr) (n m k l : Nat) : (Op.equalIn (d + 1) t (.slice none n m) (.slice b k l)).run P w = .ok b.isNone w := by
  simp [Op.equalIn, run_underlying hu]
theorem eq_slice2 {e : TypeId} (hu : P.underlying t = some (.slice e)) (b : Addr) (n m k l : Nat) : (Op.equalIn (d + 1) t (.slice (some b) n m) (.slice none k l)).run P w = .ok false w := by
  simp [Op.equalIn, run_underlying hu]
theorem eq_func1 {a b : Array TypeId} {c : Bool} (hu : P.underlying t = some (.func a b c)) : (Op.equalIn (d + 1) t .nilFunc .nilFunc).run P w = .ok true w := by
  simp [Op.equalIn, run_underlying hu]
theorem eq_func2 {a b : Array TypeId} {c : Bool} (hu : P.underlying t = some (.func a b c)) (f : Fn) (x y : Array Value) : (Op.equalIn (d + 1) t .nilFunc (.func f x y)).run P w = .ok false w := by
  simp [Op.equalIn, run_underlying hu]
theorem eq_func3 {a b : Array TypeId} {c : Bool} (hu : P.underlying t = some (.func a b c)) (f : Fn) (x y : Array Value) : (Op.equalIn (d + 1) t (.func f x y) .nilFunc).run P w = .ok false w := by
  simp [Op.equalIn, run_underlying hu]
theorem eq_if1 {ms : Array (String × TypeId)} (hu : P.underlying t = some (.interface ms)) : (Op.equalIn (d + 1) t .nilIface .nilIface).run P w = .ok true w := by
  simp [Op.equalIn, run_underlying hu]
theorem eq_if2 {ms : Array (String × TypeId)} (hu : P.underlying t = some (.interface ms)) (u : TypeId) (v : Value) : (Op.equalIn (d + 1) t .nilIface (.iface u v)).run P w = .ok false w := by
  simp [Op.equalIn, run_underlying hu]
theorem eq_if3 {ms : Array (String × TypeId)} (hu : P.underlying t = some (.interface ms)) (u : TypeId) (v : Value) : (Op.equalIn (d + 1) t (.iface u v) .nilIface).run P w = .ok false w := by
  simp [Op.equalIn, run_underlying hu]
theorem eq_if4 {ms : Array (String × TypeId)} (hu : P.underlying t = some (.interface ms)) {u1 u2 : TypeId} (hne : u1 ≠ u2) (v1 v2 : Value) : (Op.equalIn (d + 1) t (.iface u1 v1) (.iface u2 v2)).run P w = .ok false w := by
  simp [Op.equalIn, run_underlying hu, hne]
theorem eq_if5 {ms : Array (String × TypeId)} (hu : P.underlying t = some (.interface ms)) {u : TypeId} {i : TypeInfo} {k k' : IntKind} (hi : P.info? u = some i) (hc : i.comparable = true) (hk : P.underlying u = some (.int k')) (p q : Int) :
    (Op.equalIn (d + 2) t (.iface u (.int k p)) (.iface u (.int k q))).run P w = .ok (p == q) w := by
  simp [Op.equalIn, run_underlying hu, run_typeInfo w hi, hc, run_underlying hk]
end

theorem run_eq {t : TypeId} {x y : Operand} {tag : EqTag} (htag : tagOk P t x y tag = true) {a b : AVal} {r : Bool} (h : aEq tag a b = some r) {φ : Phi} {u v : Value} (ha : VRel φ a u) (hb : VRel φ b v)
    {op : BinOp} (hop : op = .eql ∨ op = .neq) : (do eqGuard op t x y u v; binOp op t u v : Sem Value).run P w = .ok (.bool (if op = .eql then r else !r)) w := by
  unfold aEq at h
  split at h
  all_goals first | (cases h; done) | skip
  -- bool
  · cases h
    rw [vrel_bool.1 ha, vrel_bool.1 hb]
    exact run_cmp w hop (run_guard_else w _ _ _ _ _ _ (by simp) (by simp)) (run_equalIn_bool' w 9999 t _ _ (tag_bool htag)) rfl rfl
  -- pointers
  · cases h
    rw [vrel_nilPtr.1 ha, vrel_nilPtr.1 hb]
    obtain ⟨e, hu⟩ := tag_ptr htag
    refine run_cmp w hop (run_guard_else w _ _ _ _ _ _ (by simp) (by simp)) ?_ rfl rfl
    exact eq_ptr1 w 9999 hu _
  · cases h
    obtain ⟨L, _, rfl⟩ := vrel_ptr.1 hb
    rw [vrel_nilPtr.1 ha]
    obtain ⟨e, hu⟩ := tag_ptr htag
    refine run_cmp w hop (run_guard_else w _ _ _ _ _ _ (by simp) (by simp)) ?_ rfl rfl
    exact eq_ptr1 w 9999 hu _
  · cases h
    obtain ⟨L, _, rfl⟩ := vrel_ptr.1 ha
    rw [vrel_nilPtr.1 hb]
    obtain ⟨e, hu⟩ := tag_ptr htag
    refine run_cmp w hop (run_guard_else w _ _ _ _ _ _ (by simp) (by simp)) ?_ rfl rfl
    exact eq_ptr2 w 9999 hu _
  -- slices
  · cases h
    rw [vrel_nilSlice.1 ha, vrel_nilSlice.1 hb]
    obtain ⟨e, hu⟩ := tag_slice htag
    refine run_cmp w hop (run_guard_else w _ _ _ _ _ _ (by simp) (by simp)) ?_ rfl rfl
    exact eq_slice1 w 9999 hu _ _ _ _ _
  · cases h
    obtain ⟨L, _, _, _, rfl, _⟩ := vrel_slice.1 hb
    rw [vrel_nilSlice.1 ha]
    obtain ⟨e, hu⟩ := tag_slice htag
    refine run_cmp w hop (run_guard_else w _ _ _ _ _ _ (by simp) (by simp)) ?_ rfl rfl
    exact eq_slice1 w 9999 hu _ _ _ _ _
  · cases h
    obtain ⟨L, _, _, _, rfl, _⟩ := vrel_slice.1 ha
    rw [vrel_nilSlice.1 hb]
    obtain ⟨e, hu⟩ := tag_slice htag
    refine run_cmp w hop (run_guard_else w _ _ _ _ _ _ (by simp) (by simp)) ?_ rfl rfl
    exact eq_slice2 w 9999 hu _ _ _ _ _
  -- functions
  · cases h
    rw [vrel_nilFunc.1 ha, vrel_nilFunc.1 hb]
    obtain ⟨_, _, _, hu⟩ := tag_func htag
    refine run_cmp w hop (run_guard_else w _ _ _ _ _ _ (by simp) (by simp)) ?_ rfl rfl
    exact eq_func1 w 9999 hu
  · cases h
    obtain ⟨_, rfl, _⟩ := vrel_func.1 hb
    rw [vrel_nilFunc.1 ha]
    obtain ⟨_, _, _, hu⟩ := tag_func htag
    refine run_cmp w hop (run_guard_else w _ _ _ _ _ _ (by simp) (by simp)) ?_ rfl rfl
    exact eq_func2 w 9999 hu _ _ _
  · cases h
    obtain ⟨_, rfl, _⟩ := vrel_func.1 ha
    rw [vrel_nilFunc.1 hb]
    obtain ⟨_, _, _, hu⟩ := tag_func htag
    refine run_cmp w hop (run_guard_else w _ _ _ _ _ _ (by simp) (by simp)) ?_ rfl rfl
    exact eq_func3 w 9999 hu _ _ _
  -- interfaces
  · cases h
    obtain ⟨_, rfl, _⟩ := vrel_iface.1 hb
    rw [vrel_nilIface.1 ha]
    obtain ⟨⟨_, hu⟩, _⟩ := tag_iface htag
    refine run_cmp w hop (run_guard_else w _ _ _ _ _ _ (by simp) (by simp)) ?_ rfl rfl
    exact eq_if2 w 9999 hu _ _
  · cases h
    obtain ⟨_, rfl, _⟩ := vrel_iface.1 ha
    rw [vrel_nilIface.1 hb]
    obtain ⟨⟨_, hu⟩, _⟩ := tag_iface htag
    refine run_cmp w hop (run_guard_else w _ _ _ _ _ _ (by simp) (by simp)) ?_ rfl rfl
    exact eq_if3 w 9999 hu _ _
  · cases h
    rw [vrel_nilIface.1 ha, vrel_nilIface.1 hb]
    obtain ⟨⟨_, hu⟩, hc, _⟩ := tag_iface htag
    refine run_cmp w hop (run_iface_nil w _ _ _ _ (hc rfl)) ?_ rfl rfl
    exact eq_if1 w 9999 hu
  · rename_i c ints t1 k p t2 j q
    obtain ⟨_, rfl, h1⟩ := vrel_iface.1 ha
    obtain ⟨_, rfl, h2⟩ := vrel_iface.1 hb
    rw [vrel_int.1 h1, vrel_int.1 h2]
    obtain ⟨⟨_, hu⟩, _, hi⟩ := tag_iface htag
    split at h
    · rename_i ht
      subst ht
      split at h
      · rename_i hk
        obtain ⟨rfl, hm⟩ := hk
        cases h
        obtain ⟨hh, i, hi1, hi2⟩ := hi _ hm
        rw [show 2 * t1 / 2 = t1 by omega] at hh hi1
        rcases hh with ⟨_, kk, hu2⟩ | ⟨hodd, _⟩
        · refine run_cmp w hop (run_guard_else w _ _ _ _ _ _ (by simp) (by simp)) ?_ rfl rfl
          exact eq_if5 w 9998 hu hi1 hi2 hu2 _ _
        · omega
      · cases h
    · rename_i ht
      cases h
      refine run_cmp w hop (run_guard_else w _ _ _ _ _ _ (by simp) (by simp)) ?_ rfl rfl
      exact eq_if4 w 9999 hu ht _ _
  · rename_i c ints t1 a1 p1 t2 a2 p2
    obtain ⟨_, rfl, h1⟩ := vrel_iface.1 ha
    obtain ⟨_, rfl, h2⟩ := vrel_iface.1 hb
    obtain ⟨L, hL, rfl⟩ := vrel_ptr.1 h1
    obtain ⟨L2, hL2, rfl⟩ := vrel_ptr.1 h2
    obtain ⟨⟨_, hu⟩, _, hi⟩ := tag_iface htag
    split at h
    · rename_i ht
      subst ht
      split at h
      · rename_i hk
        obtain ⟨hm, rfl, rfl⟩ := hk
        cases h
        rw [hL] at hL2
        cases hL2
        obtain ⟨hh, i, hi1, hi2⟩ := hi _ hm
        rw [show (2 * t1 + 1) / 2 = t1 by omega] at hh hi1
        rcases hh with ⟨hev, _⟩ | ⟨_, e, j, hu2, hj⟩
        · omega
        · refine run_cmp w hop (run_guard_else w _ _ _ _ _ _ (by simp) (by simp)) ?_ rfl rfl
          exact run_equalIn_iface_ptr_same w 9998 _ hu hu2 hi1 hi2 hj
      · cases h
    · rename_i ht
      cases h
      refine run_cmp w hop (run_guard_else w _ _ _ _ _ _ (by simp) (by simp)) ?_ rfl rfl
      exact eq_if4 w 9999 hu ht _ _
  · obtain ⟨_, rfl, h1⟩ := vrel_iface.1 ha
    obtain ⟨_, rfl, h2⟩ := vrel_iface.1 hb
    obtain ⟨⟨_, hu⟩, _, _⟩ := tag_iface htag
    split at h
    · cases h
    · rename_i ht
      cases h
      refine run_cmp w hop (run_guard_else w _ _ _ _ _ _ (by simp) (by simp)) ?_ rfl rfl
      exact eq_if4 w 9999 hu ht _ _
  -- structs
  · rename_i ks as bs
    obtain ⟨vs, rfl, h1, _⟩ := vrel_agg.1 ha
    obtain ⟨us, rfl, h2, _⟩ := vrel_agg.1 hb
    obtain ⟨hf, hg, hu⟩ := tag_cells htag
    refine run_cmp w hop (run_eqGuard_agg w op t x y vs us hg) ?_ rfl rfl
    show (Op.equalIn (9980 + 20) t _ _).run P w = _
    rcases hu with ⟨fs, hu⟩ | ⟨n, e, hu⟩
    · exact run_flat w 20 9980 t ks hf as bs vs.toList us.toList _ _ r h1 h2 (by simp [valOf, hu]) (by simp [valOf, hu]) h
    · exact run_flat w 20 9980 t ks hf as bs vs.toList us.toList _ _ r h1 h2 (by simp [valOf, hu]) (by simp [valOf, hu]) h

theorem run_bin {t : TypeId} {x y : Operand} {tag : EqTag} (htag : tagOk P t x y tag = true) {a b r : AVal} {op : BinOp} (h : aBin op tag a b = some r) {φ : Phi} {u v : Value} (ha : VRel φ a u) (hb : VRel φ b v) :
    ∃ z, (do eqGuard op t x y u v; binOp op t u v : Sem Value).run P w = .ok z w ∧ VRel φ r z := by
  unfold aBin at h
  split at h
  · rename_i k p j q
    rw [vrel_int.1 ha, vrel_int.1 hb]
    have hsh : ∀ op, (op = .shl ∨ op = .shr) → aShift op k p q = some r → ∃ z, (do eqGuard op t x y (.int k p) (.int j q); binOp op t (.int k p) (.int j q) : Sem Value).run P w = .ok z w ∧ VRel φ r z := by
      intro op ho hh
      obtain ⟨z, hz, hr⟩ := run_shift w (j := j) hh φ
      refine ⟨z, ?_, hr⟩
      rcases ho with rfl | rfl <;> simp only [Sem.run_bind, run_eqGuard_int, Result.andThen_ok] <;> exact hz
    split at h
    · exact hsh _ (.inl rfl) h
    · exact hsh _ (.inr rfl) h
    · split at h
      · rename_i hk
        subst hk
        obtain ⟨z, hz, hr⟩ := run_intOp w (t := t) h φ (by simpa using ‹op = BinOp.shl → False›) (by simpa using ‹op = BinOp.shr → False›)
        exact ⟨z, by simp only [Sem.run_bind, run_eqGuard_int, Result.andThen_ok]; exact hz, hr⟩
      · cases h
  · rw [vrel_str.1 ha, vrel_str.1 hb]
    obtain ⟨z, hz, hr⟩ := run_strOp w (t := t) h φ
    exact ⟨z, by simp only [Sem.run_bind, run_eqGuard_string, Result.andThen_ok]; exact hz, hr⟩
  · cases h
  · split at h
    · simp only [Option.bind_eq_some_iff, Option.some.injEq] at h
      obtain ⟨q, hq, rfl⟩ := h
      exact ⟨_, run_eq w htag hq ha hb (.inl rfl), vrel_bool.2 (by simp)⟩
    · simp only [Option.bind_eq_some_iff, Option.some.injEq] at h
      obtain ⟨q, hq, rfl⟩ := h
      exact ⟨_, run_eq w htag hq ha hb (.inr rfl), vrel_bool.2 (by simp)⟩
    · cases h
end
end Go.Fw

/- What the other operations do that only compute: structs, fields, addresses, slices of slices. -/
namespace Go.Fw
set_option linter.unusedSimpArgs false
set_option linter.unusedVariables false

section
variable {P : Program} (w : World)

theorem run_sizeOf' {t : TypeId} {n : Nat} (h : (P.info? t).map (·.size) = some n) : (sizeOf t).run P w = .ok n w := by
  cases hi : P.info? t with
  | none => rw [hi] at h; cases h
  | some i =>
    rw [hi] at h
    rw [run_sizeOf w hi]
    simp only [Program.cellsOf, hi]
    simp only [Option.map_some, Option.some.injEq] at h
    simp [h]

theorem cellsOf_of {t : TypeId} {n : Nat} (h : (P.info? t).map (·.size) = some n) : P.cellsOf t = n := by
  simp [Program.cellsOf, h]

/-- Laying values one by one is laying them at once. -/
theorem foldl_set (off : Nat) : ∀ (vs : List Value) (k : Nat) (cs : Array Value), off + k + vs.length ≤ cs.size →
    ((vs.zipIdx k).foldl (fun cs p => cs.setIfInBounds (off + p.2) p.1) cs).toList = cs.toList.take (off + k) ++ vs ++ cs.toList.drop (off + k + vs.length)
  | [], k, cs, _ => by simp
  | v :: vs, k, cs, h => by
    simp only [List.zipIdx_cons, List.foldl_cons, List.length_cons] at *
    have hlt : off + k < cs.size := by omega
    rw [foldl_set off vs (k + 1) _ (by simp; omega)]
    have ht : (cs.setIfInBounds (off + k) v).toList = cs.toList.take (off + k) ++ v :: cs.toList.drop (off + k + 1) := by
      rw [Array.toList_setIfInBounds, List.set_eq_take_append_cons_drop]
      rw [if_pos (by simpa using hlt)]
    rw [ht]
    have hlen : (cs.toList.take (off + k)).length = off + k := by simp; omega
    have e1 : off + (k + 1) = (cs.toList.take (off + k)).length + 1 := by omega
    rw [show off + (k + 1) + vs.length = (cs.toList.take (off + k)).length + (1 + vs.length) by omega, e1]
    rw [List.take_append, List.drop_append]
    simp only [Nat.add_sub_cancel_left, List.take_of_length_le (show (cs.toList.take (off + k)).length ≤ (cs.toList.take (off + k)).length + 1 by omega)]
    rw [List.drop_eq_nil_of_le (show (cs.toList.take (off + k)).length ≤ (cs.toList.take (off + k)).length + (1 + vs.length) by omega)]
    simp only [List.take_succ_cons, List.take_zero, List.append_assoc, List.cons_append, List.nil_append, List.singleton_append]
    rw [show 1 + vs.length = vs.length + 1 by omega, List.drop_succ_cons, List.drop_drop]
    rw [show off + k + 1 + vs.length = off + k + (vs.length + 1) by omega]

theorem aCells_rel {φ : Phi} {x : AVal} {v : Value} {n : Nat} {cs : List AVal} (h : VRel φ x v) (e : aCells n x = some cs) :
    VRels φ cs v.cells.toList ∧ (∀ u ∈ v.cells.toList, u.oneCell' = true) ∧ v.cells.size = n ∧ cs.length = n := by
  unfold aCells at e
  split at e
  · rename_i ds hd
    obtain ⟨h1, h2⟩ := cells_rel h hd
    cases hb : Nat.beq ds.length n with
    | false => rw [hb] at e; cases e
    | true =>
      rw [hb] at e
      cases e
      have hn := Nat.eq_of_beq_eq_true hb
      refine ⟨h1, h2, ?_, hn⟩
      have := VRels.length h1
      simp at this
      omega
  · cases e

theorem splice_rel {φ : Phi} {cs ds : List AVal} {vs us : List Value} (off : Nat) (h : VRels φ cs vs) (k : VRels φ ds us) : VRels φ (splice cs off ds) (vs.take off ++ us ++ vs.drop (off + us.length)) := by
  unfold splice
  rw [VRels.length k]
  exact VRels.append (VRels.append (VRels.take _ h) k) (VRels.drop _ h)

theorem splice_ones {vs us : List Value} (off n : Nat) (h : ∀ u ∈ vs, u.oneCell' = true) (k : ∀ u ∈ us, u.oneCell' = true) : ∀ u ∈ vs.take off ++ us ++ vs.drop n, u.oneCell' = true := by
  intro u hu
  rcases List.mem_append.1 hu with hu | hu
  · rcases List.mem_append.1 hu with hu | hu
    · exact h u (List.mem_of_mem_take hu)
    · exact k u hu
  · exact h u (List.mem_of_mem_drop hu)

theorem fill_rel {φ : Phi} (place : Nat → Option (Nat × Nat)) : ∀ (parts : List (Nat × Value)) (aparts : List (Nat × Nat × AVal)) (cs : List AVal) (cells : Array Value) (out : List AVal),
    aparts.length = parts.length → (∀ (j : Nat) i v off n x, parts[j]? = some (i, v) → aparts[j]? = some (off, n, x) → place i = some (off, n) ∧ VRel φ x v) →
    VRels φ cs cells.toList → (∀ u ∈ cells.toList, u.oneCell' = true) → aFill cs aparts = some out →
    ∃ o, Instr.fill place cells parts = some o ∧ VRels φ out o.toList ∧ ∀ u ∈ o.toList, u.oneCell' = true
  | [], [], cs, cells, out, _, _, hr, ho, he => by
    simp only [aFill, Option.some.injEq] at he
    subst he
    exact ⟨cells, by simp [Instr.fill], hr, ho⟩
  | [], _ :: _, _, _, _, hl, _, _, _, _ => by simp at hl
  | _ :: _, [], _, _, _, hl, _, _, _, _ => by simp at hl
  | (i, v) :: parts, (off, n, x) :: aparts, cs, cells, out, hl, hp, hr, ho, he => by
    obtain ⟨hpl, hx⟩ := hp 0 i v off n x rfl rfl
    simp only [aFill, Option.bind_eq_some_iff] at he
    obtain ⟨vs, hvs, he⟩ := he
    obtain ⟨h1, h2, h3, h4⟩ := aCells_rel hx hvs
    cases hb : Nat.ble (off + n) cs.length with
    | false => rw [hb] at he; cases he
    | true =>
      rw [hb] at he
      have hle := Nat.le_of_ble_eq_true hb
      have hcl := VRels.length hr
      simp only [Array.length_toList] at hcl
      have hfold : (v.cells.zipIdx.foldl (fun cs p => cs.setIfInBounds (off + p.2) p.1) cells).toList = cells.toList.take off ++ v.cells.toList ++ cells.toList.drop (off + v.cells.toList.length) := by
        rw [← Array.foldl_toList, Array.toList_zipIdx]
        have := foldl_set off v.cells.toList 0 cells (by simp; omega)
        simpa using this
      obtain ⟨o, hf, hro, hoo⟩ := fill_rel place parts aparts (splice cs off vs) (v.cells.zipIdx.foldl (fun cs p => cs.setIfInBounds (off + p.2) p.1) cells) out (by simpa using hl)
        (fun j i v off n x h1 h2 => hp (j + 1) i v off n x (by simpa using h1) (by simpa using h2)) (by rw [hfold]; exact splice_rel off hr h1) (by rw [hfold]; exact splice_ones off _ ho h2) he
      refine ⟨o, ?_, hro, hoo⟩
      unfold Instr.fill
      simp only [hpl]
      rw [if_neg]
      · exact hf
      · simp only [ne_eq, bne_iff_ne, Bool.or_eq_true, decide_eq_true_eq, not_or]
        omega

theorem mapM_places : ∀ (fs : List Field), (∀ f ∈ fs, ((P.info? f.type).map (·.size)).isSome = true) →
    (fs.mapM (fun f => (do pure (f.offset, ← sizeOf f.type) : Sem (Nat × Nat)))).run P w = .ok (fs.map fun f => (f.offset, P.cellsOf f.type)) w
  | [], _ => by simp
  | f :: fs, h => by
    have h0 := h f (by simp)
    cases hi : P.info? f.type with
    | none => rw [hi] at h0; cases h0
    | some i =>
      simp only [List.mapM_cons, Sem.run_bind, run_sizeOf w hi, Result.andThen_ok, Sem.run_pure, List.map_cons]
      rw [mapM_places fs fun g hg => h g (by simp [hg])]
      rfl

end
end Go.Fw

/- When an operation of the abstract code stands for one of the model; what those do that only compute. -/
namespace Go.Fw
set_option linter.unusedSimpArgs false
set_option linter.unusedVariables false

def optOk : Option Operand → Option AOpd → Bool
  | none, none => true
  | some x, some y => opdOk x y
  | _, _ => false
def opdsOk : List Operand → List AOpd → Bool
  | [], [] => true
  | x :: xs, y :: ys => opdOk x y && opdsOk xs ys
  | _, _ => false
def sizeIs (P : Program) (t : TypeId) (n : Nat) : Bool := decide ((P.info? t).map (·.size) = some n)
def bytesIs (P : Program) (t : TypeId) (n : Nat) : Bool := decide ((P.info? t).map (·.bytes) = some n)
def zeroOk (P : Program) (t : TypeId) (zero : List AVal) : Bool :=
  match (P.info? t).bind (·.zero) with
  | some z => constsOk zero z.cells.toList
  | none => false
def aggOk (P : Program) (t : TypeId) (agg : Bool) (n : Nat) : Bool :=
  match P.underlying t with
  | some (.struct _) | some (.array _ _) => agg && sizeIs P t n
  | some _ => !agg && Nat.beq n 1 && sizeIs P t 1
  | none => false
def convOk (P : Program) (src dst : TypeId) : AConv → Bool
  | .toInt k => (match P.underlying src, P.underlying dst with | some _, some (.int j) => decide (k = j) | _, _ => false)
  | .strBytes => (match P.underlying src, P.underlying dst with | some _, some (.slice e) => (match P.underlying e with | some (.int .u8) => sizeIs P e 1 | _ => false) | _, _ => false)
  | .bytesStr => (match P.underlying src, P.underlying dst with | some (.slice e), some .string => (match P.underlying e with | some (.int .u8) => true | _ => false) | _, _ => false)
  | .strStr => (match P.underlying src, P.underlying dst with | some _, some .string => true | _, _ => false)
  | .intStr => (match P.underlying src, P.underlying dst with | some (.int _), some .string => true | _, _ => false)
  | .slBytes => decide (src = dst) && (match P.underlying dst with | some (.slice e) => (match P.underlying e with | some (.int .u8) => true | _ => false) | _ => false)
def partsOk (place : Nat → Option (Nat × Nat)) : List (Nat × Operand) → List (Nat × Nat × AOpd) → Bool
  | [], [] => true
  | (i, x) :: r, (off, n, y) :: s => decide (place i = some (off, n)) && opdOk x y && partsOk place r s
  | _, _ => false
def buildOk (P : Program) (t : TypeId) (parts : List (Nat × Operand)) (aparts : List (Nat × Nat × AOpd)) : Bool :=
  match P.underlying t with
  | some (.struct fs) => fs.toList.all (fun f => ((P.info? f.type).map (·.size)).isSome) && partsOk (fun i => (fs.toList[i]?).map fun f => (f.offset, P.cellsOf f.type)) parts aparts
  | some (.array _ e) => ((P.info? e).map (·.size)).isSome && partsOk (fun i => some (i * P.cellsOf e, P.cellsOf e)) parts aparts
  | _ => false
def slPartsOk : List (Nat × Operand) → List (Nat × AOpd) → Bool
  | [], [] => true
  | (i, x) :: r, (j, y) :: s => Nat.beq i j && opdOk x y && slPartsOk r s
  | _, _ => false

/-- The methods that a table names: of each dynamic type the function, and how its receiver comes out of the value. -/
def methOk (P : Program) (name : String) (u : Nat) (e : Nat × Option (Nat × Nat × Bool)) : Bool :=
  match P.info? u with
  | none => false
  | some i =>
    match i.methods.find? (·.name == name) with
    | none => false
    | some m =>
      match m.func with
      | none => false
      | some (f, pr) =>
        Nat.beq f e.1 &&
        match m.path.toList, e.2 with
        | [], none =>
          (match P.underlying u with
           | some (.pointer _) => pr
           | some _ => !pr
           | none => false)
        | [s], some (off, n, agg) =>
          !s.deref && !agg && Nat.beq n 1 &&
          (match P.underlying s.struct with
           | some (.struct fs) =>
             (match fs[s.index]? with
              | some f => Nat.beq f.offset off && (match P.underlying f.type with | some (.pointer _) => pr | _ => false)
              | none => false)
           | _ => false)
        | _, _ => false

def chkCall (P : Program) (c : Go.Call) : AOp → Bool
  | .call _ f args => (match c.callee with | .value (.func g) => Nat.beq f g && opdsOk c.args.toList args | _ => false)
  | .callv _ fn args => (match c.callee with | .value (.tmp t) => opdOk (.tmp t) fn && opdsOk c.args.toList args | _ => false)
  | .invoke _ tbl recv args => (match c.callee with | .invoke r name => opdOk r recv && opdsOk c.args.toList args && tbl.all (fun e => methOk P name e.1 e.2) | _ => false)
  | .append _ es bytes zero zeros s x =>
    (match c.callee, c.args.toList, c.argTypes.toList with
     | .builtin .append, [s', x'], t :: ts =>
       opdOk s' s && opdOk x' x &&
       (match P.underlying t with
        | some (.slice e) => sizeIs P e es && bytesIs P e bytes && zeroOk P e zero && Nat.beq zero.length es
        | _ => false) &&
       (match ts with
        | [u] => (match P.underlying u with | some (.int _) => zeros | some _ => !zeros | none => false)
        | [] => !zeros
        | _ => false)
     | _, _, _ => false)
  | .copy _ es d s =>
    (match c.callee, c.args.toList, c.argTypes.toList with
     | .builtin .copy, [d', s'], t :: _ => opdOk d' d && opdOk s' s && (match P.underlying t with | some (.slice e) => sizeIs P e es | _ => false)
     | _, _, _ => false)
  | .clear _ zero s =>
    (match c.callee, c.args.toList, c.argTypes.toList with
     | .builtin .clear, [s'], t :: _ => opdOk s' s && (match P.underlying t with | some (.slice e) => zeroOk P e zero | _ => false)
     | _, _, _ => false)
  | .len _ str x =>
    (match c.callee, c.args.toList, c.argTypes.toList with
     | .builtin .len, [x'], t :: _ => opdOk x' x && (match P.underlying t with | some .string => str | some (.slice _) => !str | _ => false)
     | _, _, _ => false)
  | .cap _ x =>
    (match c.callee, c.args.toList, c.argTypes.toList with
     | .builtin .cap, [x'], t :: _ => opdOk x' x && (match P.underlying t with | some (.slice _) => true | _ => false)
     | _, _, _ => false)
  | .minmax _ mx xs =>
    (match c.callee with
     | .builtin .max => mx && opdsOk c.args.toList xs
     | .builtin .min => !mx && opdsOk c.args.toList xs
     | _ => false)
  | _ => false

def iaddrOk (P : Program) (t : TypeId) (arr : Option Nat) (es : Nat) : Bool :=
  match P.underlying t, arr with
  | some (.array len e), some len' => Nat.beq len len' && sizeIs P e es
  | some (.slice e), none => sizeIs P e es
  | _, _ => false

/-- Of which dynamic types an assertion to an interface type holds. -/
def assertOk (P : Program) (t : TypeId) (tbl : List (Nat × Bool)) : Bool :=
  match P.underlying t, P.info? t with
  | some (.interface want), some i => (match i.zero with | some .nilIface => true | _ => false) &&
    tbl.all fun p => match P.info? p.1 with | some j => (lacking want j.methods).isEmpty == p.2 | none => false
  | _, _ => false

def chkOp (P : Program) : Op → AOp → Bool
  | .move x, .mov _ y => opdOk x y
  | .assign x, .mov _ y => opdOk x y
  | .pick c a b, .pick _ c' a' b' => opdOk c c' && opdOk a a' && opdOk b b'
  | .binOp op t x y _, .bin _ op' tag x' y' => decide (op = op') && tagOk P t x y tag && opdOk x x' && opdOk y y'
  | .unOp op _ x, .un _ op' y => decide (op = op') && opdOk x y
  | .convert src dst x, .conv _ c y => opdOk x y && convOk P src dst c
  | .box _ x, .box _ _ y => opdOk x y
  | .alloc t, .alloc _ _ zero => zeroOk P t zero
  | .build t parts, .build _ zero aparts => zeroOk P t zero && buildOk P t parts.toList aparts
  | .buildSlice t len parts, .buildSl _ zero es len' aparts =>
    Nat.beq len len' && slPartsOk parts.toList aparts &&
    (match P.underlying t with | some (.slice e) => sizeIs P e es && zeroOk P e zero && Nat.beq zero.length es && Nat.ble (len * es) 16777216 | _ => false)
  | .load t x, .load _ agg n y => opdOk x y && aggOk P t agg n
  | .store t x v, .store agg n y u => opdOk x y && opdOk v u && aggOk P t agg n
  | .nilCheck x, .nilchk _ y => opdOk x y
  | .field t x f, .field _ agg off n y => opdOk x y &&
    (match P.underlying t with | some (.struct fs) => (match fs[f]? with | some fl => Nat.beq fl.offset off && aggOk P fl.type agg n | none => false) | _ => false)
  | .fieldAddr t x f, .faddr _ off y => opdOk x y &&
    (match P.underlying t with | some (.struct fs) => (match fs[f]? with | some fl => Nat.beq fl.offset off && (match (P.info? fl.type).map (·.size) with | some (_ + 1) => true | _ => false) | none => false) | _ => false)
  | .indexAddr t x i, .iaddr _ arr es y j => opdOk x y && opdOk i j && iaddrOk P t arr es
  | .index t x i, .index _ k y j => opdOk x y && opdOk i j &&
    (match P.underlying t, k with
     | some (.array len e), .arr len' es agg => Nat.beq len len' && sizeIs P e es && aggOk P e agg es
     | some .string, .str => true
     | _, _ => false)
  | .slice t x lo hi mx, .slice _ k y lo' hi' mx' => opdOk x y && optOk lo lo' && optOk hi hi' && optOk mx mx' &&
    (match P.underlying t, k with
     | some .string, .str => mx.isNone
     | some (.slice e), .sl es => sizeIs P e es && (mx.isNone || hi.isSome)
     | some (.array n e), .arr n' es => Nat.beq n n' && sizeIs P e es && (mx.isNone || hi.isSome)
     | _, _ => false)
  | .makeSlice t l c, .mkSlice _ es bytes zero l' c' => opdOk l l' && opdOk c c' &&
    (match P.underlying t with | some (.slice e) => sizeIs P e es && bytesIs P e bytes && zeroOk P e zero && Nat.beq zero.length es | _ => false)
  | .makeInterface t x, .mkIface _ t' y => Nat.beq t t' && opdOk x y && P.concrete t
  | .extract x i, .extract _ y i' => Nat.beq i i' && opdOk x y
  | .typeAssert x _ t c, .tassert _ tbl y => c && opdOk x y && assertOk P t tbl
  | .makeFunc (.func f) first caps, .mkFunc _ f' caps' => Nat.beq f f' && first.isEmpty && opdsOk caps.toList caps'
  | .call c, ao => chkCall P c ao
  | _, _ => false

/-- What an operation answers that only computes. -/
def pureOp (o : AOp) (ev : AOpd → AVal) : Option AVal :=
  match o with
  | .mov _ x => some (ev x)
  | .pick _ c a b => aPick (ev c) (ev a) (ev b)
  | .bin _ op tag x y => aBin op tag (ev x) (ev y)
  | .un _ op x => aUn op (ev x)
  | .conv _ (.toInt k) x => (match ev x with | .int _ n => some (.int k (k.wrap n)) | _ => none)
  | .conv _ .strStr x => (match ev x with | .str l => some (.str l) | _ => none)
  | .conv _ .intStr x => (match ev x with | .int _ n => some (.str (Utf8.encode n).data.toList) | _ => none)
  | .build _ zero parts => (aFill zero (parts.map fun p => (p.1, p.2.1, ev p.2.2))).bind fun cs => some (.agg cs)
  | .nilchk _ x => aNilchk (ev x)
  | .field _ agg off n x => (aField off n (ev x)).bind fun cs => fromCells agg cs
  | .faddr _ off x => aFaddr off (ev x)
  | .iaddr _ (some len) es x i => aIaddrA len es (ev x) (ev i)
  | .iaddr _ none es x i => aIaddr es (ev x) (ev i)
  | .index _ .str x i => aIndexStr (ev x) (ev i)
  | .index _ (.arr len es agg) x i => (aIndexArr len es (ev x) (ev i)).bind fun cs => fromCells agg cs
  | .slice _ .str x lo hi _ => aSliceStr (ev x) (lo.map ev) (hi.map ev)
  | .slice _ (.sl es) x lo hi mx => aSliceSl es (ev x) (lo.map ev) (hi.map ev) (mx.map ev)
  | .slice _ (.arr n es) x lo hi mx => aSliceArr n es (ev x) (lo.map ev) (hi.map ev) (mx.map ev)
  | .mkIface _ t x => some (.iface t (ev x))
  | .extract _ x i => aExtract i (ev x)
  | .tassert _ tbl x => aAssert tbl (ev x)
  | .mkFunc _ f caps => some (.func f (caps.map ev))
  | .len _ str x => aLen str (ev x)
  | .cap _ x => aCap (ev x)
  | .minmax _ mx xs => aMinMaxL mx (xs.map ev)
  | _ => none

section
variable {P : Program} (w : World)

theorem run_aggOk {t : TypeId} {agg : Bool} {n : Nat} (h : aggOk P t agg n = true) : (isAgg t).run P w = .ok agg w ∧ (sizeOf t).run P w = .ok n w ∧ (agg = false → n = 1) := by
  unfold aggOk at h
  split at h
  · rename_i hu
    simp only [Bool.and_eq_true, sizeIs, decide_eq_true_eq] at h
    obtain ⟨rfl, hn⟩ := h
    exact ⟨by simp [isAgg, run_underlying hu], run_sizeOf' w hn, by simp⟩
  · rename_i hu
    simp only [Bool.and_eq_true, sizeIs, decide_eq_true_eq] at h
    obtain ⟨rfl, hn⟩ := h
    exact ⟨by simp [isAgg, run_underlying hu], run_sizeOf' w hn, by simp⟩
  · rename_i d h1 h2 hu
    simp only [Bool.and_eq_true, sizeIs, decide_eq_true_eq, Bool.not_eq_true'] at h
    obtain ⟨⟨rfl, hn⟩, hs⟩ := h
    have hn := Nat.eq_of_beq_eq_true hn
    subst hn
    refine ⟨?_, run_sizeOf' w hs, fun _ => rfl⟩
    cases d <;> first | (simp [isAgg, run_underlying hu]; done) | exact (h1 _ rfl).elim | exact (h2 _ _ rfl).elim
  · cases h

/-- A part of a struct or an array. -/
theorem part_rel {φ : Phi} {t : TypeId} {agg : Bool} {off n : Nat} (ht : aggOk P t agg n = true) {as cs : List AVal} {vs : Array Value} (hr : VRels φ as vs.toList) (ho : ∀ u ∈ vs.toList, u.oneCell' = true)
    (h : rdL as off n = some cs) {r : AVal} (hf : fromCells agg cs = some r) : ∃ u, (part t vs off).run P w = .ok u w ∧ VRel φ r u := by
  obtain ⟨h1, h2, h3⟩ := run_aggOk w ht
  unfold rdL at h
  cases hb : Nat.ble (off + n) as.length with
  | false => rw [hb] at h; cases h
  | true =>
    rw [hb] at h
    cases h
    have hle := Nat.le_of_ble_eq_true hb
    have hl := VRels.length hr
    have hrd : VRels φ ((as.drop off).take n) ((vs.toList.drop off).take n) := VRels.take n (VRels.drop off hr)
    cases agg with
    | true =>
      simp only [fromCells, Option.some.injEq] at hf
      subst hf
      refine ⟨.agg (vs.extract off (off + n)), by simp [part, h1, h2], vrel_agg.2 ⟨_, rfl, ?_, ?_⟩⟩
      · rw [Array.toList_extract, List.extract_eq_take_drop, Nat.add_sub_cancel_left]
        exact hrd
      · rw [Array.toList_extract, List.extract_eq_take_drop]
        exact fun u hu => ho u (List.mem_of_mem_drop (List.mem_of_mem_take hu))
    | false =>
      have hn := h3 rfl
      subst hn
      have hlt : off < vs.size := by simp at hl; omega
      have he : (vs.toList.drop off).take 1 = [vs[off]] := by
        rw [List.drop_eq_getElem_cons (by simpa using hlt)]
        simp
      rw [he] at hrd
      have hlt' : off < as.length := by omega
      rw [List.drop_eq_getElem_cons hlt'] at hrd hf
      simp only [List.take_succ_cons, List.take_zero, fromCells, Option.some.injEq] at hrd hf
      subst hf
      simp only [VRels, and_true] at hrd
      exact ⟨vs[off], by simp [part, h1, hlt], hrd⟩

end
end Go.Fw

/- What each operation that only computes does in the model. -/
namespace Go.Fw
set_option linter.unusedSimpArgs false
set_option linter.unusedVariables false

section
variable {P : Program} (w : World)

theorem opds_rel {φ : Phi} {ev : AOpd → AVal} {ρ : Operand → Value} (hrel : ∀ x y, opdOk x y = true → VRel φ (ev y) (ρ x)) : ∀ {xs : List Operand} {ys : List AOpd}, opdsOk xs ys = true → VRels φ (ys.map ev) (xs.map ρ)
  | [], [], _ => by simp [VRels]
  | [], _ :: _, h => by simp [opdsOk] at h
  | _ :: _, [], h => by simp [opdsOk] at h
  | x :: xs, y :: ys, h => by
    simp only [opdsOk, Bool.and_eq_true] at h
    simp only [List.map_cons, VRels]
    exact ⟨hrel _ _ h.1, opds_rel hrel h.2⟩

theorem aBound_spec {x : Option AVal} {d m n : Nat} (h : aBound x d m = some n) : (x = none ∧ n = d) ∨ ∃ k i, x = some (.int k i) ∧ 0 ≤ i ∧ i ≤ m ∧ n = i.toNat := by
  unfold aBound at h
  split at h
  · cases h; exact .inl ⟨rfl, rfl⟩
  · split at h
    · rename_i hc; cases h; exact .inr ⟨_, _, rfl, hc.1, hc.2, rfl⟩
    · cases h
  · cases h

theorem optOk_spec {φ : Phi} {ev : AOpd → AVal} {ρ : Operand → Value} (hrel : ∀ x y, opdOk x y = true → VRel φ (ev y) (ρ x)) {x : Option Operand} {y : Option AOpd} (h : optOk x y = true) :
    (x.map ρ = none ∧ y.map ev = none) ∨ ∃ v a, x.map ρ = some v ∧ y.map ev = some a ∧ VRel φ a v := by
  unfold optOk at h
  split at h
  · exact .inl ⟨rfl, rfl⟩
  · exact .inr ⟨_, _, rfl, rfl, hrel _ _ h⟩
  · cases h

/-- The bounds of a slice expression. -/
theorem bounds_rel {φ : Phi} {lo hi mx : Option Value} {alo ahi amx : Option AVal} {len cap m h l : Nat} {c : Nat} (isSl : Bool)
    (hlo : (lo = none ∧ alo = none) ∨ ∃ v a, lo = some v ∧ alo = some a ∧ VRel φ a v)
    (hhi : (hi = none ∧ ahi = none) ∨ ∃ v a, hi = some v ∧ ahi = some a ∧ VRel φ a v)
    (hmx : (mx = none ∧ amx = none) ∨ ∃ v a, mx = some v ∧ amx = some a ∧ VRel φ a v)
    (hmh : mx = none ∨ hi ≠ none) (hc : cap ≤ c) (hlen : len ≤ cap)
    (e1 : aBound amx cap cap = some m) (e2 : aBound ahi len m = some h) (e3 : aBound alo 0 h = some l) :
    ∃ M, (Instr.sliceBounds isSl len c lo hi mx).run P w = .ok (l, h, M) w ∧ m ≤ M ∧ M ≤ c ∧ (mx = none → M = c) ∧ (mx ≠ none → M = m) ∧ l ≤ h ∧ h ≤ m ∧ m ≤ cap := by
  have hm : m ≤ cap ∧ ∃ M, (match mx with
    | some v => Instr.sliceBound v c (if isSl = true then .slice3Acap else .slice3Alen)
    | none => (pure c : Sem Nat)).run P w = .ok M w ∧ m ≤ M ∧ M ≤ c ∧ (mx = none → M = c) ∧ (mx ≠ none → M = m) := by
    rcases hmx with ⟨rfl, rfl⟩ | ⟨v, a, rfl, rfl, hv⟩
    · rcases aBound_spec e1 with ⟨_, rfl⟩ | ⟨_, _, e, _⟩
      · exact ⟨Nat.le_refl _, c, rfl, hc, Nat.le_refl _, by simp, by simp⟩
      · cases e
    · rcases aBound_spec e1 with ⟨e, _⟩ | ⟨k, i, e, h0, h1, rfl⟩
      · cases e
      · cases e
        rw [vrel_int.1 hv]
        exact ⟨by omega, i.toNat, run_sliceBound w k i c _ h0 (by omega), Nat.le_refl _, by omega, by simp, by simp⟩
  obtain ⟨hmc, M, hM, hmM, hMc, hM1, hM2⟩ := hm
  have hh : h ≤ m ∧ (match hi, mx with
    | some v, some _ => Instr.sliceBound v M .slice3B
    | some v, none => Instr.sliceBound v M (if isSl = true then .sliceAcap else .sliceAlen)
    | none, none => pure len
    | none, some _ => stuck "Slice: max without high").run P w = .ok h w := by
    rcases hhi with ⟨rfl, rfl⟩ | ⟨v, a, rfl, rfl, hv⟩
    · rcases aBound_spec e2 with ⟨_, rfl⟩ | ⟨_, _, e, _⟩
      · rcases hmh with rfl | hmh
        · rcases hmx with ⟨_, rfl⟩ | ⟨v, a, e, _⟩
          · rcases aBound_spec e1 with ⟨_, rfl⟩ | ⟨_, _, e, _⟩
            · exact ⟨hlen, rfl⟩
            · cases e
          · cases e
        · exact absurd rfl hmh
      · cases e
    · rcases aBound_spec e2 with ⟨e, _⟩ | ⟨k, i, e, h0, h1, rfl⟩
      · cases e
      · cases e
        rw [vrel_int.1 hv]
        refine ⟨by omega, ?_⟩
        cases mx
        · exact run_sliceBound w k i M _ h0 (by omega)
        · exact run_sliceBound w k i M _ h0 (by omega)
  have hl : l ≤ h ∧ (match lo with
    | some v => Instr.sliceBound v h (if mx.isSome = true then .slice3C else .sliceB)
    | none => (pure 0 : Sem Nat)).run P w = .ok l w := by
    rcases hlo with ⟨rfl, rfl⟩ | ⟨v, a, rfl, rfl, hv⟩
    · rcases aBound_spec e3 with ⟨_, rfl⟩ | ⟨_, _, e, _⟩
      · exact ⟨Nat.zero_le _, rfl⟩
      · cases e
    · rcases aBound_spec e3 with ⟨e, _⟩ | ⟨k, i, e, h0, h1, rfl⟩
      · cases e
      · cases e
        rw [vrel_int.1 hv]
        exact ⟨by omega, run_sliceBound w k i h _ h0 (by omega)⟩
  refine ⟨M, ?_, hmM, hMc, hM1, hM2, hl.1, hh.1, hmc⟩
  have hh := hh.2
  have hl := hl.2
  clear hM1 hM2 hlo hhi hmx hmh
  unfold Instr.sliceBounds
  cases mx <;> cases hi <;> cases lo <;> simp only [] at hM hh hl ⊢ <;>
    (first
      | (simp only [Sem.run_bind, hM, hh, hl, Result.andThen_ok]; rfl)
      | (simp only [Sem.run_pure, Result.ok.injEq, and_true] at hM; subst hM; simp only [Sem.run_bind, Sem.run_pure, hh, hl, Result.andThen_ok]; rfl)
      | (simp only [Sem.run_bind, Sem.run_pure, hM, hh, hl, Result.andThen_ok]; simp_all; done)
      | (simp_all; done))

theorem aIdx_spec {len : Nat} {i : AVal} {j : Nat} (h : aIdx len i = some j) : ∃ k n, i = .int k n ∧ 0 ≤ n ∧ n < len ∧ j = n.toNat := by
  unfold aIdx at h
  split at h
  · split at h
    · rename_i hc; cases h; exact ⟨_, _, rfl, hc.1, hc.2, rfl⟩
    · cases h
  · cases h

theorem addr_add (b off n : Nat) : (⟨b, off, none⟩ : Addr).add n = ⟨b, off + n, none⟩ := by
  unfold Addr.add
  split <;> simp_all

theorem minmax_rel {φ : Phi} (mx : Bool) : ∀ (as : List AVal) (vs : List Value) (a : AVal) (v : Value) (r : AVal), VRel φ a v → VRels φ as vs → aMinMax mx a as = some r →
    ∃ u, (vs.foldlM (if mx then Builtin.max2 else Builtin.min2) v).run P w = .ok u w ∧ VRel φ r u
  | [], [], a, v, r, ha, _, h => by
    simp only [aMinMax, Option.some.injEq] at h
    subst h
    exact ⟨v, by simp, ha⟩
  | [], _ :: _, _, _, _, _, hr, _ => by simp [VRels] at hr
  | _ :: _, [], _, _, _, _, hr, _ => by simp [VRels] at hr
  | b :: as, u :: vs, a, v, r, ha, hr, h => by
    simp only [VRels] at hr
    simp only [aMinMax, Option.bind_eq_some_iff] at h
    obtain ⟨q, hq, h⟩ := h
    cases mx with
    | true =>
      simp only [cond_true] at hq
      unfold aMax2 at hq
      split at hq
      · rename_i k x j y
        split at hq
        · rename_i hk
          subst hk
          cases hq
          have h1 := vrel_int.1 ha
          have h2 := vrel_int.1 hr.1
          subst h1; subst h2
          obtain ⟨z, hz, hzr⟩ := minmax_rel true as vs _ (.int k (if y > x then y else x)) r (vrel_int.2 rfl) hr.2 h
          refine ⟨z, ?_, hzr⟩
          simp only [List.foldlM_cons, Sem.run_bind, if_true] at hz ⊢
          rw [show Builtin.max2 (.int k x) (.int k y) = pure (.int k (if y > x then y else x)) from rfl]
          simpa using hz
        · cases hq
      · cases hq
    | false =>
      simp only [cond_false] at hq
      unfold aMin2 at hq
      split at hq
      · rename_i k x j y
        split at hq
        · rename_i hk
          subst hk
          cases hq
          have h1 := vrel_int.1 ha
          have h2 := vrel_int.1 hr.1
          subst h1; subst h2
          obtain ⟨z, hz, hzr⟩ := minmax_rel false as vs _ (.int k (if y < x then y else x)) r (vrel_int.2 rfl) hr.2 h
          refine ⟨z, ?_, hzr⟩
          simp only [List.foldlM_cons, Sem.run_bind, Bool.false_eq_true, if_false] at hz ⊢
          rw [show Builtin.min2 (.int k x) (.int k y) = pure (.int k (if y < x then y else x)) from rfl]
          simpa using hz
        · cases hq
      · cases hq

end
end Go.Fw

/- The operations that only compute, all together. -/
namespace Go.Fw
set_option linter.unusedSimpArgs false
set_option linter.unusedVariables false

section
variable {P : Program} (w : World)

theorem parts_rel {φ : Phi} {ev : AOpd → AVal} {ρ : Operand → Value} (hrel : ∀ x y, opdOk x y = true → VRel φ (ev y) (ρ x)) (place : Nat → Option (Nat × Nat)) :
    ∀ (ps : List (Nat × Operand)) (as : List (Nat × Nat × AOpd)), partsOk place ps as = true →
      as.length = ps.length ∧ ∀ (j : Nat) i v off n x, (ps.map fun p => (p.1, ρ p.2))[j]? = some (i, v) → (as.map fun p => (p.1, p.2.1, ev p.2.2))[j]? = some (off, n, x) → place i = some (off, n) ∧ VRel φ x v
  | [], [], _ => ⟨rfl, by simp⟩
  | [], _ :: _, h => by simp [partsOk] at h
  | _ :: _, [], h => by simp [partsOk] at h
  | (i, x) :: ps, (off, n, y) :: as, h => by
    simp only [partsOk, Bool.and_eq_true, decide_eq_true_eq] at h
    obtain ⟨⟨h1, h2⟩, h3⟩ := h
    obtain ⟨hl, hr⟩ := parts_rel hrel place ps as h3
    refine ⟨by simp [hl], ?_⟩
    intro j i' v off' n' x' e1 e2
    cases j with
    | zero =>
      simp only [List.map_cons, List.getElem?_cons_zero, Option.some.injEq, Prod.mk.injEq] at e1 e2
      obtain ⟨rfl, rfl⟩ := e1
      obtain ⟨rfl, rfl, rfl⟩ := e2
      exact ⟨h1, hrel _ _ h2⟩
    | succ j => exact hr j i' v off' n' x' (by simpa using e1) (by simpa using e2)

theorem zero_rel {t : TypeId} {zero : List AVal} (h : zeroOk P t zero = true) (φ : Phi) : ∃ z, (zeroValue t).run P w = .ok z w ∧ VRels φ zero z.cells.toList ∧ ∀ u ∈ z.cells.toList, u.oneCell' = true := by
  unfold zeroOk at h
  split at h
  · rename_i z hz
    cases hi : P.info? t with
    | none => rw [hi] at hz; cases hz
    | some i =>
      rw [hi] at hz
      simp only [Option.bind_some] at hz
      refine ⟨z, ?_, constsOk_rel h φ⟩
      simp [zeroValue, run_typeInfo w hi, hz]
  · cases h

theorem build_rel {φ : Phi} {ev : AOpd → AVal} {ρ : Operand → Value} (hrel : ∀ x y, opdOk x y = true → VRel φ (ev y) (ρ x)) {t : TypeId} {parts : Array (Nat × Operand)} {zero : List AVal} {as : List (Nat × Nat × AOpd)}
    (hz : zeroOk P t zero = true) (hb : buildOk P t parts.toList as = true) {out : List AVal} (h : aFill zero (as.map fun p => (p.1, p.2.1, ev p.2.2)) = some out) :
    ∃ u, (Instr.build t (parts.map fun (i, x) => (i, ρ x))).run P w = .ok u w ∧ VRel φ (.agg out) u := by
  obtain ⟨z, hz1, hz2, hz3⟩ := zero_rel w hz φ
  have hmap : (parts.map fun (i, x) => (i, ρ x)).toList = parts.toList.map fun p => (p.1, ρ p.2) := by simp
  unfold buildOk at hb
  split at hb
  · rename_i fs hu
    simp only [Bool.and_eq_true, List.all_eq_true] at hb
    obtain ⟨hl, hp⟩ := parts_rel hrel _ _ _ hb.2
    obtain ⟨o, ho1, ho2, ho3⟩ := fill_rel (φ := φ) _ (parts.toList.map fun p => (p.1, ρ p.2)) _ zero z.cells out (by simpa using hl) hp hz2 hz3 h
    refine ⟨.agg o, ?_, vrel_agg.2 ⟨o, rfl, ho2, ho3⟩⟩
    have hmp := mapM_places w fs.toList hb.1
    have hm2 : (fs.mapM (fun f => (do pure (f.offset, ← sizeOf f.type) : Sem (Nat × Nat)))).run P w = .ok (fs.map fun f => (f.offset, P.cellsOf f.type)) w := by
      rw [Array.mapM_eq_mapM_toList]
      simp only [Sem.run_map, hmp, Result.andThen_ok]
      congr 1
      apply Array.ext'
      simp
    simp only [Instr.build, Sem.run_bind, hz1, Result.andThen_ok, run_underlying hu, hm2]
    have hpl : (fun x : Nat => (fs.map fun f => (f.offset, P.cellsOf f.type))[x]?) = fun i => (fs.toList[i]?).map fun f => (f.offset, P.cellsOf f.type) := by
      funext i; simp
    rw [hmap, hpl, ho1]
    rfl
  · rename_i n e hu
    simp only [Bool.and_eq_true] at hb
    obtain ⟨hl, hp⟩ := parts_rel hrel _ _ _ hb.2
    obtain ⟨o, ho1, ho2, ho3⟩ := fill_rel (φ := φ) _ (parts.toList.map fun p => (p.1, ρ p.2)) _ zero z.cells out (by simpa using hl) hp hz2 hz3 h
    refine ⟨.agg o, ?_, vrel_agg.2 ⟨o, rfl, ho2, ho3⟩⟩
    cases hi : P.info? e with
    | none => rw [hi] at hb; simp at hb
    | some i =>
      simp only [Instr.build, Sem.run_bind, hz1, Result.andThen_ok, run_underlying hu, run_sizeOf w hi, hmap, ho1]
      rfl
  · cases hb

theorem lookT_mem : ∀ {tbl : List (Nat × Bool)} {t : Nat} {b : Bool}, lookT tbl t = some b → (t, b) ∈ tbl
  | [], _, _, h => by cases h
  | (u, c) :: r, t, b, h => by
    simp only [lookT] at h
    cases hu : Nat.beq u t with
    | true =>
      rw [hu] at h
      cases h
      rw [Nat.eq_of_beq_eq_true hu]
      exact List.mem_cons_self
    | false =>
      rw [hu] at h
      exact List.mem_cons_of_mem _ (lookT_mem h)

theorem assert_rel {P : Program} {φ : Phi} (w : World) {t : TypeId} {tbl : List (Nat × Bool)} (hok : assertOk P t tbl = true) {x r : AVal} {v : Value} (hx : VRel φ x v) (h : aAssert tbl x = some r) (xT : TypeId) :
    ∃ u, (Instr.typeAssert v xT t true).run P w = .ok u w ∧ VRel φ r u := by
  unfold assertOk at hok
  split at hok
  · rename_i want i hu hi
    simp only [Bool.and_eq_true] at hok
    obtain ⟨hz, hall⟩ := hok
    have hz' : i.zero = some .nilIface := by
      split at hz
      · assumption
      · cases hz
    have hno : VRel φ (.tuple [.nilIface, .bool false]) (.tuple #[.nilIface, .bool false]) := vrel_tuple.2 ⟨_, rfl, by simp [VRels, VRel]⟩
    unfold aAssert at h
    split at h
    · rename_i dt y
      obtain ⟨z, rfl, hz2⟩ := vrel_iface.1 hx
      cases hl : lookT tbl dt with
      | none => rw [hl] at h; cases h
      | some b =>
        have hm := List.all_eq_true.1 hall _ (lookT_mem hl)
        simp only at hm
        split at hm
        · rename_i j hj
          rw [hl] at h
          cases b with
          | true =>
            cases h
            refine ⟨_, run_typeAssert_has hu hj (by simpa using hm), vrel_tuple.2 ⟨_, rfl, ?_⟩⟩
            simp only [VRels, and_true]
            exact ⟨vrel_iface.2 ⟨_, rfl, hz2⟩, by simp [VRel]⟩
          | false =>
            cases h
            exact ⟨_, run_typeAssert_lacks hu hj hi hz' (by simpa using hm), hno⟩
        · cases hm
    · cases h
      rw [vrel_nilIface] at hx
      subst hx
      exact ⟨_, by simp [Instr.typeAssert, run_underlying hu, typeInfo, zeroValue, hi, hz'], hno⟩
    · cases h
  · cases hok

theorem pure_exec {o : Oper} {ao : AOp} (hchk : chkOp P o.op ao = true) {ev : AOpd → AVal} {ρ : Operand → Value} {φ : Phi} (hrel : ∀ x y, opdOk x y = true → VRel φ (ev y) (ρ x)) {r : AVal}
    (h : pureOp ao ev = some r) : ∃ u, (execOp ρ o).run P w = .ok (.value u) w ∧ VRel φ r u := by
  obtain ⟨dst, op, type, pos, after, guard⟩ := o
  simp only at hchk
  unfold chkOp at hchk
  split at hchk
  -- move, assign
  · simp only [pureOp, Option.some.injEq] at h
    subst h
    exact ⟨_, rfl, hrel _ _ hchk⟩
  · simp only [pureOp, Option.some.injEq] at h
    subst h
    exact ⟨_, rfl, hrel _ _ hchk⟩
  -- pick
  · rename_i c a b d c' a' b'
    simp only [Bool.and_eq_true] at hchk
    simp only [pureOp] at h
    unfold aPick at h
    split at h
    · rename_i t ht
      cases h
      have hc := hrel _ _ hchk.1.1
      rw [ht, vrel_bool] at hc
      refine ⟨if t then ρ a else ρ b, by simp [execOp, hc, asBool], ?_⟩
      cases t
      · exact hrel _ _ hchk.2
      · exact hrel _ _ hchk.1.2
    · cases h
  -- binOp
  · rename_i op t x y _ d op' tag x' y'
    simp only [Bool.and_eq_true, decide_eq_true_eq] at hchk
    obtain ⟨⟨⟨rfl, h2⟩, h3⟩, h4⟩ := hchk
    obtain ⟨z, hz, hr⟩ := run_bin w h2 h (hrel _ _ h3) (hrel _ _ h4)
    refine ⟨z, ?_, hr⟩
    show ((do eqGuard op t x y (ρ x) (ρ y); binOp op t (ρ x) (ρ y) : Sem Value) >>= fun v => pure (Next.value v)).run P w = _
    rw [Sem.run_bind, hz]
    rfl
  -- unOp
  · rename_i op t x d op' y
    simp only [Bool.and_eq_true, decide_eq_true_eq] at hchk
    obtain ⟨rfl, h2⟩ := hchk
    have hx := hrel _ _ h2
    simp only [pureOp] at h
    unfold aUn at h
    split at h
    · rename_i k n hn
      cases h
      rw [hn, vrel_int] at hx
      exact ⟨_, by simp [execOp, hx, Op.unary, Op.intArith]; rfl, vrel_int.2 (by simp)⟩
    · rename_i k n hn
      cases h
      rw [hn, vrel_int] at hx
      refine ⟨_, ?_, vrel_int.2 rfl⟩
      simp only [execOp, hx, Op.unary, Op.intBits]
      rfl
    · rename_i b hb
      cases h
      rw [hb, vrel_bool] at hx
      exact ⟨_, by simp [execOp, hx, Op.unary], vrel_bool.2 rfl⟩
    · cases h
  -- convert
  · rename_i src dst' x d c y
    simp only [Bool.and_eq_true] at hchk
    have hx := hrel _ _ hchk.1
    have hc := hchk.2
    cases c with
    | toInt k =>
      simp only [pureOp] at h
      split at h
      · rename_i j n hn
        cases h
        rw [hn, vrel_int] at hx
        simp only [convOk] at hc
        split at hc
        · rename_i u v hu hv
          simp only [decide_eq_true_eq] at hc
          subst hc
          refine ⟨_, ?_, vrel_int.2 rfl⟩
          cases u <;> simp [execOp, hx, convert, run_underlying hu, run_underlying hv, Conv.intToInt]
        · cases hc
      · cases h
    | strStr =>
      simp only [pureOp] at h
      split at h
      · rename_i l hl
        cases h
        rw [hl, vrel_str] at hx
        simp only [convOk] at hc
        split at hc
        · rename_i u hu hv
          refine ⟨_, ?_, vrel_str.2 rfl⟩
          cases u <;> simp [execOp, hx, convert, run_underlying hu, run_underlying hv]
        · cases hc
      · cases h
    | strBytes => simp [pureOp] at h
    | bytesStr => simp [pureOp] at h
    | slBytes => simp [pureOp] at h
    | intStr =>
      simp only [pureOp] at h
      split at h
      · rename_i k n hn
        cases h
        rw [hn, vrel_int] at hx
        simp only [convOk] at hc
        split at hc
        · rename_i j hu hv
          refine ⟨_, ?_, vrel_str.2 rfl⟩
          simp [execOp, hx, convert, run_underlying hu, run_underlying hv, Conv.intToString]
        · cases hc
      · cases h
  -- box, alloc
  · cases h
  · cases h
  -- build
  · rename_i t parts d zero as
    simp only [Bool.and_eq_true] at hchk
    simp only [pureOp, Option.bind_eq_some_iff, Option.some.injEq] at h
    obtain ⟨cs, hcs, rfl⟩ := h
    obtain ⟨u, hu, hr⟩ := build_rel w hrel hchk.1 hchk.2 hcs
    exact ⟨u, by simp only [execOp, Sem.run_bind, hu]; rfl, hr⟩
  -- buildSlice, load, store
  · cases h
  · cases h
  · cases h
  -- nilCheck
  · rename_i x d y
    have hx := hrel _ _ hchk
    simp only [pureOp] at h
    unfold aNilchk at h
    split at h
    · rename_i b off hb
      cases h
      rw [hb] at hx
      obtain ⟨L, e, hv⟩ := vrel_ptr.1 hx
      exact ⟨_, by simp [execOp, hv], vrel_ptr.2 ⟨L, e, rfl⟩⟩
    · rename_i f c hb
      cases h
      rw [hb] at hx
      obtain ⟨cs, hv, hr⟩ := vrel_func.1 hx
      exact ⟨_, by simp [execOp, hv], vrel_func.2 ⟨cs, rfl, hr⟩⟩
    · rename_i t v hb
      cases h
      rw [hb] at hx
      obtain ⟨y', hv, hr⟩ := vrel_iface.1 hx
      exact ⟨_, by simp [execOp, hv], vrel_iface.2 ⟨y', rfl, hr⟩⟩
    · cases h
  -- field
  · rename_i t x f d agg off n y
    simp only [Bool.and_eq_true] at hchk
    have hx := hrel _ _ hchk.1
    have hc := hchk.2
    simp only [pureOp, Option.bind_eq_some_iff] at h
    obtain ⟨cs, h1, h2⟩ := h
    unfold aField at h1
    split at h1
    · rename_i as ha
      rw [ha] at hx
      obtain ⟨vs, hv, hr, ho⟩ := vrel_agg.1 hx
      split at hc
      · rename_i fs hu
        split at hc
        · rename_i fl hfl
          simp only [Bool.and_eq_true] at hc
          have e := Nat.eq_of_beq_eq_true hc.1
          subst e
          obtain ⟨u, hu1, hu2⟩ := part_rel w hc.2 hr ho h1 h2
          exact ⟨u, by simp [execOp, hv, Instr.field, run_underlying hu, hfl, asAgg, hu1], hu2⟩
        · cases hc
      · cases hc
    · cases h1
  -- fieldAddr
  · rename_i t x f d off y
    simp only [Bool.and_eq_true] at hchk
    have hx := hrel _ _ hchk.1
    have hc := hchk.2
    simp only [pureOp] at h
    unfold aFaddr at h
    split at h
    · rename_i b o hb
      cases h
      rw [hb] at hx
      obtain ⟨L, e, hv⟩ := vrel_ptr.1 hx
      split at hc
      · rename_i fs hu
        split at hc
        · rename_i fl hfl
          simp only [Bool.and_eq_true] at hc
          have e' := Nat.eq_of_beq_eq_true hc.1
          subst e'
          have hc2 := hc.2
          split at hc2
          · rename_i sz hsz
            have hs := run_sizeOf' w (n := sz + 1) hsz
            refine ⟨_, by simp [execOp, hv, Instr.fieldAt, run_underlying hu, hfl, Instr.sureAddr, fieldPlace, hs, addr_add]; rfl, vrel_ptr.2 ⟨L, e, by rw [Nat.add_assoc]⟩⟩
          · cases hc2
        · cases hc
      · cases hc
    · cases h
  -- indexAddr
  · rename_i t x i d arr es y j
    simp only [Bool.and_eq_true] at hchk
    have hx := hrel _ _ hchk.1.1
    have hi := hrel _ _ hchk.1.2
    have hc := hchk.2
    unfold iaddrOk at hc
    split at hc
    · rename_i len e len' hu
      simp only [Bool.and_eq_true, sizeIs, decide_eq_true_eq] at hc
      have e' := Nat.eq_of_beq_eq_true hc.1
      subst e'
      simp only [pureOp] at h
      unfold aIaddrA at h
      split at h
      · rename_i b o hb
        simp only [Option.bind_eq_some_iff, Option.some.injEq] at h
        obtain ⟨q, hq, rfl⟩ := h
        obtain ⟨k, n, hn, h0, h1, rfl⟩ := aIdx_spec hq
        rw [hb] at hx
        rw [hn, vrel_int] at hi
        obtain ⟨L, e2, hv⟩ := vrel_ptr.1 hx
        have hs := run_sizeOf' w hc.2
        refine ⟨.pointer (some ⟨L.blk, L.base + o + n.toNat * es, none⟩), ?_, vrel_ptr.2 ⟨L, e2, by rw [Nat.add_assoc]⟩⟩
        simp [execOp, hv, hi, Instr.indexAt, asIntOf, run_underlying hu, Instr.sureAddr, h0, h1, hs, addr_add]
      · cases h
    · rename_i e hu
      simp only [sizeIs, decide_eq_true_eq] at hc
      simp only [pureOp] at h
      unfold aIaddr at h
      split at h
      · rename_i b off len cap es' ex hb
        cases hbe : Nat.beq es es' with
        | false => rw [hbe] at h; cases h
        | true =>
          have := Nat.eq_of_beq_eq_true hbe
          subst this
          rw [hbe] at h
          simp only [cond_true, Option.bind_eq_some_iff, Option.some.injEq] at h
          obtain ⟨q, hq, rfl⟩ := h
          obtain ⟨k, n, hn, h0, h1, rfl⟩ := aIdx_spec hq
          rw [hb] at hx
          rw [hn, vrel_int] at hi
          obtain ⟨L, a, c, e2, hv, hl1, hl2, hex, hpos⟩ := vrel_slice.1 hx
          have hs := run_sizeOf' w hc
          obtain ⟨ha, _⟩ := hpos (by omega)
          refine ⟨.pointer (some ⟨L.blk, L.base + off + n.toNat * es, none⟩), ?_, vrel_ptr.2 ⟨L, e2, by rw [Nat.add_assoc]⟩⟩
          simp [execOp, hv, hi, Instr.indexAt, asIntOf, run_underlying hu, h0, h1, hs, ha, addr_add]
      · cases h
    · cases hc
  -- index
  · rename_i t x i d k y j
    simp only [Bool.and_eq_true] at hchk
    have hx := hrel _ _ hchk.1.1
    have hi := hrel _ _ hchk.1.2
    have hc := hchk.2
    split at hc
    · rename_i len e len' es agg hu
      simp only [Bool.and_eq_true, sizeIs, decide_eq_true_eq] at hc
      have e' := Nat.eq_of_beq_eq_true hc.1.1
      subst e'
      simp only [pureOp, Option.bind_eq_some_iff] at h
      obtain ⟨cs, h1, h2⟩ := h
      unfold aIndexArr at h1
      split at h1
      · rename_i as ha
        simp only [Option.bind_eq_some_iff] at h1
        obtain ⟨q, hq, h1⟩ := h1
        obtain ⟨k, n, hn, h0, hlt, rfl⟩ := aIdx_spec hq
        rw [ha] at hx
        rw [hn, vrel_int] at hi
        obtain ⟨vs, hv, hr, ho⟩ := vrel_agg.1 hx
        obtain ⟨u, hu1, hu2⟩ := part_rel w hc.2 hr ho h1 h2
        have hs := run_sizeOf' w hc.1.2
        exact ⟨u, by simp [execOp, hv, hi, Instr.index, asIntOf, run_underlying hu, h0, hlt, hs, hu1], hu2⟩
      · cases h1
    · rename_i hu
      simp only [pureOp] at h
      unfold aIndexStr at h
      split at h
      · rename_i l hl
        simp only [Option.bind_eq_some_iff, Option.some.injEq] at h
        obtain ⟨q, hq, rfl⟩ := h
        obtain ⟨k, n, hn, h0, hlt, rfl⟩ := aIdx_spec hq
        rw [hl, vrel_str] at hx
        rw [hn, vrel_int] at hi
        refine ⟨_, ?_, vrel_int.2 rfl⟩
        have hlt' : n.toNat < l.length := by omega
        have hget : (ByteArray.mk l.toArray)[n.toNat]? = some (l.getD n.toNat 0) := by
          rw [getElem?_pos (ByteArray.mk l.toArray) n.toNat (show n.toNat < l.toArray.size by simpa using hlt')]
          rw [List.getD_eq_getElem?_getD, List.getElem?_eq_getElem hlt']
          rfl
        simp only [execOp, hx, hi, Instr.index, asIntOf, Sem.run_bind, Sem.run_pure, Result.andThen_ok, run_underlying hu, h0, if_true, hget]
      · cases h
    · cases hc
  -- slice
  · rename_i t x lo hi mx d k y lo' hi' mx'
    simp only [Bool.and_eq_true] at hchk
    obtain ⟨⟨⟨⟨hx, hlo⟩, hhi⟩, hmx⟩, hc⟩ := hchk
    have hx := hrel _ _ hx
    have slo := optOk_spec hrel hlo
    have shi := optOk_spec hrel hhi
    have smx := optOk_spec hrel hmx
    split at hc
    · rename_i hu
      have hmn : mx = none := by simpa using hc
      subst hmn
      simp only [pureOp] at h
      unfold aSliceStr at h
      split at h
      · rename_i l hl
        simp only [Option.bind_eq_some_iff, Option.some.injEq] at h
        obtain ⟨hh, e2, ll, e3, rfl⟩ := h
        rw [hl, vrel_str] at hx
        obtain ⟨M, hM, _, _, _, _, hlh, hhm, _⟩ := bounds_rel (P := P) w (φ := φ) (mx := none) (amx := none) (len := l.length) (cap := l.length) (m := l.length) (c := l.length) false slo shi (.inl ⟨rfl, rfl⟩) (.inl rfl) (Nat.le_refl _) (Nat.le_refl _) rfl e2 e3
        refine ⟨_, ?_, vrel_str.2 rfl⟩
        have hsz : (ByteArray.mk l.toArray).size = l.length := by show l.toArray.size = _; simp
        simp only [execOp, hx, Instr.sliceAt, Sem.run_bind, run_underlying hu, Result.andThen_ok, Instr.slice, Option.map_none, Option.isSome_none, Bool.false_eq_true, if_false, hsz, Sem.run_pure, hM]
        rw [ByteArray.extract_mk]
        simp [List.drop_take]
      · cases h
    · rename_i e es hu
      simp only [Bool.and_eq_true, sizeIs, decide_eq_true_eq, Bool.or_eq_true] at hc
      have hs := run_sizeOf' w hc.1
      have hmh : Option.map ρ mx = none ∨ Option.map ρ hi ≠ none := by
        rcases hc.2 with hm | hm
        · left; simp at hm; simp [hm]
        · right; cases hi <;> simp_all
      simp only [pureOp] at h
      unfold aSliceSl at h
      split at h
      · rename_i b off len cap es' ex hb
        cases hbe : Nat.beq es es' with
        | false => rw [hbe] at h; cases h
        | true =>
          have := Nat.eq_of_beq_eq_true hbe
          subst this
          rw [hbe] at h
          simp only [cond_true, Option.bind_eq_some_iff, Option.some.injEq] at h
          obtain ⟨m, e1, hh, e2, ll, e3, rfl⟩ := h
          rw [hb] at hx
          obtain ⟨L, a, c, e4, hv, hl1, hl2, hex, hpos⟩ := vrel_slice.1 hx
          obtain ⟨M, hM, hmM, hMc, hMn, hMs, hlh, hhm, hmc⟩ := bounds_rel (P := P) w (φ := φ) true slo shi smx hmh hl2 hl1 e1 e2 e3
          refine ⟨.slice (if M = ll then some a else some (a.add (ll * es))) (hh - ll) (M - ll), ?_, ?_⟩
          · simp [execOp, hv, Instr.sliceAt, run_underlying hu, Instr.slice, hM, hs]
          · have hsel : (if M = ll then some a else some (a.add (ll * es))) = some (if M = ll then a else a.add (ll * es)) := by split <;> rfl
            rw [hsel]
            refine vrel_slice.2 ⟨L, _, _, e4, rfl, by omega, by omega, ?_, ?_⟩
            · intro hor
              simp only [Bool.or_eq_true] at hor
              rcases hor with hor | hor
              · have hcc := hex hor
                cases hmx' : Option.map ρ mx with
                | none =>
                  rcases smx with ⟨_, hm2⟩ | ⟨_, _, hm1, _⟩
                  · rw [hm2] at e1
                    simp only [aBound, Option.some.injEq] at e1
                    have := hMn hmx'
                    omega
                  · rw [hm1] at hmx'; cases hmx'
                | some v =>
                  have := hMs (by rw [hmx']; simp)
                  omega
              · rcases smx with ⟨_, hm2⟩ | ⟨_, _, hm1, hm2, _⟩
                · rw [hm2] at hor; simp at hor
                · have := hMs (by rw [hm1]; simp)
                  omega
            · intro hp
              have hne : ¬ M = ll := by omega
              rw [if_neg hne]
              obtain ⟨ha, hb2⟩ := hpos (by omega)
              rw [ha, addr_add]
              refine ⟨by rw [Nat.add_assoc], ?_⟩
              have : ll * es + (M - ll) * es ≤ c * es := by rw [← Nat.add_mul]; exact Nat.mul_le_mul_right _ (by omega)
              omega
      · rename_i hb
        simp only [Option.bind_eq_some_iff, Option.some.injEq] at h
        obtain ⟨m, e1, hh, e2, ll, e3, rfl⟩ := h
        rw [hb, vrel_nilSlice] at hx
        obtain ⟨M, hM, hmM, hMc, hMn, hMs, hlh, hhm, hmc⟩ := bounds_rel (P := P) w (φ := φ) (c := 0) true slo shi smx hmh (Nat.le_refl _) (Nat.le_refl _) e1 e2 e3
        have h1 : M = 0 := by omega
        have h2 : hh = 0 := by omega
        have h3 : ll = 0 := by omega
        subst h1; subst h2; subst h3
        refine ⟨_, ?_, vrel_nilSlice.2 rfl⟩
        simp only [execOp, hx, Instr.sliceAt, Sem.run_bind, run_underlying hu, Result.andThen_ok, Instr.slice]
        rw [hM]
        simp [hs]
      · cases h
    · rename_i n e n' es hu
      simp only [Bool.and_eq_true, sizeIs, decide_eq_true_eq, Bool.or_eq_true] at hc
      have e' := Nat.eq_of_beq_eq_true hc.1.1
      subst e'
      simp [pureOp, aSliceArr] at h
    · cases hc
  -- makeSlice
  · cases h
  -- makeInterface
  · rename_i t x d t' y
    simp only [Bool.and_eq_true] at hchk
    have e := Nat.eq_of_beq_eq_true hchk.1.1
    subst e
    simp only [pureOp, Option.some.injEq] at h
    subst h
    exact ⟨_, by simp [execOp, run_makeInterface w t (ρ x) hchk.2], vrel_iface.2 ⟨_, rfl, hrel _ _ hchk.1.2⟩⟩
  -- extract
  · rename_i x i d y i'
    simp only [Bool.and_eq_true] at hchk
    have e := Nat.eq_of_beq_eq_true hchk.1
    subst e
    have hx := hrel _ _ hchk.2
    simp only [pureOp] at h
    unfold aExtract at h
    split at h
    · rename_i vs hv
      rw [hv] at hx
      obtain ⟨us, hu, hr⟩ := vrel_tuple.1 hx
      obtain ⟨u, hu1, hu2⟩ := VRels.get hr _ _ h
      refine ⟨u, ?_, hu2⟩
      have : us[i]? = some u := by simpa using hu1
      simp [execOp, hu, Instr.extract, this]
    · cases h
  -- typeAssert
  · rename_i x xT t c d tbl y
    simp only [Bool.and_eq_true] at hchk
    obtain ⟨⟨rfl, hx⟩, hok⟩ := hchk
    have hr := hrel _ _ hx
    simp only [pureOp] at h
    obtain ⟨u, hu, hur⟩ := assert_rel (P := P) w hok hr h xT
    exact ⟨u, by simp [execOp, hu], hur⟩
  -- makeFunc
  · rename_i f first caps d f' caps'
    simp only [Bool.and_eq_true, Array.isEmpty_iff] at hchk
    obtain ⟨⟨e, e2⟩, e3⟩ := hchk
    have e := Nat.eq_of_beq_eq_true e
    subst e; subst e2
    simp only [pureOp, Option.some.injEq] at h
    subst h
    refine ⟨.func (.func f) #[] (caps.map ρ), by simp [execOp, Instr.makeFunc], vrel_func.2 ⟨_, rfl, ?_⟩⟩
    rw [Array.toList_map]
    exact opds_rel hrel e3
  -- calls of what is built in
  · rename_i ao' c
    have hargs : (c.args.map ρ).toList = c.args.toList.map ρ := by simp
    unfold chkCall at hchk
    split at hchk
    · cases h
    · cases h
    · cases h
    · cases h
    · cases h
    · cases h
    -- len
    · rename_i d str x
      split at hchk
      · rename_i x' t ts h1 h2 h3
        simp only [Bool.and_eq_true] at hchk
        have hx := hrel _ _ hchk.1
        have hc := hchk.2
        have ha : c.args.map ρ = #[ρ x'] := by apply Array.ext'; rw [hargs, h2]; rfl
        have ht : c.argTypes[0]? = some t := by rw [← Array.getElem?_toList, h3]; rfl
        simp only [pureOp] at h
        unfold aLen at h
        split at h
        · rename_i l hl
          cases h
          rw [hl, vrel_str] at hx
          split at hc
          · rename_i hu
            refine ⟨_, ?_, vrel_int.2 rfl⟩
            simp only [execOp, resolve, h1, invoke, builtin, Sem.run_bind, Sem.run_pure, Result.andThen_ok, ha, Builtin.len_, ht, hx]
            have hsz : (ByteArray.mk l.toArray).size = l.length := by show l.toArray.size = _; simp
            simp [run_underlying hu, goInt, hsz]
          · cases hc
          · cases hc
        · rename_i b off len cap es ex hb
          cases h
          rw [hb] at hx
          obtain ⟨L, a, cc, e4, hv, _⟩ := vrel_slice.1 hx
          split at hc
          · cases hc
          · rename_i e hu
            refine ⟨_, ?_, vrel_int.2 rfl⟩
            simp only [execOp, resolve, h1, invoke, builtin, Sem.run_bind, Sem.run_pure, Result.andThen_ok, ha, Builtin.len_, ht, hv]
            simp [run_underlying hu, goInt]
          · cases hc
        · rename_i hb
          cases h
          rw [hb, vrel_nilSlice] at hx
          split at hc
          · cases hc
          · rename_i e hu
            refine ⟨_, ?_, vrel_int.2 rfl⟩
            simp only [execOp, resolve, h1, invoke, builtin, Sem.run_bind, Sem.run_pure, Result.andThen_ok, ha, Builtin.len_, ht, hx]
            simp [run_underlying hu, goInt]
          · cases hc
        · cases h
      · cases hchk
    -- cap
    · rename_i d x
      split at hchk
      · rename_i x' t ts h1 h2 h3
        simp only [Bool.and_eq_true] at hchk
        have hx := hrel _ _ hchk.1
        have hc := hchk.2
        have ha : c.args.map ρ = #[ρ x'] := by apply Array.ext'; rw [hargs, h2]; rfl
        have ht : c.argTypes[0]? = some t := by rw [← Array.getElem?_toList, h3]; rfl
        simp only [pureOp] at h
        unfold aCap at h
        split at hc
        · rename_i e hu
          split at h
          · rename_i b off len cap es hb
            cases h
            rw [hb] at hx
            obtain ⟨L, a, cc, e4, hv, _, _, hex, _⟩ := vrel_slice.1 hx
            have := hex rfl
            subst this
            refine ⟨_, ?_, vrel_int.2 rfl⟩
            simp only [execOp, resolve, h1, invoke, builtin, Sem.run_bind, Sem.run_pure, Result.andThen_ok, ha, Builtin.cap_, ht, hv]
            simp [run_underlying hu, goInt]
          · rename_i hb
            cases h
            rw [hb, vrel_nilSlice] at hx
            refine ⟨_, ?_, vrel_int.2 rfl⟩
            simp only [execOp, resolve, h1, invoke, builtin, Sem.run_bind, Sem.run_pure, Result.andThen_ok, ha, Builtin.cap_, ht, hx]
            simp [run_underlying hu, goInt]
          · cases h
        · cases hc
      · cases hchk
    -- min, max
    · rename_i d mx xs
      have hmm : ∀ (m : Bool), c.callee = .builtin (if m then .max else .min) → opdsOk c.args.toList xs = true → aMinMaxL m (xs.map ev) = some r →
          ∃ u, (execOp ρ { dst := dst, op := .call c, type := type, pos := pos, after := after, guard := guard }).run P w = .ok (.value u) w ∧ VRel φ r u := by
        intro m hcal hops hr
        have hv := opds_rel hrel hops
        rw [← hargs] at hv
        generalize hvs : (c.args.map ρ).toList = vs at hv
        generalize xs.map ev = as at hv hr
        cases as with
        | nil => simp [aMinMaxL] at hr
        | cons a as =>
          cases vs with
          | nil => simp [VRels] at hv
          | cons v vs =>
            simp only [VRels] at hv
            obtain ⟨u, hu1, hu2⟩ := minmax_rel (P := P) w m as vs a v r hv.1 hv.2 hr
            refine ⟨u, ?_, hu2⟩
            cases m with
            | true =>
              simp only [if_true] at hcal hu1
              simp only [execOp, resolve, hcal, invoke, builtin, Sem.run_bind, Sem.run_pure, Result.andThen_ok, Builtin.max_, hvs, hu1]
            | false =>
              simp only [Bool.false_eq_true, if_false] at hcal hu1
              simp only [execOp, resolve, hcal, invoke, builtin, Sem.run_bind, Sem.run_pure, Result.andThen_ok, Builtin.min_, hvs, hu1]
      simp only [pureOp] at h
      split at hchk
      · rename_i h1
        simp only [Bool.and_eq_true] at hchk
        obtain ⟨rfl, h2⟩ := hchk
        exact hmm true h1 h2 h
      · rename_i h1
        simp only [Bool.and_eq_true, Bool.not_eq_true'] at hchk
        obtain ⟨rfl, h2⟩ := hchk
        exact hmm false h1 h2 h
      · cases hchk
    · cases hchk
  · cases hchk

end
end Go.Fw
