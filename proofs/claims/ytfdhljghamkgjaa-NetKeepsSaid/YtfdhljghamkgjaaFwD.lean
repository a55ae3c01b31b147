/- What one operation that only computes does in the model: numbers, texts, comparisons. -/
import Derived.Test.YtfdhljghamkgjaaFwC
import Derived.Laws.StructEq
import Derived.ChangeKeysEq
import Derived.Laws.Strings
namespace Go.Fw
set_option linter.unusedSimpArgs false
set_option linter.unusedVariables false

theorem vrel_bool {φ : Phi} {b : Bool} {v : Value} : VRel φ (.bool b) v ↔ v = .bool b := by unfold VRel; exact Iff.rfl
theorem vrel_int {φ : Phi} {k : IntKind} {n : Int} {v : Value} : VRel φ (.int k n) v ↔ v = .int k n := by unfold VRel; exact Iff.rfl
theorem vrel_str {φ : Phi} {l : List UInt8} {v : Value} : VRel φ (.str l) v ↔ v = .string ⟨l.toArray⟩ := by unfold VRel; exact Iff.rfl
theorem vrel_nilPtr {φ : Phi} {v : Value} : VRel φ .nilPtr v ↔ v = .pointer none := by unfold VRel; exact Iff.rfl
theorem vrel_nilSlice {φ : Phi} {v : Value} : VRel φ .nilSlice v ↔ v = .slice none 0 0 := by unfold VRel; exact Iff.rfl
theorem vrel_nilFunc {φ : Phi} {v : Value} : VRel φ .nilFunc v ↔ v = .nilFunc := by unfold VRel; exact Iff.rfl
theorem vrel_nilIface {φ : Phi} {v : Value} : VRel φ .nilIface v ↔ v = .nilIface := by unfold VRel; exact Iff.rfl
theorem vrel_ptr {φ : Phi} {b off : Nat} {v : Value} : VRel φ (.ptr b off) v ↔ ∃ L, φ b = some L ∧ v = .pointer (some ⟨L.blk, L.base + off, none⟩) := by unfold VRel; exact Iff.rfl
theorem vrel_slice {φ : Phi} {b off len cap es : Nat} {ex : Bool} {v : Value} : VRel φ (.slice b off len cap es ex) v ↔
    ∃ L a c, φ b = some L ∧ v = .slice (some a) len c ∧ len ≤ cap ∧ cap ≤ c ∧ (ex = true → c = cap) ∧ (0 < c → a = ⟨L.blk, L.base + off, none⟩ ∧ L.base + off + c * es ≤ L.size) := by unfold VRel; exact Iff.rfl
theorem vrel_func {φ : Phi} {f : Nat} {caps : List AVal} {v : Value} : VRel φ (.func f caps) v ↔ ∃ cs, v = .func (.func f) #[] cs ∧ VRels φ caps cs.toList := by unfold VRel; exact Iff.rfl
theorem vrel_iface {φ : Phi} {t : Nat} {x : AVal} {v : Value} : VRel φ (.iface t x) v ↔ ∃ y, v = .iface t y ∧ VRel φ x y := by conv => lhs; unfold VRel
theorem vrel_agg {φ : Phi} {cs : List AVal} {v : Value} : VRel φ (.agg cs) v ↔ ∃ vs, v = .agg vs ∧ VRels φ cs vs.toList ∧ ∀ u ∈ vs.toList, u.oneCell' = true := by unfold VRel; exact Iff.rfl
theorem vrel_tuple {φ : Phi} {cs : List AVal} {v : Value} : VRel φ (.tuple cs) v ↔ ∃ vs, v = .tuple vs ∧ VRels φ cs vs.toList := by unfold VRel; exact Iff.rfl
theorem vrel_undef {φ : Phi} {v : Value} : VRel φ .undef v ↔ True := by unfold VRel; exact Iff.rfl

/-- A value that fills one cell does so in the model. -/
theorem one_cell {φ : Phi} {x : AVal} {v : Value} (h : VRel φ x v) (o : x.one = true) : v.oneCell' = true := by
  cases x <;> simp only [AVal.one] at o <;> first | (cases o; done) | skip
  case bool => rw [vrel_bool.1 h]; rfl
  case int => rw [vrel_int.1 h]; rfl
  case str => rw [vrel_str.1 h]; rfl
  case nilPtr => rw [vrel_nilPtr.1 h]; rfl
  case ptr => obtain ⟨_, _, rfl⟩ := vrel_ptr.1 h; rfl
  case nilSlice => rw [vrel_nilSlice.1 h]; rfl
  case slice => obtain ⟨_, _, _, _, rfl, _⟩ := vrel_slice.1 h; rfl
  case func => obtain ⟨_, rfl, _⟩ := vrel_func.1 h; rfl
  case nilFunc => rw [vrel_nilFunc.1 h]; rfl
  case iface => obtain ⟨_, rfl, _⟩ := vrel_iface.1 h; rfl
  case nilIface => rw [vrel_nilIface.1 h]; rfl

theorem oneCell_cells {v : Value} (h : v.oneCell' = true) : v.cells = #[v] := by
  cases v <;> first | rfl | (simp [Value.oneCell'] at h)

/-- The cells of a value. -/
theorem cells_rel {φ : Phi} {x : AVal} {v : Value} {cs : List AVal} (h : VRel φ x v) (e : x.cells? = some cs) : VRels φ cs v.cells.toList ∧ ∀ u ∈ v.cells.toList, u.oneCell' = true := by
  cases x <;> simp only [AVal.cells?] at e <;> first | (cases e; done) | skip
  case agg as =>
    cases e
    obtain ⟨vs, rfl, h1, h2⟩ := vrel_agg.1 h
    exact ⟨h1, h2⟩
  all_goals
    cases e
    have o := one_cell h rfl
    rw [oneCell_cells o]
    refine ⟨?_, by simpa using o⟩
    simp only [VRels, and_true]
    exact h

section
variable {P : Program} (w : World)

theorem run_eqGuard_int (op : BinOp) (t : TypeId) (x y : Operand) (k j : IntKind) (a b : Int) : (eqGuard op t x y (.int k a) (.int j b)).run P w = .ok () w := by
  cases op <;> simp [eqGuard]
theorem run_eqGuard_string (op : BinOp) (t : TypeId) (x y : Operand) (a b : ByteArray) : (eqGuard op t x y (.string a) (.string b)).run P w = .ok () w := by
  cases op <;> simp [eqGuard]

theorem run_shift {op : BinOp} {k j : IntKind} {a b : Int} {r : AVal} (h : aShift op k a b = some r) (φ : Phi) : ∃ z, (Op.shift op k a j b).run P w = .ok z w ∧ VRel φ r z := by
  unfold aShift at h
  split at h
  · cases h
  · rename_i hb
    cases op <;> simp only at h <;> first | (cases h; done) | skip
    all_goals
      cases h
      refine ⟨_, ?_, vrel_int.2 rfl⟩
      simp [Op.shift, hb]

theorem run_intOp {op : BinOp} {k : IntKind} {t : TypeId} {a b : Int} {r : AVal} (h : aInt op k a b = some r) (φ : Phi) (hs : op ≠ .shl) (hr : op ≠ .shr) :
    ∃ z, (binOp op t (.int k a) (.int k b)).run P w = .ok z w ∧ VRel φ r z := by
  cases op <;> simp only [aInt] at h <;> first | (exact absurd rfl hs) | (exact absurd rfl hr) | skip
  case quo =>
    split at h
    · cases h
    · rename_i hb
      cases h
      refine ⟨_, ?_, vrel_int.2 rfl⟩
      rw [show binOp .quo t (.int k a) (.int k b) = Op.intDiv .quo k a b by simp [binOp]]
      simp [Op.intDiv, hb]
  case rem =>
    split at h
    · cases h
    · rename_i hb
      cases h
      refine ⟨_, ?_, vrel_int.2 rfl⟩
      rw [show binOp .rem t (.int k a) (.int k b) = Op.intDiv .rem k a b by simp [binOp]]
      simp [Op.intDiv, hb]
  case add => cases h; exact ⟨_, by rw [show binOp .add t (.int k a) (.int k b) = Op.intArith .add k a b by simp [binOp]]; rfl, vrel_int.2 rfl⟩
  case sub => cases h; exact ⟨_, by rw [show binOp .sub t (.int k a) (.int k b) = Op.intArith .sub k a b by simp [binOp]]; rfl, vrel_int.2 rfl⟩
  case mul => cases h; exact ⟨_, by rw [show binOp .mul t (.int k a) (.int k b) = Op.intArith .mul k a b by simp [binOp]]; rfl, vrel_int.2 rfl⟩
  case and => cases h; exact ⟨_, by rw [show binOp .and t (.int k a) (.int k b) = Op.intBits .and k a b by simp [binOp]]; rfl, vrel_int.2 rfl⟩
  case or => cases h; exact ⟨_, by rw [show binOp .or t (.int k a) (.int k b) = Op.intBits .or k a b by simp [binOp]]; rfl, vrel_int.2 rfl⟩
  case xor => cases h; exact ⟨_, by rw [show binOp .xor t (.int k a) (.int k b) = Op.intBits .xor k a b by simp [binOp]]; rfl, vrel_int.2 rfl⟩
  case andNot => cases h; exact ⟨_, by rw [show binOp .andNot t (.int k a) (.int k b) = Op.intBits .andNot k a b by simp [binOp]]; rfl, vrel_int.2 rfl⟩
  case eql => cases h; exact ⟨_, by rw [show binOp .eql t (.int k a) (.int k b) = Op.intCmp .eql a b by simp [binOp]]; rfl, vrel_bool.2 rfl⟩
  case neq => cases h; exact ⟨_, by rw [show binOp .neq t (.int k a) (.int k b) = Op.intCmp .neq a b by simp [binOp]]; rfl, vrel_bool.2 rfl⟩
  case lss => cases h; exact ⟨_, by rw [show binOp .lss t (.int k a) (.int k b) = Op.intCmp .lss a b by simp [binOp]]; rfl, vrel_bool.2 rfl⟩
  case leq => cases h; exact ⟨_, by rw [show binOp .leq t (.int k a) (.int k b) = Op.intCmp .leq a b by simp [binOp]]; rfl, vrel_bool.2 rfl⟩
  case gtr => cases h; exact ⟨_, by rw [show binOp .gtr t (.int k a) (.int k b) = Op.intCmp .gtr a b by simp [binOp]]; rfl, vrel_bool.2 rfl⟩
  case geq => cases h; exact ⟨_, by rw [show binOp .geq t (.int k a) (.int k b) = Op.intCmp .geq a b by simp [binOp]]; rfl, vrel_bool.2 rfl⟩

theorem run_strOp {op : BinOp} {t : TypeId} {a b : List UInt8} {r : AVal} (h : aStr op a b = some r) (φ : Phi) :
    ∃ z, (binOp op t (.string ⟨a.toArray⟩) (.string ⟨b.toArray⟩)).run P w = .ok z w ∧ VRel φ r z := by
  cases op <;> simp only [aStr] at h <;> first | (cases h; done) | skip
  case add =>
    split at h
    · rename_i hle
      cases h
      refine ⟨.string ⟨(a ++ b).toArray⟩, ?_, vrel_str.2 rfl⟩
      have hm : ¬ (((ByteArray.mk a.toArray).size + (ByteArray.mk b.toArray).size : Nat) : Int) > IntKind.i64.max := by
        show ¬ ((a.toArray.size + b.toArray.size : Nat) : Int) > 9223372036854775807
        simp only [List.size_toArray]
        omega
      have he : ByteArray.mk a.toArray ++ ByteArray.mk b.toArray = ByteArray.mk (a ++ b).toArray := by
        apply ByteArray.ext
        rw [ByteArray.data_append]
        simp
      simp only [binOp, Op.stringOp]
      rw [if_neg hm, he]
      rfl
    · cases h
  all_goals
    cases h
    refine ⟨_, ?_, vrel_bool.2 rfl⟩
    simp only [binOp, Op.stringOp, ByteArray.toList_mk]
    rfl

/-- The kinds of a type's cells, if '==' asks them one by one. -/
def flatFs (rec : TypeId → Option (List Nat)) (P : Program) : Nat → List Field → Option (List Nat)
  | _, [] => some []
  | off, f :: fs =>
    if f.name ≠ "_" ∧ f.offset = off then
      match rec f.type with
      | some ks => if ks.length = P.cellsOf f.type then (match flatFs rec P (off + ks.length) fs with | some r => some (ks ++ r) | none => none) else none
      | none => none
    else none
def flatK (P : Program) : Nat → TypeId → Option (List Nat)
  | 0, _ => none
  | d + 1, t =>
    match P.underlying t with
    | some .bool => some [0]
    | some (.int _) => some [1]
    | some .string => some [2]
    | some (.struct fs) => if P.stoodInHeld t then none else flatFs (flatK P d) P 0 fs.toList
    | _ => none

theorem cellsEq_append : ∀ (ks ls : List Nat) (as bs : List AVal) (r : Bool), cellsEq (ks ++ ls) as bs = some r →
    ∃ r1 r2, cellsEq ks (as.take ks.length) (bs.take ks.length) = some r1 ∧ cellsEq ls (as.drop ks.length) (bs.drop ks.length) = some r2 ∧ r = (r1 && r2)
  | [], ls, as, bs, r, h => ⟨true, r, by simp [cellsEq], by simpa using h, by simp⟩
  | k :: ks, ls, as, bs, r, h => by
    rw [List.cons_append] at h
    unfold cellsEq at h
    split at h
    · rename_i heq; cases heq
    all_goals first
      | (cases h; done)
      | (rename_i heq
         injection heq with e1 e2
         subst e1; subst e2
         simp only [Option.bind_eq_some_iff, Option.some.injEq] at h
         obtain ⟨q, hq, rfl⟩ := h
         obtain ⟨r1, r2, h1, h2, rfl⟩ := cellsEq_append _ _ _ _ _ hq
         refine ⟨_ && r1, r2, ?_, by simpa using h2, by rw [Bool.and_assoc]⟩
         simp only [List.length_cons, List.take_succ_cons, cellsEq, h1, Option.bind_some])
      | (rename_i heq
         injection heq with e1 e2
         subst e1; subst e2
         split at h
         · rename_i hk
           simp only [Option.bind_eq_some_iff, Option.some.injEq] at h
           obtain ⟨q, hq, rfl⟩ := h
           obtain ⟨r1, r2, h1, h2, rfl⟩ := cellsEq_append _ _ _ _ _ hq
           refine ⟨_ && r1, r2, ?_, by simpa using h2, by rw [Bool.and_assoc]⟩
           simp only [List.length_cons, List.take_succ_cons, cellsEq, hk, if_true, h1, Option.bind_some]
         · cases h)

/-- The value that some cells are, of a type. -/
def valOf (P : Program) (t : TypeId) (l : List Value) : Option Value :=
  match P.underlying t with
  | some (.struct _) | some (.array _ _) => some (.agg l.toArray)
  | _ => match l with | [v] => some v | _ => none

theorem run_part {t : TypeId} {d : TypeDesc} (hu : P.underlying t = some d) {i : TypeInfo} (hi : P.info? t = some i) (xs : Array Value) (off : Nat) {v : Value}
    (hv : valOf P t ((xs.toList.drop off).take (P.cellsOf t)) = some v) : (part t xs off).run P w = .ok v w := by
  unfold valOf at hv
  rw [hu] at hv
  have hex : xs.extract off (off + P.cellsOf t) = ((xs.toList.drop off).take (P.cellsOf t)).toArray := by
    apply Array.ext'
    rw [Array.toList_extract]
    simp [List.extract_eq_take_drop]
  split at hv
  all_goals first
    | (cases hv; rename_i h; cases h; simp [part, isAgg, run_underlying hu, run_sizeOf w hi, hex]; done)
    | (have hna : (isAgg t).run P w = .ok false w := by
         cases d <;> simp_all [isAgg, run_underlying hu]
       split at hv
       · rename_i u hl
         cases hv
         have hx := getElem?_of_chunk hl
         simp [part, hna, hx]
       · cases hv)

end
end Go.Fw
