/- Arguments that are slices of structures of plain cells. -/
import Derived.Test.YtfdhljghamkgjaaFwZp
import Derived.ChangeArms
namespace Go.Fw
set_option linter.unusedSimpArgs false
set_option linter.unusedVariables false
open Go.RowKit Go.WideShapes Go.ChangeShapes

inductive LeafK where
  | int (k : IntKind)
  | bool
  | str
  deriving DecidableEq

def LeafOk : LeafK → AVal → Value → Prop
  | .int k, .int k' n, v => k' = k ∧ (Lit.int k n).wf = true ∧ v = .int k n
  | .bool, .bool b, v => v = .bool b
  | .str, .str l, v => v = .string ⟨l.toArray⟩ ∧ l.length ≤ maxLen
  | _, _, _ => False

def LeafsOk : List LeafK → List AVal → List Value → Prop
  | [], [], [] => True
  | k :: ks, a :: as, v :: vs => LeafOk k a v ∧ LeafsOk ks as vs
  | _, _, _ => False

theorem LeafOk.rel {k : LeafK} {a : AVal} {v : Value} (h : LeafOk k a v) (φ : Phi) : VRel φ a v := by
  cases k <;> cases a <;> simp only [LeafOk] at h <;> unfold VRel
  · obtain ⟨rfl, _, rfl⟩ := h; rfl
  · exact h
  · exact h.1

theorem LeafOk.cell {k : LeafK} {a : AVal} {v : Value} (h : LeafOk k a v) : v.oneCell' = true := by
  cases k <;> cases a <;> simp only [LeafOk] at h
  · obtain ⟨rfl, _, rfl⟩ := h; rfl
  · subst h; rfl
  · obtain ⟨rfl, _⟩ := h; rfl

theorem LeafsOk.len : ∀ {ks : List LeafK} {as : List AVal} {vs : List Value}, LeafsOk ks as vs → as.length = ks.length ∧ vs.length = ks.length
  | [], [], [], _ => ⟨rfl, rfl⟩
  | _ :: _, _ :: _, _ :: _, h => ⟨by simp [(LeafsOk.len h.2).1], by simp [(LeafsOk.len h.2).2]⟩
  | [], _ :: _, _, h => h.elim
  | [], [], _ :: _, h => h.elim
  | _ :: _, [], _, h => h.elim
  | _ :: _, _ :: _, [], h => h.elim

theorem LeafsOk.at : ∀ {ks : List LeafK} {as : List AVal} {vs : List Value}, LeafsOk ks as vs → ∀ (i : Nat) (a : AVal), as[i]? = some a → ∃ k v, vs[i]? = some v ∧ LeafOk k a v
  | [], [], [], _, i, a, h => by simp at h
  | k :: _, b :: _, v :: _, h, 0, a, e => by
    simp only [List.getElem?_cons_zero, Option.some.injEq] at e
    subst e
    exact ⟨k, v, rfl, h.1⟩
  | _ :: _, _ :: _, _ :: _, h, i + 1, a, e => by
    simp only [List.getElem?_cons_succ] at e ⊢
    exact LeafsOk.at h.2 i a e
  | [], _ :: _, _, h, _, _, _ => h.elim
  | [], [], _ :: _, h, _, _, _ => h.elim
  | _ :: _, [], _, h, _, _, _ => h.elim
  | _ :: _, _ :: _, [], h, _, _, _ => h.elim

theorem LeafsOk.app : ∀ {ks ks' : List LeafK} {as as' : List AVal} {vs vs' : List Value}, LeafsOk ks as vs → LeafsOk ks' as' vs' → LeafsOk (ks ++ ks') (as ++ as') (vs ++ vs')
  | [], _, [], _, [], _, _, h => h
  | _ :: _, _, _ :: _, _, _ :: _, _, h, h' => ⟨h.1, LeafsOk.app h.2 h'⟩
  | [], _, _ :: _, _, _, _, h, _ => h.elim
  | [], _, [], _, _ :: _, _, h, _ => h.elim
  | _ :: _, _, [], _, _, _, h, _ => h.elim
  | _ :: _, _, _ :: _, _, [], _, h, _ => h.elim

def leafFs (P : Program) (f : TypeId → Option (List LeafK)) : Nat → List Field → Option (List LeafK)
  | _, [] => some []
  | off, x :: r => match f x.type with
    | some L => if x.offset = off ∧ P.cellsOf x.type = L.length then (leafFs P f (off + L.length) r).map (L ++ ·) else none
    | none => none

/-- The cells of a type, when each is plain. -/
def leafs (P : Program) : Nat → TypeId → Option (List LeafK)
  | 0, _ => none
  | n + 1, t => match P.underlying t with
    | some (.int k) => some [.int k]
    | some .bool => some [.bool]
    | some .string => some [.str]
    | some (.struct fs) => match leafFs P (leafs P n) 0 fs.toList with
      | some L => if L.length = P.cellsOf t then some L else none
      | none => none
    | _ => none

section
variable {H : Type} {enc : TypeId × Value → H} {P : Program} {w : World} {base : Nat} {sp : Nat → Bool} {held : Bool}

theorem trod_leafFs (n m : Nat) (ih : ∀ t L cs x, leafs P n t = some L → DataW.trod enc P w base sp held m t cs = some x → ∃ as, LeafsOk L as cs) (cs : List Value) :
    ∀ (fs : List Field) (off : Nat) (L : List LeafK), leafFs P (leafs P n) off fs = some L → (∀ f ∈ fs, ∃ y, DataW.trod enc P w base sp held m f.type ((cs.drop f.offset).take (P.cellsOf f.type)) = some y) → ∃ as, LeafsOk L as ((cs.drop off).take L.length)
  | [], off, L, h, _ => by
    simp only [leafFs, Option.some.injEq] at h
    subst h
    exact ⟨[], by simp [LeafsOk]⟩
  | f :: r, off, L, h, hf => by
    simp only [leafFs] at h
    split at h
    · rename_i L1 h1
      split at h
      · rename_i hc
        obtain ⟨L2, h2, rfl⟩ := Option.map_eq_some_iff.1 h
        obtain ⟨y, hy⟩ := hf f (by simp)
        rw [hc.1, hc.2] at hy
        obtain ⟨as1, k1⟩ := ih _ _ _ _ h1 hy
        obtain ⟨as2, k2⟩ := trod_leafFs n m ih cs r _ L2 h2 fun g hg => hf g (by simp [hg])
        refine ⟨as1 ++ as2, ?_⟩
        have e : (cs.drop off).take (L1 ++ L2).length = (cs.drop off).take L1.length ++ (cs.drop (off + L1.length)).take L2.length := by
          rw [List.length_append, List.take_add, List.drop_drop]
        rw [e]
        exact k1.app k2
      · cases h
    · cases h

theorem trod_leafs : ∀ (n m : Nat) (t : TypeId) (L : List LeafK) (cs : List Value) (x : DataW H × List MemPlace), leafs P n t = some L → DataW.trod enc P w base sp held m t cs = some x → ∃ as, LeafsOk L as cs
  | 0, _, _, _, _, _, h, _ => by simp [leafs] at h
  | n + 1, m, t, L, cs, x, h, hx => by
    simp only [leafs] at h
    split at h
    · rename_i k hu
      cases h
      obtain ⟨a, rfl, _, hw⟩ := DataW.trod_int hu hx
      exact ⟨[.int k a], ⟨rfl, hw, rfl⟩, trivial⟩
    · rename_i hu
      cases h
      obtain ⟨a, rfl, _⟩ := DataW.trod_bool hu hx
      exact ⟨[.bool a], rfl, trivial⟩
    · rename_i hu
      cases h
      obtain ⟨s, rfl, _, hw⟩ := DataW.trod_string hu hx
      have h3 : s.data.toList.length = s.size := Array.length_toList
      exact ⟨[.str s.data.toList], ⟨rfl, by omega⟩, trivial⟩
    · rename_i fs hu
      split at h
      · rename_i L' h1
        split at h
        · rename_i hl
          cases h
          obtain ⟨xs, m', rfl, _, hc, hlen, hel⟩ := DataW.trod_struct hu hx
          obtain ⟨as, k⟩ := trod_leafFs (enc := enc) (w := w) (base := base) (sp := sp) (held := held) n m' (fun t L cs x a b => trod_leafs n m' t L cs x a b) cs fs.toList 0 L h1 fun f hf => by
            obtain ⟨i, hi⟩ := List.getElem?_of_mem hf
            have hi' : fs[i]? = some f := by simpa using hi
            have hlt : i < fs.size := (Array.getElem?_eq_some_iff.1 hi').1
            exact ⟨xs[i]'(by omega), by rw [hel i f hi', List.getElem?_eq_getElem (by omega)]⟩
          refine ⟨as, ?_⟩
          rw [List.drop_zero, List.take_of_length_le (by omega)] at k
          exact k
        · cases h
      · cases h
    · cases h
end

theorem exists_list {P : Nat → List AVal → Prop} : ∀ (n : Nat), (∀ i, i < n → ∃ a, P i a) → ∃ l : List (List AVal), l.length = n ∧ ∀ i a, l[i]? = some a → P i a
  | 0, _ => ⟨[], rfl, fun i a h => by simp at h⟩
  | n + 1, h => by
    obtain ⟨l, hl, hp⟩ := exists_list n fun i hi => h i (by omega)
    obtain ⟨a, ha⟩ := h n (by omega)
    refine ⟨l ++ [a], by simp [hl], fun i b hb => ?_⟩
    by_cases hi : i < n
    · rw [List.getElem?_append_left (by omega)] at hb
      exact hp i b hb
    · have : i < (l ++ [a]).length := (List.getElem?_eq_some_iff.1 hb).1
      simp only [List.length_append, List.length_singleton] at this
      obtain rfl : i = n := by omega
      rw [List.getElem?_append_right (by omega), hl, Nat.sub_self] at hb
      simp only [List.getElem?_cons_zero, Option.some.injEq] at hb
      rw [← hb]
      exact ha

theorem flat_len (es : Nat) : ∀ (rows : List (List AVal)), (∀ r ∈ rows, r.length = es) → rows.flatten.length = rows.length * es
  | [], _ => by simp
  | r :: rs, h => by
    have := flat_len es rs fun x hx => h x (by simp [hx])
    have h1 := h r (by simp)
    simp only [List.flatten_cons, List.length_append, this, List.length_cons, h1, Nat.add_mul, Nat.one_mul]
    omega

theorem flat_at (es : Nat) (hes : 0 < es) : ∀ (rows : List (List AVal)), (∀ r ∈ rows, r.length = es) → ∀ (x : Nat) (a : AVal), rows.flatten[x]? = some a → ∃ r, rows[x / es]? = some r ∧ r[x % es]? = some a
  | [], _, x, a, h => by simp at h
  | r :: rs, h, x, a, e => by
    have h1 := h r (by simp)
    rw [List.flatten_cons] at e
    by_cases hx : x < es
    · rw [List.getElem?_append_left (by omega)] at e
      rw [Nat.div_eq_of_lt hx, Nat.mod_eq_of_lt hx]
      exact ⟨r, rfl, e⟩
    · rw [List.getElem?_append_right (by omega), h1] at e
      obtain ⟨r', e1, e2⟩ := flat_at es hes rs (fun y hy => h y (by simp [hy])) _ a e
      have h2 : x / es = (x - es) / es + 1 := by
        rw [Nat.div_eq_sub_div hes (by omega)]
      have h3 : x % es = (x - es) % es := by rw [Nat.mod_eq_sub_mod (by omega)]
      rw [h2, h3, List.getElem?_cons_succ]
      exact ⟨r', e1, e2⟩

theorem rows_arg {H : Type} {enc : TypeId × Value → H} {P : Program} {w : World} {t e : TypeId} {L : List LeafK} {nn : Nat} (ht : P.underlying t = some (.slice e)) (he : leafs P nn e = some L) (hc : P.cellsOf e = L.length) (hL : 0 < L.length) {v : Value} {d : DataW H} {ps : List MemPlace}
    (hv : Value.okWide P w .any 0 t v) (h : DataW.Trod enc P w 0 (fun _ => true) true t v d ps) :
    ∃ bs mk, ∃ R : List (List AVal), RowArg L.length w v bs mk R.length R.flatten ∧ ((∀ x ∈ d.weights P t, x ≤ reachBytes) → R.length * P.bytesOf e ≤ reachBytes) ∧ ∀ r ∈ R, ∃ vs, LeafsOk L r vs := by
  obtain ⟨a0, len, cap, rfl⟩ := okWide_slice ht hv
  obtain ⟨fuel, hf⟩ := h
  have hf' : DataW.trod enc P w 0 (fun _ => true) true fuel t [.slice a0 len cap] = some (d, ps) := hf
  rcases DataW.trod_slice ht hf' with ⟨h1, hd⟩ | ⟨a, len', cap', elems, rest, n, _, h1, hd, _, hl, hm, hlen, hel, hsp, _⟩
  · simp only [List.cons.injEq, and_true] at h1
    rw [h1]
    exact ⟨[], fun _ => .nilSlice, [], ⟨fun φ i _ => (by unfold VRel; rfl), fun φ p hp => (by cases hp), fun h i _ _ => ⟨by simp, .inl ⟨rfl, rfl⟩⟩⟩, fun _ => by simp, fun s hs => by cases hs⟩
  · simp only [List.cons.injEq, Value.slice.injEq, and_true] at h1
    obtain ⟨rfl, rfl, rfl⟩ := h1
    simp only [Prod.mk.injEq] at hd
    obtain ⟨hs, c, el, fz, hcb⟩ := okWide_has ht hv
    have hadd : ∀ i, (a.add i) = ⟨a.block, a.off + i, none⟩ := by
      intro i
      obtain ⟨b, off, sp⟩ := a
      simp only at hs
      subst hs
      exact add_plain b off i
    obtain ⟨hrl, hr⟩ := hsp rfl
    rw [hc] at hel hr
    have hcell : ∀ i cs, w.cells? 0 (a.add (i * L.length)) L.length = some cs → cs.length = L.length ∧ ∀ j, j < L.length → c[a.off + (i * L.length + j)]? = cs[j]? := by
      intro i cs hcs
      obtain ⟨_, h1, h2⟩ := World.cells?_some hcs
      refine ⟨h1, fun j hj => ?_⟩
      have := h2 j hj
      rw [hadd, add_plain] at this
      simp only [World.cell?, hcb] at this
      rw [← this, Nat.add_assoc]
      simp
    obtain ⟨R, hRl, hR⟩ := exists_list (P := fun i as => ∃ cs, LeafsOk L as cs ∧ ∀ j, j < L.length → c[a.off + (i * L.length + j)]? = cs[j]?) len fun i hi => by
      have h1 := hel i hi
      rw [List.getElem?_eq_getElem (by omega), Option.bind_eq_some_iff] at h1
      obtain ⟨cs, hcs, ht'⟩ := h1
      obtain ⟨as, k⟩ := trod_leafs nn n e L cs _ he ht'
      exact ⟨as, cs, k, (hcell i cs hcs).2⟩
    have hlenR : ∀ r ∈ R, r.length = L.length := by
      intro r hr'
      obtain ⟨i, hi⟩ := List.getElem?_of_mem hr'
      obtain ⟨cs, k, _⟩ := hR i r hi
      exact k.len.1
    have hfl : R.flatten.length = len * L.length := by rw [flat_len _ R hlenR, hRl]
    have hsz : (∀ x ∈ d.weights P t, x ≤ reachBytes) → R.length * P.bytesOf e ≤ reachBytes := by
      intro hw
      rw [hd.1] at hw
      have h1 := hw (((elems.map (·.1)).length + (rest.map (·.1)).length) * P.bytesOf e) (by simp [DataW.weights, ht])
      rw [List.length_map, List.length_map, Nat.add_mul, hlen] at h1
      rw [hRl]
      omega
    have hleaf : ∀ r ∈ R, ∃ vs, LeafsOk L r vs := by
      intro r hr'
      obtain ⟨i, hi⟩ := List.getElem?_of_mem hr'
      obtain ⟨cs, k, _⟩ := hR i r hi
      exact ⟨cs, k⟩
    have hszc : 0 < cap → a.off + cap * L.length ≤ c.size := by
      intro h0
      have hlast : ∃ cs, w.cells? 0 (a.add ((cap - 1) * L.length)) L.length = some cs := by
        by_cases hi : cap - 1 < len
        · have h1 := hel (cap - 1) hi
          rw [List.getElem?_eq_getElem (by omega), Option.bind_eq_some_iff] at h1
          obtain ⟨cs, hcs, _⟩ := h1
          exact ⟨cs, hcs⟩
        · have h1 := hr (cap - 1 - len) (by omega)
          rw [List.getElem?_eq_getElem (by omega), Option.bind_eq_some_iff, show len + (cap - 1 - len) = cap - 1 by omega] at h1
          obtain ⟨cs, hcs, _⟩ := h1
          exact ⟨cs, hcs⟩
      obtain ⟨cs, hcs⟩ := hlast
      obtain ⟨h1, h2⟩ := hcell _ _ hcs
      have h3 := h2 (L.length - 1) (by omega)
      rw [List.getElem?_eq_getElem (by omega)] at h3
      have h4 := (Array.getElem?_eq_some_iff.1 h3).1
      have h5 : cap * L.length = (cap - 1) * L.length + L.length := by
        rw [← Nat.succ_mul]; congr 1; omega
      omega
    by_cases h0 : cap = 0
    · have hl0 : len = 0 := by omega
      have hRn : R = [] := List.length_eq_zero_iff.1 (by omega)
      subst h0 hl0
      subst hRn
      refine ⟨[(⟨a.block, 0, c.size⟩, [])], fun i => .slice i 0 0 0 L.length false, [], ⟨fun φ i hi => ?_, fun φ p hp => ?_, fun h i hn hi => ⟨by simp, .inr ⟨i, 0, 0, false, rfl, by simp at hn; omega, ?_⟩⟩⟩, fun _ => by simp, fun s hs => by cases hs⟩
      · exact vrel_slice.2 ⟨_, a, 0, hi 0 _ rfl, rfl, Nat.le_refl _, Nat.le_refl _, (fun h => by cases h), (fun h => by omega)⟩
      · rw [List.mem_singleton] at hp
        subst hp
        exact ⟨c, el, fz, hcb, rfl, by simp, by simp⟩
      · have : h.blk i = some ⟨[], false⟩ := hi 0 _ rfl
        rw [rd_of this 0 _ (by simp)]
        simp
    · have hszc := hszc (by omega)
      have hmul : len * L.length ≤ cap * L.length := Nat.mul_le_mul_right _ hl
      refine ⟨[(⟨a.block, a.off, c.size⟩, R.flatten)], fun i => .slice i 0 R.length R.length L.length false, R, ⟨fun φ i hi => ?_, fun φ p hp => ?_, fun h i hn hi => ⟨by rw [hfl, hRl], .inr ⟨i, 0, R.length, false, rfl, by simp at hn; omega, ?_⟩⟩⟩, hsz, hleaf⟩
      · have hi0 : φ i = some (⟨a.block, a.off, c.size⟩ : Loc) := hi 0 _ rfl
        rw [hRl]
        refine vrel_slice.2 ⟨_, a, cap, hi0, rfl, Nat.le_refl _, hl, (fun h => by cases h), fun _ => ⟨?_, by simp only; omega⟩⟩
        obtain ⟨b, off, sp⟩ := a
        simp only at hs
        subst hs
        simp
      · rw [List.mem_singleton] at hp
        subst hp
        refine ⟨c, el, fz, hcb, rfl, by simp only [hfl]; omega, ?_⟩
        intro x v hx
        obtain ⟨r, e1, e2⟩ := flat_at L.length hL R hlenR x v hx
        obtain ⟨cs, k, hcs⟩ := hR _ r e1
        obtain ⟨kk, u, e3, k3⟩ := k.at _ v e2
        have hmod := Nat.mod_lt x hL
        have e4 := hcs (x % L.length) hmod
        rw [show x / L.length * L.length + x % L.length = x by rw [Nat.mul_comm]; exact Nat.div_add_mod x _] at e4
        exact ⟨u, by simp only; rw [e4, e3], k3.rel _, k3.cell⟩
      · have : h.blk i = some ⟨R.flatten, false⟩ := hi 0 _ rfl
        rw [rd_of this 0 _ (by simp only [hfl, hRl]; omega)]
        simp only [List.drop_zero]
        rw [List.take_of_length_le (by rw [hfl, hRl]; omega)]
end Go.Fw
