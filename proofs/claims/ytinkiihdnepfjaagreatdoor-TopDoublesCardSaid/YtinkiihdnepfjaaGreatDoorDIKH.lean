/- runs by the kernel -/
import Derived.Test.YtinkiihdnepfjaaGreatDoorDIKB
import Derived.Test.YtinkiihdnepfjaaGreatDoorDFwZc
set_option linter.unusedSimpArgs false
set_option linter.unusedVariables false
namespace Go.Fw.K
open Go.Fw
variable {j : Nat}
theorem ifB_t {α : Type} (x y : α) : ifB true x y = x := rfl
theorem ifB_f {α : Type} (x y : α) : ifB false x y = y := rfl
def RR (j : Nat) (a : KR) (b : Option (AVal × Heap)) : Prop := ∀ v t, a = .yes v t → ∃ h, b = some (rep j v, h) ∧ Sub j t h
theorem kLd1_rep {t : TH} {h : Heap} (S : Sub j t h) {x v : AVal} (e : kLd1 t x = some v) : ((aLoad h 1 (rep j x)).bind fun c => fromCells false c) = some (rep j v) := by
  obtain ⟨b, o, rfl, e⟩ := onPtr_some e
  simp only [rep_ptr, load_ptr, S.rd1 e, Option.bind_some, from_one]
theorem kLdA_rep {t : TH} {h : Heap} (S : Sub j t h) {n : Nat} {x v : AVal} (e : kLdA t n x = some v) : ((aLoad h n (rep j x)).bind fun c => fromCells true c) = some (rep j v) := by
  obtain ⟨b, o, rfl, e⟩ := onPtr_some e
  obtain ⟨cs, hc, e⟩ := VO_some e
  cases e
  simp only [rep_ptr, load_ptr, S.rd hc, Option.bind_some, from_agg, rep_agg]
theorem kLoad_rep {t : TH} {h : Heap} (S : Sub j t h) {agg : Bool} {n : Nat} {x v : AVal} (e : kLoad t agg n x = some v) : ((aLoad h n (rep j x)).bind fun c => fromCells agg c) = some (rep j v) := by
  cases agg with
  | true => exact kLdA_rep S e
  | false =>
    obtain ⟨h1, e1⟩ := ifB_some (show ifB (Nat.beq n 1) (kLd1 t x) none = some v from e)
    have := Nat.eq_of_beq_eq_true h1
    subst this
    exact kLd1_rep S e1
theorem kSt_rep {t : TH} {h : Heap} (S : Sub j t h) {n : Nat} {x v : AVal} {t' : TH} (e : kSt t n x v = some t') :
    ∃ cs h', aCells n (rep j v) = some cs ∧ aStore h (rep j x) cs = some h' ∧ Sub j t' h' := by
  obtain ⟨b, o, rfl, e⟩ := onPtr_some e
  obtain ⟨cs, hc, e⟩ := VO_some e
  obtain ⟨h', e1, S'⟩ := S.wr e
  exact ⟨_, h', kCells_rep hc, by simpa using e1, S'⟩
theorem aCells_len {n : Nat} {v : AVal} {cs : List AVal} (h : aCells n v = some cs) : cs.length = n := by
  unfold aCells at h
  split at h
  · rename_i c hc
    cases hb : Nat.beq c.length n with
    | false => rw [hb] at h; cases h
    | true => rw [hb] at h; cases h; exact Nat.eq_of_beq_eq_true hb
  · cases h
theorem kStL_rep {old : List AVal} {off n : Nat} {v : AVal} {q : List AVal} (e : kStL old off n v = some q) :
    ∃ cs, aCells n (rep j v) = some cs ∧ Nat.ble (off + n) (repL j old).length = true ∧ splice (repL j old) off cs = repL j q := by
  obtain ⟨cs, hc, e⟩ := VO_some e
  obtain ⟨h1, h2⟩ := layAt_eq off old cs q e
  have h3 := kCells_rep (j := j) hc
  have h4 := aCells_len h3
  rw [repL_length] at h4
  refine ⟨_, h3, Nat.ble_eq_true_of_le (by rw [repL_length]; omega), ?_⟩
  rw [h2, repL_splice]
theorem kBytes_rep {t : TH} {h : Heap} (S : Sub j t h) (x : AVal) : RR j (kBytes x t) (aConv .strBytes (rep j x) h) := fun v t' e => by cases e
theorem kStr_rep {t : TH} {h : Heap} (S : Sub j t h) {x v : AVal} (e : kStr x t = some v) : aConv .bytesStr (rep j x) h = some (rep j v, h) := by
  unfold kStr at e
  split at e
  · cases e; simp [aConv]
  · obtain ⟨h1, e⟩ := ifB_some e
    obtain ⟨cs, hc, e⟩ := VO_some e
    obtain ⟨l, hl, e⟩ := VO_some e
    cases e
    simp only [rep_slice, aConv, h1, cond_true, S.rd hc, Option.bind_some, cellBytes_rep hl, rep_str]
  · cases e
theorem kStrStr_rep {x v : AVal} (h : Heap) (e : kStrStr x = some v) : aConv .strStr (rep j x) h = some (rep j v, h) := by
  unfold kStrStr at e
  split at e
  · cases e; simp [aConv]
  · cases e
theorem kIntStr_rep {x v : AVal} (h : Heap) (e : kIntStr x = some v) : aConv .intStr (rep j x) h = some (rep j v, h) := by
  unfold kIntStr at e
  split at e
  · cases e; simp [aConv]
  · cases e
theorem kToInt_rep {k : IntKind} {x v : AVal} (h : Heap) (e : kToInt k x = some v) : aConv (.toInt k) (rep j x) h = some (rep j v, h) := by
  obtain ⟨i, n, e1, e2⟩ := kToInt_eq (j := j) e
  rw [e1, e2]
  simp
theorem kSlBytes_rep {t : TH} {h : Heap} (S : Sub j t h) {x v : AVal} (e : kSlBytes x t = some v) : aConv .slBytes (rep j x) h = some (rep j v, h) := by cases e
theorem kMkSlice_rep {t : TH} {h : Heap} (S : Sub j t h) {es bytes : Nat} {zero : List AVal} (hz : repL j zero = zero) (len cap : AVal) : RR j (kMkSlice es bytes zero len cap t) (aMkSlice es bytes zero (rep j len) (rep j cap) h) := by
  intro v t' e
  unfold kMkSlice at e
  split at e
  · split at e
    · rename_i hc
      cases e
      refine ⟨_, ?_, S.alloc _⟩
      simp only [rep_int, aMkSlice, if_pos hc, rep_slice, S.next, repL_reps, hz]
    · cases e
  · cases e
theorem kNews_rep {t : TH} {h : Heap} (S : Sub j t h) {es bytes : Nat} {zero : List AVal} (hz : repL j zero = zero) {zeros : Bool} {x : AVal} {p : Nat × List AVal} (e : kNews es bytes zero zeros x t = some p) : aNews es bytes zero zeros (rep j x) h = some (p.1, repL j p.2) := by
  unfold kNews at e
  split at e
  · split at e
    · rename_i hc
      cases e
      simp only [rep_int, aNews, if_pos hc, repL_reps, hz]
    · cases e
  · cases e; simp [aNews]
  · rename_i l
    cases he : Nat.beq es 1 with
    | false => rw [he] at e; cases e
    | true => rw [he] at e; cases e; simp only [rep_str, aNews, he, cond_true, repL_byteCells]
  · rename_i b o l c es' q
    cases hl : Nat.beq l 0 with
    | true =>
      rw [hl] at e
      cases e
      simp only [rep_slice, aNews, hl, cond_true, repL_nil]
    | false =>
      rw [hl, ifB_f] at e
      obtain ⟨h1, e⟩ := ifB_some e
      obtain ⟨cs, hc, e⟩ := VO_some e
      cases e
      have := S.rd hc
      simp only [rep_slice, aNews, hl, cond_false, h1, cond_true]
      rw [show l * es = Nat.mul l es from rfl, this]
      rfl
  · cases e
theorem kGrow_eq {n bytes : Nat} (h : kGrow n bytes = true) : n * bytes ≤ 140737488355328 ∧ n ≤ 4611686018427387904 := by
  cases h1 : Nat.ble (Nat.mul n bytes) 140737488355328 with
  | false =>
    have h' : ifB (Nat.ble (Nat.mul n bytes) 140737488355328) (Nat.ble n 4611686018427387904) false = true := h
    rw [h1] at h'; cases h'
  | true =>
    have h' : ifB (Nat.ble (Nat.mul n bytes) 140737488355328) (Nat.ble n 4611686018427387904) false = true := h
    rw [h1] at h'
    exact ⟨Nat.le_of_ble_eq_true h1, Nat.le_of_ble_eq_true h'⟩
theorem kAppend_rep {t : TH} {h : Heap} (S : Sub j t h) {es bytes : Nat} {zero : List AVal} (hz : repL j zero = zero) (zeros : Bool) (s x : AVal) : RR j (kAppend es bytes zero zeros s x t) (aAppend es bytes zero zeros (rep j s) (rep j x) h) := by
  intro v t' e0
  obtain ⟨⟨n, news⟩, hn, e⟩ := VR_yes e0
  unfold aAppend
  rw [kNews_rep S hz hn]
  simp only [Option.bind_some]
  unfold kApp at e
  split at e
  · simp only [rep_nilSlice]
    cases h0 : Nat.beq n 0 with
    | true => rw [h0] at e; cases e; exact ⟨h, by simp, S⟩
    | false =>
      rw [h0, ifB_f] at e
      obtain ⟨h1, e⟩ := ifB_yes e
      cases e
      simp only [cond_false, if_pos (kGrow_eq h1)]
      exact ⟨_, by simp only [rep_slice, S.next], S.alloc _⟩
  · rename_i b off len cap es' exact_
    obtain ⟨h1, e⟩ := ifB_yes e
    simp only [rep_slice, h1, cond_true]
    cases h0 : Nat.beq n 0 with
    | true => rw [h0] at e; cases e; exact ⟨h, by simp, S⟩
    | false =>
      rw [h0, ifB_f] at e
      simp only [cond_false]
      cases h2 : Nat.ble (len + n) cap with
      | true =>
        rw [show Nat.ble (Nat.add len n) cap = true from h2, ifB_t] at e
        obtain ⟨t2, ht2, e'⟩ := VR_yes e
        cases e'
        obtain ⟨h', e2, S'⟩ := S.wr ht2
        simp only [cond_true]
        rw [show off + len * es = Nat.add off (Nat.mul len es) from rfl, e2]
        exact ⟨h', by simp only [Option.bind_some, rep_slice]; rfl, S'⟩
      | false =>
        rw [show Nat.ble (Nat.add len n) cap = false from h2, ifB_f] at e
        obtain ⟨h3, e2⟩ := ifB_yes e
        simp only [cond_false]
        rw [if_pos (show (len + n) * bytes ≤ 140737488355328 ∧ len + n ≤ 4611686018427387904 from kGrow_eq h3)]
        cases exact_ with
        | true =>
          rw [ifB_t] at e2
          simp only [cond_true]
          cases h4 : Nat.beq len 0 with
          | true =>
            rw [h4, ifB_t] at e2
            cases e2
            exact ⟨_, by simp only [cond_true, rep_slice, S.next], S.alloc _⟩
          | false =>
            rw [h4, ifB_f] at e2
            obtain ⟨old, ho, e4⟩ := VR_yes e2
            cases e4
            simp only [cond_false]
            rw [show len * es = Nat.mul len es from rfl, S.rd ho]
            refine ⟨_, by simp only [Option.bind_some, rep_slice, S.next]; rfl, ?_⟩
            rw [← repL_append]
            exact S.alloc _
        | false =>
          rw [ifB_f] at e2
          obtain ⟨x, hx, e3⟩ := VR_yes e2
          obtain ⟨h4, e3⟩ := ifB_yes e3
          obtain ⟨old, ho, e4⟩ := VR_yes e3
          cases e4
          have hb := S.blk b x hx
          rw [h4] at hb
          simp only [cond_false, hb]
          rw [show len * es = Nat.mul len es from rfl, S.rd ho]
          refine ⟨_, by simp only [Option.bind_some, rep_slice, S.next]; rfl, ?_⟩
          rw [← repL_append]
          exact (S.alloc _).set b none
  · cases e
theorem wr_wrS {h h' : Heap} {b off : Nat} {vs : List AVal} (e : h.wr b off vs = some h') : h.wrS b off vs = some h' := by
  unfold Heap.wr at e
  unfold Heap.wrS
  split at e
  · rename_i x hx
    cases hc : (x.rw && Nat.ble (off + vs.length) x.cells.length) with
    | false => rw [hc] at e; cases e
    | true =>
      rw [hc] at e
      simp only [Bool.and_eq_true] at hc
      have := Nat.le_of_ble_eq_true hc.2
      rw [hc.1, Nat.ble_eq_true_of_le (show off ≤ x.cells.length by omega)]
      exact e
  · cases e
theorem kCopy_rep {t : TH} {h : Heap} (S : Sub j t h) (es : Nat) (dst src : AVal) : RR j (kCopy es dst src t) (aCopy es (rep j dst) (rep j src) h) := by
  intro v t' e
  unfold kCopy at e
  split at e
  · split at e
    · cases e; exact ⟨h, by simp [aCopy], S⟩
    · cases e; exact ⟨h, by simp [aCopy], S⟩
    · cases e; exact ⟨h, by simp [aCopy], S⟩
    · cases e
  · rename_i b off len cap es' q
    obtain ⟨h1, e⟩ := ifB_yes e
    split at e
    · cases e; exact ⟨h, by simp [aCopy, h1], S⟩
    · rename_i b2 off2 len2 cap2 es2 q2 _
      obtain ⟨h2, e⟩ := ifB_yes e
      cases h3 : Nat.beq (Nat.min len2 len) 0 with
      | true =>
        rw [h3] at e
        cases e
        exact ⟨h, by simp only [rep_slice, aCopy, h1, h2, h3, cond_true, rep_int], S⟩
      | false =>
        rw [h3, ifB_f] at e
        obtain ⟨cs, hc, e⟩ := VR_yes e
        obtain ⟨t2, ht, e⟩ := VR_yes e
        cases e
        obtain ⟨h', e2, S'⟩ := S.wr ht
        have e2 := wr_wrS e2
        have e3 := S.rd hc
        exact ⟨h', by simp only [rep_slice, aCopy, h1, h2, h3, cond_true, cond_false]; rw [show Nat.min len2 len * es = Nat.mul (Nat.min len2 len) es from rfl, e3]; simp only [Option.bind_some, e2, rep_int], S'⟩
    · rename_i l _
      obtain ⟨h2, e⟩ := ifB_yes e
      cases h3 : Nat.beq (Nat.min l.length len) 0 with
      | true =>
        rw [h3] at e
        cases e
        exact ⟨h, by simp only [rep_slice, rep_str, aCopy, h1, h2, h3, cond_true, rep_int], S⟩
      | false =>
        rw [h3, ifB_f] at e
        obtain ⟨t2, ht, e⟩ := VR_yes e
        cases e
        obtain ⟨h', e2, S'⟩ := S.wr ht
        have e2 := wr_wrS e2
        rw [repL_byteCells] at e2
        exact ⟨h', by simp only [rep_slice, rep_str, aCopy, h1, h2, h3, cond_true, cond_false, e2, Option.bind_some, rep_int], S'⟩
    · cases e
  · cases e
theorem kClear_rep {t : TH} {h : Heap} (S : Sub j t h) {zero : List AVal} (hz : repL j zero = zero) (s : AVal) : RR j (kClear zero s t) (aClear zero (rep j s) h) := by
  intro v t' e
  unfold kClear at e
  split at e
  · cases e; exact ⟨h, by simp [aClear], S⟩
  · rename_i b off len cap es q
    cases h3 : Nat.beq len 0 with
    | true =>
      rw [h3] at e
      cases e
      exact ⟨h, by simp [aClear, h3], S⟩
    | false =>
      rw [h3, ifB_f] at e
      obtain ⟨h1, e⟩ := ifB_yes e
      obtain ⟨t2, ht, e⟩ := VR_yes e
      cases e
      obtain ⟨h', e2, S'⟩ := S.wr ht
      rw [repL_reps, hz] at e2
      exact ⟨h', by simp only [rep_slice, aClear, h3, h1, cond_false, cond_true, e2, Option.bind_some, rep_tuple, repL_nil], S'⟩
  · cases e
end Go.Fw.K
namespace Go.Fw.K
open Go.Fw
variable {j : Nat}
def LR (j : Nat) : KLog → Log → Prop
  | .rd b o n, .rd b' o' n' => b = b' ∧ o = o' ∧ n = n'
  | .lrd b o n, .lrd b' o' n' => b = b' ∧ o = o' ∧ n = n'
  | .al b, .al b' => b = b'
  | .lal b, .lal b' => b = b'
  | .ef β t β' t', .ef γ h γ' h' => γ = β.map (fun p => (p.1, repL j p.2)) ∧ γ' = β'.map (fun p => (p.1, repL j p.2)) ∧ Sub j t h ∧ Sub j t' h'
  | _, _ => False
def LRo (j : Nat) : Option KLog → Option Log → Prop
  | none, none => True
  | some a, some b => LR j a b
  | _, _ => False
def LRs (j : Nat) : List (Nat × Option KLog) → List (Nat × Option Log) → Prop
  | [], [] => True
  | a :: l, b :: m => a.1 = b.1 ∧ LRo j a.2 b.2 ∧ LRs j l m
  | _, _ => False
theorem lookLog_rel : ∀ {l : List (Nat × Option KLog)} {m : List (Nat × Option Log)} (i : Nat), LRs j l m →
    (∀ a, kLookLog l i = some a → ∃ b, lookLog m i = some b ∧ LRo j a b)
  | [], [], i, _, a, h => by cases h
  | [], _ :: _, _, h, _, _ => h.elim
  | _ :: _, [], _, h, _, _ => h.elim
  | (u, v) :: l, (u', v') :: m, i, ⟨h1, h2, h3⟩, a, h => by
    have h1 : u = u' := h1
    subst h1
    rw [kLookLog] at h
    rw [lookLog]
    cases hu : Nat.beq u i with
    | true => rw [hu] at h; cases h; exact ⟨v', rfl, h2⟩
    | false => rw [hu] at h; exact lookLog_rel i h3 a h
theorem lookB_map (l : List (Nat × List AVal)) (t : Nat) : lookB (l.map fun p => (p.1, repL j p.2)) t = (lookB l t).map (repL j) := by
  induction l with
  | nil => rfl
  | cons p l ih =>
    simp only [List.map_cons, lookB, ih]
    cases Nat.beq p.1 t <;> rfl
theorem beqO_eq' {a b : Option (List AVal)} (h : beqO a b = true) : ∃ c, a = some c ∧ b = some c := by
  cases a with
  | none => cases b <;> cases h
  | some a =>
    cases b with
    | none => cases h
    | some b => exact ⟨a, rfl, by rw [beqL_eq a b h]⟩
theorem stays_rel {a e : KLog} {a' e' : Log} (ha : LR j a a') (he : LR j e e') (h : kStays a e = true) : stays a' e' = true := by
  cases a <;> cases e <;> first | (cases h; done) | skip
  all_goals cases a' <;> cases e' <;> first | exact ha.elim | exact he.elim | skip
  · obtain ⟨rfl, rfl, rfl⟩ := ha
    have he : _ = _ := he
    subst he
    exact h
  · rfl
  · rename_i b o n β t β' t' _ _ _ γ g γ' g'
    obtain ⟨rfl, rfl, rfl⟩ := ha
    obtain ⟨_, _, S, S'⟩ := he
    obtain ⟨c, h1, h2⟩ := beqO_eq' (show beqO (t.rd b o n) (t'.rd b o n) = true from h)
    show beqO (g.rd b o n) (g'.rd b o n) = true
    rw [S.rd h1, S'.rd h2]
    exact AVal.beqL_refl _
  · rfl
  · obtain ⟨rfl, rfl, rfl⟩ := ha
    have he : _ = _ := he
    subst he
    exact h
  · rename_i b o n β t β' t' _ _ _ γ g γ' g'
    obtain ⟨rfl, rfl, rfl⟩ := ha
    obtain ⟨rfl, rfl, S, S'⟩ := he
    obtain ⟨c, h1, h2⟩ := beqO_eq' (show beqO ((lookB β b).bind fun c => cut c o n) ((lookB β' b).bind fun c => cut c o n) = true from h)
    show beqO ((lookB (β.map fun p => (p.1, repL j p.2)) b).bind fun c => rdL c o n) ((lookB (β'.map fun p => (p.1, repL j p.2)) b).bind fun c => rdL c o n) = true
    rw [lookB_map, lookB_map]
    cases hb : lookB β b with
    | none => rw [hb] at h1; cases h1
    | some x =>
      cases hb' : lookB β' b with
      | none => rw [hb'] at h2; cases h2
      | some y =>
        rw [hb] at h1
        rw [hb'] at h2
        simp only [Option.map_some, Option.bind_some] at h1 h2 ⊢
        rw [cut_rdL h1, cut_rdL h2]
        exact AVal.beqL_refl _
  · rename_i b β t β' t' _ γ g γ' g'
    have ha : _ = _ := ha
    subst ha
    obtain ⟨rfl, rfl, S, S'⟩ := he
    have h' : (match t.m.get b, t'.m.get b with
     | some x, some y => AVal.beqL x.cells y.cells && (x.rw == y.rw)
     | _, _ => false) = true := h
    show (match g.blk b, g'.blk b with
     | some x, some y => AVal.beqL x.cells y.cells && (x.rw == y.rw)
     | _, _ => false) = true
    cases hx : t.m.get b with
    | none => rw [hx] at h'; cases h'
    | some x =>
      cases hy : t'.m.get b with
      | none => rw [hx, hy] at h'; cases h'
      | some y =>
        rw [hx, hy] at h'
        simp only [Bool.and_eq_true] at h'
        rw [S.blk b x hx, S'.blk b y hy]
        simp only [Bool.and_eq_true]
        rw [beqL_eq _ _ h'.1]
        exact ⟨AVal.beqL_refl _, h'.2⟩
  · rename_i b β t β' t' _ γ g γ' g'
    have ha : _ = _ := ha
    subst ha
    obtain ⟨rfl, rfl, S, S'⟩ := he
    obtain ⟨c, h1, h2⟩ := beqO_eq' (show beqO (lookB β b) (lookB β' b) = true from h)
    show beqO (lookB (β.map fun p => (p.1, repL j p.2)) b) (lookB (β'.map fun p => (p.1, repL j p.2)) b) = true
    rw [lookB_map, lookB_map, h1, h2]
    exact AVal.beqL_refl _
theorem kCheck_rel {l : List (Nat × Option KLog)} {m : List (Nat × Option Log)} (hl : LRs j l m) : ∀ {ps : List (Nat × Nat)}, kCheck l ps = true → checkPairs m ps = true
  | [], _ => rfl
  | (i, q) :: r, h => by
    rw [kCheck, Bool.and_eq_true] at h
    rw [checkPairs, Bool.and_eq_true]
    refine ⟨?_, kCheck_rel hl h.2⟩
    have h1 := h.1
    split at h1
    · rename_i a e ha he
      obtain ⟨a', ha', hra⟩ := lookLog_rel i hl a ha
      obtain ⟨e', he', hre⟩ := lookLog_rel q hl e he
      rw [ha', he']
      cases e with
      | none => cases a <;> cases h1
      | some e =>
        cases e' with
        | none => exact hre.elim
        | some e' =>
          cases a with
          | none =>
            cases a' with
            | none => rfl
            | some a' => exact hra.elim
          | some a =>
            cases a' with
            | none => exact hra.elim
            | some a' => exact stays_rel hra hre h1
    · cases h1
structure ER (j : Nat) (s : KEnv) (e : Env) : Prop where
  vals : e.vals = s.vals.map fun p => (p.1, rep j p.2)
  lads : e.lads = s.lads
  locs : e.locs = s.locs.map fun p => (p.1, repL j p.2)
  log : LRs j s.log e.log
  base : e.base = s.base
theorem look_map (l : List (Nat × AVal)) (t : Nat) : look (l.map fun p => (p.1, rep j p.2)) t = rep j (look l t) := by
  induction l with
  | nil => simp [look]
  | cons p l ih =>
    simp only [List.map_cons, look, ih]
    cases Nat.beq p.1 t <;> rfl
theorem setB_map (l : List (Nat × List AVal)) (t : Nat) (c : List AVal) : (setB l t c).map (fun p => (p.1, repL j p.2)) = setB (l.map fun p => (p.1, repL j p.2)) t (repL j c) := by
  induction l with
  | nil => rfl
  | cons p l ih =>
    simp only [List.map_cons, setB]
    cases Nat.beq p.1 t
    · simp only [cond_false, List.map_cons, ih]
    · simp only [cond_true, List.map_cons]
namespace ER
variable {s : KEnv} {e : Env}
theorem get (E : ER j s e) (t : Nat) : e.get t = rep j (s.get t) := by
  unfold Env.get KEnv.get
  rw [E.lads, E.vals]
  cases lookA s.lads t with
  | some p => simp
  | none => exact look_map _ _
theorem lad (E : ER j s e) (x : AOpd) : e.lad x = s.lad x := by
  cases x with
  | tmp t => show lookA e.lads t = lookA s.lads t; rw [E.lads]
  | const v => rfl
def pOpd : AOpd → Bool
  | .tmp _ => true
  | .const v => pv v
theorem ev (E : ER j s e) {x : AOpd} (hx : pOpd x = true) : e.ev x = rep j (s.ev x) := by
  cases x with
  | tmp t => exact E.get t
  | const v => exact (pv_rep v hx).symm
theorem evs (E : ER j s e) : ∀ {l : List AOpd}, l.all pOpd = true → l.map e.ev = repL j (l.map s.ev)
  | [], _ => rfl
  | x :: l, h => by
    simp only [List.all_cons, Bool.and_eq_true] at h
    simp only [List.map_cons, repL_cons, E.ev h.1, E.evs h.2]
theorem set (E : ER j s e) (d : Nat) (v : AVal) : ER j (s.set d v) (e.set d (rep j v)) :=
  ⟨by show (d, rep j v) :: e.vals = _; rw [E.vals]; rfl, by show dropA e.lads d = dropA s.lads d; rw [E.lads], E.locs, E.log, E.base⟩
theorem setL (E : ER j s e) (d l off : Nat) : ER j (s.setL d l off) (e.setL d l off) :=
  ⟨E.vals, by show _ :: e.lads = _ :: s.lads; rw [E.lads], E.locs, E.log, E.base⟩
theorem newLoc (E : ER j s e) (d : Nat) (cs : List AVal) : ER j (s.newLoc d cs) (e.newLoc d (repL j cs)) :=
  ⟨E.vals, by show _ :: e.lads = _ :: s.lads; rw [E.lads], by show _ :: e.locs = _; rw [E.locs]; rfl, E.log, E.base⟩
theorem locB (E : ER j s e) (l : Nat) : lookB e.locs l = (lookB s.locs l).map (repL j) := by rw [E.locs, lookB_map]
theorem fresh (E : ER j s e) (d : Nat) : e.fresh d = s.fresh d := by
  unfold Env.fresh KEnv.fresh
  rw [E.locB]
  cases lookB s.locs d <;> rfl
theorem addLog (E : ER j s e) (i : Nat) {a : Option KLog} {b : Option Log} (h : LRo j a b) : ER j (s.addLog i a) (e.addLog i b) := ⟨E.vals, E.lads, E.locs, ⟨rfl, h, E.log⟩, E.base⟩
theorem noLog (E : ER j s e) : ER j s.noLog e.noLog := ⟨E.vals, E.lads, E.locs, trivial, E.base⟩
theorem setLoc (E : ER j s e) (l : Nat) (c : List AVal) : ER j { s with locs := setB s.locs l c } { e with locs := setB e.locs l (repL j c) } :=
  ⟨E.vals, E.lads, by show setB e.locs l (repL j c) = _; rw [E.locs, ← setB_map], E.log, E.base⟩
theorem noLads (E : ER j s e) (live : List Nat) : e.noLads live = s.noLads live := by unfold Env.noLads KEnv.noLads; rw [E.lads]; congr 1
theorem vout (E : ER j s e) (live : List Nat) : e.vout live = repL j (s.vout live) := by
  unfold Env.vout KEnv.vout
  rw [repL_map, List.map_map]
  exact List.map_congr_left fun t _ => E.get t
theorem upd (E : ER j s e) (dsts live : List Nat) (xs : List AVal) : ER j (s.upd dsts live xs) (e.upd dsts live (repL j xs)) where
  vals := by
    show _ ++ _ ++ e.vals = List.map _ (_ ++ _ ++ s.vals)
    rw [List.map_append, List.map_append, E.vals, List.map_map, List.map_map]
    have h1 : (live.zipIdx.map fun p => (p.1, (repL j xs).getD p.2 .undef)) = (live.zipIdx.map ((fun p : Nat × AVal => (p.1, rep j p.2)) ∘ fun p => (p.1, xs.getD p.2 .undef))) := List.map_congr_left fun p _ => by simp only [Function.comp, ← repL_getD]
    have h2 : (dsts.map fun d => (d, AVal.undef)) = dsts.map ((fun p : Nat × AVal => (p.1, rep j p.2)) ∘ fun d => (d, AVal.undef)) := List.map_congr_left fun p _ => by simp
    rw [h1, h2]
  lads := by show dropAs e.lads dsts = dropAs s.lads dsts; rw [E.lads]
  locs := E.locs
  log := E.log
  base := E.base
theorem locOut (E : ER j s e) : ∀ {l : List Nat} {q : List AVal}, s.locOut l = some q → e.locOut l = some (repL j q)
  | [], q, h => by cases h; rfl
  | l :: r, q, h => by
    rw [KEnv.locOut] at h
    rw [Env.locOut, E.locB, E.lads]
    split at h
    · rename_i cs l' h1 h2
      rw [h1, h2]
      cases hb : Nat.beq l l' with
      | false => rw [hb] at h; cases h
      | true =>
        rw [hb] at h
        simp only [cond_true, Option.map_some] at h ⊢
        cases hr : s.locOut r with
        | none => rw [hr] at h; cases h
        | some vs =>
          rw [hr] at h
          cases h
          rw [E.locOut hr]
          simp [hb]
    · cases h
theorem out (E : ER j s e) {live : Live} {q : List AVal} (h : s.out live = some q) : e.out live = some (repL j q) := by
  unfold KEnv.out at h
  unfold Env.out
  cases hl : s.locOut live.locs with
  | none => rw [hl] at h; cases h
  | some cs =>
    rw [hl] at h
    cases h
    rw [E.locOut hl]
    simp only [Option.bind_some, repL_append]
    congr 2
    rw [repL_map, List.map_map]
    exact List.map_congr_left fun t _ => E.get t
theorem mkE (live : Live) (xs : List AVal) : ER j (kMk live xs) (Env.mk' live (repL j xs)) where
  vals := by
    show List.map _ _ = List.map _ (List.map _ _)
    rw [List.map_map]
    exact List.map_congr_left fun p _ => by simp only [Function.comp, ← repL_getD]
  lads := rfl
  locs := by
    show List.map _ _ = List.map _ (List.map _ _)
    rw [List.map_map]
    refine List.map_congr_left fun p _ => ?_
    simp only [Function.comp, ← repL_getD]
    congr 1
    generalize xs.getD (live.vals.length + p.2) .undef = v
    cases v with
    | func f c =>
      cases hf : Nat.beq f VF with
      | false => rw [rep_func hf]; rfl
      | true =>
        rw [rep_lanes hf]
        rcases laneOf_leaf (j := j) c with ⟨k, n, e⟩ | ⟨s, e⟩ | ⟨b, e⟩ <;> rw [e] <;> rfl
    | _ => simp [AVal.aggCells, kAggCells, onAgg]
  log := trivial
  base := rfl
end ER
def JR (j : Nat) (a : KJ) (b : Option J) : Prop := ∀ i xs t, a = .out i xs t → ∃ h, b = some (i, repL j xs, h) ∧ Sub j t h
theorem JR.no (b : Option J) : JR j .no b := fun _ _ _ h => by cases h
theorem JR.out {t : TH} {h : Heap} (S : Sub j t h) (i : Nat) (xs : List AVal) : JR j (.out i xs t) (some (i, repL j xs, h)) := fun _ _ _ e => by cases e; exact ⟨h, rfl, S⟩
theorem JR_V {α : Type} {x : Option α} {f : α → KJ} {b : Option J} (h : ∀ v, x = some v → JR j (f v) b) : JR j (V x f) b := by
  cases x with
  | none => exact JR.no b
  | some v => exact h v rfl
theorem JR_R {x : KR} {f : AVal → TH → KJ} {b : Option J} (h : ∀ v t, x = .yes v t → JR j (f v t) b) : JR j (R x f) b := by
  cases x with
  | no => exact JR.no b
  | yes v t => exact h v t rfl
theorem JR_J {x : KJ} {f : Nat → List AVal → TH → KJ} {b : Option J} (h : ∀ i xs t, x = .out i xs t → JR j (f i xs t) b) : JR j (Jn x f) b := by
  cases x with
  | no => exact JR.no b
  | out i xs t => exact h i xs t rfl
def pOp : AOp → Bool
  | .mov _ x | .un _ _ x | .conv _ _ x | .box _ _ x | .load _ _ _ x | .nilchk _ x | .field _ _ _ _ x | .faddr _ _ x | .mkIface _ _ x | .extract _ x _ | .tassert _ _ x | .len _ _ x | .cap _ x => ER.pOpd x
  | .pick _ c a b => ER.pOpd c && ER.pOpd a && ER.pOpd b
  | .bin _ _ _ x y | .store _ _ x y | .iaddr _ _ _ x y | .index _ _ x y | .copy _ _ x y => ER.pOpd x && ER.pOpd y
  | .alloc _ _ zero => pvL zero
  | .build _ zero parts => pvL zero && parts.all fun p => ER.pOpd p.2.2
  | .buildSl _ zero _ _ parts => pvL zero && parts.all fun p => ER.pOpd p.2
  | .slice _ _ x lo hi mx => ER.pOpd x && lo.all ER.pOpd && hi.all ER.pOpd && mx.all ER.pOpd
  | .mkSlice _ _ _ zero l c => pvL zero && ER.pOpd l && ER.pOpd c
  | .mkFunc _ f caps => !(Nat.beq f VF) && caps.all ER.pOpd
  | .call _ _ args | .minmax _ _ args => args.all ER.pOpd
  | .callv _ fn args => ER.pOpd fn && args.all ER.pOpd
  | .invoke _ _ r args => ER.pOpd r && args.all ER.pOpd
  | .append _ _ _ zero _ s x => pvL zero && ER.pOpd s && ER.pOpd x
  | .clear _ zero s => pvL zero && ER.pOpd s
  | .fl _ _ _ zero parts => pvL zero && parts.all fun p => ER.pOpd p.2
mutual
def pItem : AItem → Bool
  | .op _ o => pOp o
  | .guard _ _ items _ _ => pItems items
def pItems : List AItem → Bool
  | [] => true
  | x :: l => pItem x && pItems l
end
def pCode : ACode → Bool
  | .region items _ | .regionF _ items _ => pItems items
  | .seq a b => pCode a && pCode b
  | .cond c a b => ER.pOpd c && pCode a && pCode b
  | .block _ c | .loop _ _ c | .join _ c => pCode c
  | _ => true
theorem logRd_rel {x : AVal} (n : Nat) : LRo j (kLogRd x n) (logRd (rep j x) n) := by
  cases x with
  | func f c =>
    cases hf : Nat.beq f VF with
    | false => rw [rep_func hf]; trivial
    | true =>
      rw [rep_lanes hf]
      rcases laneOf_leaf (j := j) c with ⟨k, n, e⟩ | ⟨s, e⟩ | ⟨b, e⟩ <;> rw [e] <;> trivial
  | ptr b o => simp only [rep_ptr]; exact ⟨rfl, rfl, rfl⟩
  | _ => simp only [rep_undef, rep_bool, rep_int, rep_str, rep_nilPtr, rep_nilSlice, rep_slice, rep_nilFunc, rep_nilIface, rep_agg, rep_tuple, rep_iface]; trivial
theorem logBs_rel {x : AVal} : LRo j (kLogBs x) (logBs (rep j x)) := by
  cases x with
  | func f c =>
    cases hf : Nat.beq f VF with
    | false => rw [rep_func hf]; trivial
    | true =>
      rw [rep_lanes hf]
      rcases laneOf_leaf (j := j) c with ⟨k, n, e⟩ | ⟨s, e⟩ | ⟨b, e⟩ <;> rw [e] <;> trivial
  | slice b o l c e q => simp only [rep_slice]; exact ⟨rfl, rfl, rfl⟩
  | _ => simp only [rep_undef, rep_bool, rep_int, rep_str, rep_nilPtr, rep_nilSlice, rep_ptr, rep_nilFunc, rep_nilIface, rep_agg, rep_tuple, rep_iface]; trivial
theorem logOf_rel {o : AOp} (ho : pOp o = true) {s s' : KEnv} {e e' : Env} {t t' : TH} {h h' : Heap} (E : ER j s e) (E' : ER j s' e') (S : Sub j t h) (S' : Sub j t' h') :
    LRo j (kLogOf o s t s' t') (logOf o e h e' h') := by
  have hef : LRo j (some (.ef s.locs t s'.locs t')) (some (.ef e.locs h e'.locs h')) := ⟨E.locs, E'.locs, S, S'⟩
  cases o with
  | load d agg n x =>
    unfold kLogOf logOf
    simp only
    rw [E.lad]
    cases s.lad x with
    | some p => exact ⟨rfl, rfl, rfl⟩
    | none => simp only; rw [E.ev ho]; exact logRd_rel n
  | conv d c x =>
    cases c with
    | bytesStr => show LRo j (kLogBs (s.ev x)) (logBs (e.ev x)); rw [E.ev ho]; exact logBs_rel
    | slBytes => exact hef
    | strBytes => exact S.next
    | _ => trivial
  | box d loc x => cases loc with | true => exact rfl | false => exact S.next
  | alloc d loc z => cases loc with | true => exact rfl | false => exact S.next
  | buildSl => exact S.next
  | mkSlice => exact S.next
  | store => exact hef
  | call => exact hef
  | callv => exact hef
  | invoke => exact hef
  | append => exact hef
  | copy => exact hef
  | clear => exact hef
  | _ => trivial
end Go.Fw.K
namespace Go.Fw.K
open Go.Fw
variable {j : Nat}
def CR (j : Nat) (call : TCall) (callE : Call) : Prop := ∀ f args t h, Sub j t h → RR j (call f args t) (callE f (repL j args) h)
def KRel (j : Nat) (k : KK) (kE : Env → Heap → Option J) : Prop := ∀ s e t h, ER j s e → Sub j t h → JR j (k s t) (kE e h)
theorem parts3 {s : KEnv} {e : Env} (E : ER j s e) {parts : List (Nat × Nat × AOpd)} (h : (parts.all fun p => ER.pOpd p.2.2) = true) :
    (parts.map fun p => (p.1, p.2.1, e.ev p.2.2)) = (parts.map fun p => (p.1, p.2.1, s.ev p.2.2)).map fun p => (p.1, p.2.1, rep j p.2.2) := by
  rw [List.map_map]
  refine List.map_congr_left fun p hp => ?_
  simp only [Function.comp, E.ev (List.all_eq_true.1 h p hp)]
theorem parts2 {s : KEnv} {e : Env} (E : ER j s e) (es : Nat) {parts : List (Nat × AOpd)} (h : (parts.all fun p => ER.pOpd p.2) = true) :
    (parts.map fun p => (p.1 * es, es, e.ev p.2)) = (parts.map fun p => (p.1 * es, es, s.ev p.2)).map fun p => (p.1, p.2.1, rep j p.2.2) := by
  rw [List.map_map]
  refine List.map_congr_left fun p hp => ?_
  simp only [Function.comp, E.ev (List.all_eq_true.1 h p hp)]
theorem omap {s : KEnv} {e : Env} (E : ER j s e) {x : Option AOpd} (h : x.all ER.pOpd = true) : x.map e.ev = (x.map s.ev).map (rep j) := by
  cases x with
  | none => rfl
  | some y => simp only [Option.map_some]; rw [E.ev h]
theorem step_rel {call : TCall} {callE : Call} (hc : CR j call callE) {g : Bool} {o : AOp} (ho : pOp o = true) {s : KEnv} {e : Env} {t : TH} {h : Heap} (E : ER j s e) (S : Sub j t h) {k : KK} {kE : Env → Heap → Option J} (hk : KRel j k kE) :
    JR j (kStep call g o s t k) (stepOp callE g o e h kE) := by
  have hbr : ∀ {a : KR} {b : Option (AVal × Heap)} (d : Nat), RR j a b → JR j (R a fun v h' => k (s.set d v) h') (b.bind fun r => kE (e.set d r.1) r.2) := by
    intro a b d hr
    refine JR_R fun v t' he => ?_
    obtain ⟨h', hb, S'⟩ := hr v t' he
    rw [hb]
    exact hk _ _ _ _ (E.set d v) S'
  cases o with
  | mov d x =>
    unfold kStep stepOp
    simp only
    rw [E.lad]
    cases s.lad x with
    | some p => exact hk _ _ _ _ (E.setL d p.1 p.2) S
    | none => simp only; rw [E.ev ho]; exact hk _ _ _ _ (E.set d _) S
  | pick d c a b =>
    simp only [pOp, Bool.and_eq_true] at ho
    refine JR_V fun v hv => ?_
    show JR j _ ((aPick (e.ev c) (e.ev a) (e.ev b)).bind fun v => kE (e.set d v) h)
    rw [E.ev ho.1.1, E.ev ho.1.2, E.ev ho.2, kPick_rep hv]
    exact hk _ _ _ _ (E.set d v) S
  | bin d op tag x y =>
    simp only [pOp, Bool.and_eq_true] at ho
    refine JR_V fun v hv => ?_
    show JR j _ ((aBin op tag (e.ev x) (e.ev y)).bind fun v => kE (e.set d v) h)
    rw [E.ev ho.1, E.ev ho.2, kBin_rep hv]
    exact hk _ _ _ _ (E.set d v) S
  | un d op x =>
    refine JR_V fun v hv => ?_
    show JR j _ ((aUn op (e.ev x)).bind fun v => kE (e.set d v) h)
    rw [E.ev ho, kUn_rep hv]
    exact hk _ _ _ _ (E.set d v) S
  | conv d c x =>
    have hx : e.ev x = rep j (s.ev x) := E.ev ho
    show JR j _ ((aConv c (e.ev x) h).bind fun r => kE (e.set d r.1) r.2)
    rw [hx]
    cases c with
    | toInt ki =>
      refine JR_V fun v hv => ?_
      rw [kToInt_rep h hv]
      exact hk _ _ _ _ (E.set d v) S
    | strBytes => exact hbr d (kBytes_rep S _)
    | bytesStr =>
      refine JR_V fun v hv => ?_
      rw [kStr_rep S hv]
      exact hk _ _ _ _ (E.set d v) S
    | strStr =>
      refine JR_V fun v hv => ?_
      rw [kStrStr_rep h hv]
      exact hk _ _ _ _ (E.set d v) S
    | intStr =>
      refine JR_V fun v hv => ?_
      rw [kIntStr_rep h hv]
      exact hk _ _ _ _ (E.set d v) S
    | slBytes => exact JR.no _
  | box d loc x =>
    have hx : e.ev x = rep j (s.ev x) := E.ev ho
    cases loc with
    | true =>
      show JR j (bif !g && s.fresh d then V (kCellsQ (s.ev x)) fun cs => k (s.newLoc d cs) t else .no) (bif !g && e.fresh d then (e.ev x).cells?.bind fun cs => kE (e.newLoc d cs) h else none)
      rw [E.fresh, hx]
      cases !g && s.fresh d with
      | false => exact JR.no _
      | true =>
        refine JR_V fun cs hcs => ?_
        rw [cond_true, cellsQ_rep hcs]
        exact hk _ _ _ _ (E.newLoc d cs) S
    | false =>
      refine JR_V fun cs hcs => ?_
      show JR j _ ((e.ev x).cells?.bind fun cs => kE (e.set d (.ptr h.next 0)) (h.alloc cs))
      rw [hx, cellsQ_rep hcs]
      have := E.set d (.ptr t.next 0)
      rw [rep_ptr, S.next] at this
      rw [S.next]
      exact hk _ _ _ _ this (S.alloc cs)
  | alloc d loc zero =>
    have hz : repL j zero = zero := pvL_rep zero ho
    cases loc with
    | true =>
      show JR j (bif !g && s.fresh d then k (s.newLoc d zero) t else .no) (bif !g && e.fresh d then kE (e.newLoc d zero) h else none)
      rw [E.fresh]
      cases !g && s.fresh d with
      | false => exact JR.no _
      | true =>
        have := E.newLoc d zero
        rw [hz] at this
        exact hk _ _ _ _ this S
    | false =>
      show JR j (k (s.set d (.ptr t.next 0)) (t.alloc zero)) (kE (e.set d (.ptr h.next 0)) (h.alloc zero))
      have := E.set d (.ptr t.next 0)
      rw [rep_ptr, S.next] at this
      rw [S.next]
      have S' := S.alloc zero
      rw [hz] at S'
      exact hk _ _ _ _ this S'
  | build d zero parts =>
    simp only [pOp, Bool.and_eq_true] at ho
    refine JR_V fun cs hcs => ?_
    show JR j _ ((aFill zero (parts.map fun p => (p.1, p.2.1, e.ev p.2.2))).bind fun cs => kE (e.set d (.agg cs)) h)
    have h1 := aFill_rep (j := j) hcs
    rw [pvL_rep zero ho.1, ← parts3 E ho.2] at h1
    rw [h1]
    have := E.set d (.agg cs)
    rw [rep_agg] at this
    exact hk _ _ _ _ this S
  | buildSl d zero es len parts =>
    simp only [pOp, Bool.and_eq_true] at ho
    refine JR_V fun cs hcs => ?_
    show JR j _ ((aFill (reps zero len) (parts.map fun p => (p.1 * es, es, e.ev p.2))).bind fun cs => kE (e.set d (.slice h.next 0 len len es true)) (h.alloc cs))
    have h1 := aFill_rep (j := j) hcs
    rw [repL_reps, pvL_rep zero ho.1, ← parts2 E es ho.2] at h1
    rw [h1]
    have := E.set d (.slice t.next 0 len len es true)
    rw [rep_slice, S.next] at this
    rw [S.next]
    exact hk _ _ _ _ this (S.alloc cs)
  | load d agg n x =>
    unfold kStep stepOp
    simp only
    rw [E.lad]
    cases s.lad x with
    | some p =>
      simp only
      rw [E.locB]
      cases lookB s.locs p.1 with
      | none => exact JR.no _
      | some cs =>
        refine JR_V fun v hv => ?_
        have h1 := kLdL_rep (j := j) hv
        simp only [Option.map_some, Option.bind_some]
        cases h2 : rdL (repL j cs) p.2 n with
        | none => rw [h2] at h1; cases h1
        | some c =>
          rw [h2] at h1
          simp only [Option.bind_some] at h1 ⊢
          rw [h1]
          exact hk _ _ _ _ (E.set d v) S
    | none =>
      refine JR_V fun v hv => ?_
      have h1 := kLoad_rep S hv
      simp only
      rw [E.ev ho]
      cases h2 : aLoad h n (rep j (s.ev x)) with
      | none => rw [h2] at h1; cases h1
      | some c =>
        rw [h2] at h1
        simp only [Option.bind_some] at h1 ⊢
        rw [h1]
        exact hk _ _ _ _ (E.set d v) S
  | store b n x v =>
    simp only [pOp, Bool.and_eq_true] at ho
    unfold kStep stepOp
    simp only
    rw [E.lad, E.ev ho.2]
    cases s.lad x with
    | some p =>
      simp only
      cases g with
      | true => exact JR.no _
      | false =>
        simp only [Bool.not_false, cond_true]
        rw [E.locB]
        cases lookB s.locs p.1 with
        | none => exact JR.no _
        | some old =>
          refine JR_V fun q hq => ?_
          obtain ⟨cs, h1, h2, h3⟩ := kStL_rep (j := j) hq
          simp only [h1, Option.bind_some, Option.map_some, h2, cond_true, h3]
          exact hk _ _ _ _ (E.setLoc p.1 q) S
    | none =>
      refine JR_V fun t' ht => ?_
      obtain ⟨cs, h', h1, h2, S'⟩ := kSt_rep S ht
      simp only [h1, Option.bind_some]
      rw [E.ev ho.1, h2]
      exact hk _ _ _ _ E S'
  | nilchk d x =>
    unfold kStep stepOp
    simp only
    rw [E.lad]
    cases s.lad x with
    | some p => exact hk _ _ _ _ (E.setL d p.1 p.2) S
    | none =>
      refine JR_V fun v hv => ?_
      simp only
      rw [E.ev ho, kNil_rep hv]
      exact hk _ _ _ _ (E.set d v) S
  | field d agg off n x =>
    refine JR_V fun v hv => ?_
    have h1 := kField_rep (j := j) hv
    show JR j _ ((aField off n (e.ev x)).bind fun cs => (fromCells agg cs).bind fun v => kE (e.set d v) h)
    rw [E.ev ho]
    cases h2 : aField off n (rep j (s.ev x)) with
    | none => rw [h2] at h1; cases h1
    | some c =>
      rw [h2] at h1
      simp only [Option.bind_some] at h1 ⊢
      rw [h1]
      exact hk _ _ _ _ (E.set d v) S
  | faddr d off x =>
    unfold kStep stepOp
    simp only
    rw [E.lad]
    cases s.lad x with
    | some p => exact hk _ _ _ _ (E.setL d p.1 _) S
    | none =>
      refine JR_V fun v hv => ?_
      simp only
      rw [E.ev ho, kFaddr_rep hv]
      exact hk _ _ _ _ (E.set d v) S
  | iaddr d arr es x i =>
    simp only [pOp, Bool.and_eq_true] at ho
    cases arr with
    | some len =>
      unfold kStep stepOp
      simp only
      rw [E.lad]
      cases s.lad x with
      | some p =>
        refine JR_V fun n hn => ?_
        simp only
        rw [E.ev ho.2, kIx_rep hn]
        exact hk _ _ _ _ (E.setL d p.1 _) S
      | none =>
        refine JR_V fun v hv => ?_
        simp only
        rw [E.ev ho.1, E.ev ho.2, kIaddrA_rep hv]
        exact hk _ _ _ _ (E.set d v) S
    | none =>
      refine JR_V fun v hv => ?_
      show JR j _ ((aIaddr es (e.ev x) (e.ev i)).bind fun v => kE (e.set d v) h)
      rw [E.ev ho.1, E.ev ho.2, kIaddr_rep hv]
      exact hk _ _ _ _ (E.set d v) S
  | index d ki x i =>
    simp only [pOp, Bool.and_eq_true] at ho
    cases ki with
    | str =>
      refine JR_V fun v hv => ?_
      show JR j _ ((aIndexStr (e.ev x) (e.ev i)).bind fun v => kE (e.set d v) h)
      rw [E.ev ho.1, E.ev ho.2, kIndexStr_rep hv]
      exact hk _ _ _ _ (E.set d v) S
    | arr len es agg =>
      refine JR_V fun v hv => ?_
      have h1 := kIndexArr_rep (j := j) hv
      show JR j _ ((aIndexArr len es (e.ev x) (e.ev i)).bind fun cs => (fromCells agg cs).bind fun v => kE (e.set d v) h)
      rw [E.ev ho.1, E.ev ho.2]
      cases h2 : aIndexArr len es (rep j (s.ev x)) (rep j (s.ev i)) with
      | none => rw [h2] at h1; cases h1
      | some c =>
        rw [h2] at h1
        simp only [Option.bind_some] at h1 ⊢
        rw [h1]
        exact hk _ _ _ _ (E.set d v) S
  | slice d ks x lo hi mx =>
    simp only [pOp, Bool.and_eq_true] at ho
    obtain ⟨⟨⟨h1, h2⟩, h3⟩, h4⟩ := ho
    cases ks with
    | str =>
      refine JR_V fun v hv => ?_
      show JR j _ ((aSliceStr (e.ev x) (lo.map e.ev) (hi.map e.ev)).bind fun v => kE (e.set d v) h)
      rw [E.ev h1, omap E h2, omap E h3, kSlStr_rep hv]
      exact hk _ _ _ _ (E.set d v) S
    | sl es =>
      refine JR_V fun v hv => ?_
      show JR j _ ((aSliceSl es (e.ev x) (lo.map e.ev) (hi.map e.ev) (mx.map e.ev)).bind fun v => kE (e.set d v) h)
      rw [E.ev h1, omap E h2, omap E h3, omap E h4, kSlSl_rep hv]
      exact hk _ _ _ _ (E.set d v) S
    | arr n es => exact JR.no _
  | mkSlice d es bytes zero l c =>
    simp only [pOp, Bool.and_eq_true] at ho
    show JR j _ ((aMkSlice es bytes zero (e.ev l) (e.ev c) h).bind fun r => kE (e.set d r.1) r.2)
    rw [E.ev ho.1.2, E.ev ho.2]
    exact hbr d (kMkSlice_rep S (pvL_rep zero ho.1.1) _ _)
  | mkIface d ty x =>
    show JR j (k (s.set d (.iface ty (s.ev x))) t) (kE (e.set d (.iface ty (e.ev x))) h)
    rw [E.ev ho, ← rep_iface]
    exact hk _ _ _ _ (E.set d _) S
  | extract d x i =>
    refine JR_V fun v hv => ?_
    show JR j _ ((aExtract i (e.ev x)).bind fun v => kE (e.set d v) h)
    rw [E.ev ho, kExtract_rep hv]
    exact hk _ _ _ _ (E.set d v) S
  | mkFunc d f caps =>
    simp only [pOp, Bool.and_eq_true, Bool.not_eq_true'] at ho
    show JR j (k (s.set d (.func f (caps.map s.ev))) t) (kE (e.set d (.func f (caps.map e.ev))) h)
    rw [E.evs ho.2, ← rep_func ho.1]
    exact hk _ _ _ _ (E.set d _) S
  | call d f args =>
    show JR j _ ((callE f (args.map e.ev) h).bind fun r => kE (e.set d r.1) r.2)
    rw [E.evs ho]
    exact hbr d (hc f _ t h S)
  | callv d fn args =>
    simp only [pOp, Bool.and_eq_true] at ho
    refine JR_V fun q hq => ?_
    show JR j _ ((aFn (e.ev fn)).bind fun fc => (callE fc.1 (args.map e.ev ++ fc.2) h).bind fun r => kE (e.set d r.1) r.2)
    rw [E.ev ho.1, kFn_rep hq, E.evs ho.2]
    simp only [Option.bind_some]
    rw [← repL_append]
    exact hbr d (hc q.1 _ t h S)
  | invoke d tbl recv args =>
    simp only [pOp, Bool.and_eq_true] at ho
    refine JR_V fun q hq => ?_
    show JR j _ ((aMeth tbl (e.ev recv)).bind fun fr => (callE fr.1 (fr.2 :: args.map e.ev) h).bind fun r => kE (e.set d r.1) r.2)
    rw [E.ev ho.1, kMeth_rep hq, E.evs ho.2]
    simp only [Option.bind_some]
    rw [← repL_cons]
    exact hbr d (hc q.1 _ t h S)
  | append d es bytes zero zeros sl x =>
    simp only [pOp, Bool.and_eq_true] at ho
    show JR j _ ((aAppend es bytes zero zeros (e.ev sl) (e.ev x) h).bind fun r => kE (e.set d r.1) r.2)
    rw [E.ev ho.1.2, E.ev ho.2]
    exact hbr d (kAppend_rep S (pvL_rep zero ho.1.1) _ _ _)
  | copy d es dst src =>
    simp only [pOp, Bool.and_eq_true] at ho
    show JR j _ ((aCopy es (e.ev dst) (e.ev src) h).bind fun r => kE (e.set d r.1) r.2)
    rw [E.ev ho.1, E.ev ho.2]
    exact hbr d (kCopy_rep S _ _ _)
  | clear d zero sl =>
    simp only [pOp, Bool.and_eq_true] at ho
    refine JR_R fun v t' he => ?_
    obtain ⟨h', hb, S'⟩ := kClear_rep S (pvL_rep zero ho.1) (s.ev sl) v t' he
    show JR j _ ((aClear zero (e.ev sl) h).bind fun r => kE e r.2)
    rw [E.ev ho.2, hb]
    exact hk _ _ _ _ E S'
  | len d str x =>
    refine JR_V fun v hv => ?_
    show JR j _ ((aLen str (e.ev x)).bind fun v => kE (e.set d v) h)
    rw [E.ev ho, kLen_rep hv]
    exact hk _ _ _ _ (E.set d v) S
  | cap d x =>
    refine JR_V fun v hv => ?_
    show JR j _ ((aCap (e.ev x)).bind fun v => kE (e.set d v) h)
    rw [E.ev ho, aCap_rep hv]
    exact hk _ _ _ _ (E.set d v) S
  | minmax d mx xs =>
    refine JR_V fun v hv => ?_
    show JR j _ ((aMinMaxL mx (xs.map e.ev)).bind fun v => kE (e.set d v) h)
    rw [E.evs ho, aMinMaxL_rep hv]
    exact hk _ _ _ _ (E.set d v) S
  | tassert d tbl x =>
    refine JR_V fun v hv => ?_
    show JR j _ ((aAssert tbl (e.ev x)).bind fun v => kE (e.set d v) h)
    rw [E.ev ho, aAssert_rep hv]
    exact hk _ _ _ _ (E.set d v) S
  | fl d i sl zero parts =>
    simp only [pOp, Bool.and_eq_true] at ho
    have hz : repL j zero = zero := pvL_rep zero ho.1
    cases sl with
    | none =>
      show JR j (k (s.set d (.ptr (s.base + i) 0)) (t.setBlk (s.base + i) (some ⟨zero, true⟩))) (kE (e.set d (.ptr (e.base + i) 0)) (h.setBlk (e.base + i) (some ⟨zero, true⟩)))
      rw [E.base]
      have h1 := E.set d (.ptr (s.base + i) 0)
      rw [rep_ptr] at h1
      have h2 := S.set (s.base + i) (some ⟨zero, true⟩)
      simp only [Option.map_some, hz] at h2
      exact hk _ _ _ _ h1 h2
    | some p =>
      obtain ⟨es, len⟩ := p
      refine JR_V fun cs hcs => ?_
      show JR j _ ((aFill (reps zero len) ((parts.map fun p => (p.1, e.ev p.2)).map fun p => (p.1 * es, es, p.2))).bind fun cs => kE (e.set d (.slice (e.base + i) 0 len len es true)) (h.setBlk (e.base + i) (some ⟨cs, true⟩)))
      have h1 := aFill_rep (j := j) hcs
      rw [repL_reps, hz, ← parts2 E es ho.2] at h1
      rw [List.map_map, show ((fun p : Nat × AVal => (p.1 * es, es, p.2)) ∘ fun p : Nat × AOpd => (p.1, e.ev p.2)) = fun p => (p.1 * es, es, e.ev p.2) from rfl, h1, E.base]
      have h3 := E.set d (.slice (s.base + i) 0 len len es true)
      rw [rep_slice] at h3
      exact hk _ _ _ _ h3 (S.set (s.base + i) (some ⟨cs, true⟩))
theorem un_out : ∀ (n : Nat) (k : List AVal → KJ) (xs : List AVal), un n k xs = .no ∨ un n k xs = k xs
  | 0, k, [] => .inr rfl
  | 0, k, _ :: _ => .inl rfl
  | n + 1, k, [] => .inl rfl
  | n + 1, k, a :: r => un_out n (fun l => k (a :: l)) r
theorem JR_un {n : Nat} {k : List AVal → KJ} {xs : List AVal} {b : Option J} (h : JR j (k xs) b) : JR j (un n k xs) b := by
  rcases un_out n k xs with e | e
  · rw [e]; exact JR.no b
  · rw [e]; exact h
theorem JR_ifB {c : Bool} {x : KJ} {b : Option J} (h : c = true → JR j x b) : JR j (ifB c x .no) b := by
  cases c with
  | false => exact JR.no b
  | true => exact h rfl
theorem chk_rel {l : List (Nat × Option KLog)} {m : List (Nat × Option Log)} (hl : LRs j l m) (ps : List (Nat × Nat)) {x : KJ} {b : Option J} (h : JR j x b) : JR j (kChk l ps x) (bif checkPairs m ps then b else none) := by
  cases ps with
  | nil => exact h
  | cons p ps =>
    refine JR_ifB fun hch => ?_
    rw [kCheck_rel hl hch]
    exact h
theorem G_rel {v : AVal} {want : Bool} {a b : KJ} {a' b' : Option J} (ha : JR j a a') (hb : JR j b b') : JR j (G v want a b) (guardV (rep j v) want a' b') := by
  unfold G
  split
  · rename_i x
    simp only [rep_bool, guardV]
    cases x <;> cases want <;> assumption
  · simp only [rep_tuple, repL_nil, guardV]
    exact hb
  · exact JR.no _
theorem C_rel {v : AVal} {a b : KJ} {a' b' : Option J} (ha : JR j a a') (hb : JR j b b') : JR j (C v a b) (condV (rep j v) a' b') := by
  cases v with
  | bool x =>
    simp only [rep_bool, condV]
    cases x <;> assumption
  | _ => exact JR.no _
theorem map_skip (live : List Nat) : repL j (live.map fun _ => skipV) = live.map fun _ => skipV := by
  rw [repL_map, List.map_map]
  exact List.map_congr_left fun _ _ => by simp [skipV]
mutual
theorem item_rel {call : TCall} {callE : Call} (hc : CR j call callE) : ∀ (x : AItem) {g : Bool} {pairs : List (Nat × Nat)} (hp : pItem x = true) {s : KEnv} {e : Env} {t : TH} {h : Heap} (E : ER j s e) (S : Sub j t h) {k : KK} {kE : Env → Heap → Option J} (hk : KRel j k kE),
    JR j (kItem call g pairs x s t k) (runItem callE g pairs x e h kE)
  | .op i o, g, pairs, hp, s, e, t, h, E, S, k, kE, hk => by
    rw [kItem, runItem]
    refine step_rel hc hp E S fun s' e' t' h' E' S' => ?_
    refine hk _ _ _ _ ?_ S'
    cases inPairs pairs i with
    | false => exact E'
    | true => exact E'.addLog i (logOf_rel hp E E' S S')
  | .guard tt want items ps live, g, pairs, hp, s, e, t, h, E, S, k, kE, hk => by
    rw [kItem, runItem, E.get]
    have hg : JR j (G (s.get tt) want
        (kItems call true ps items s.noLog t fun s' h' => bif s'.noLads live then kChk s'.log ps (.out 0 (s'.vout live) h') else .no)
        (.out 0 (live.map fun _ => skipV) t))
        (guardV (rep j (s.get tt)) want
        (runItems callE true ps items e.noLog h fun s' h' => bif s'.noLads live && checkPairs s'.log ps then some (0, s'.vout live, h') else none)
        (some (0, live.map fun _ => skipV, h))) := by
      refine G_rel (items_rel hc items hp E.noLog S fun s' e' t' h' E' S' => ?_) ?_
      · rw [E'.noLads]
        cases s'.noLads live with
        | false => exact JR.no _
        | true =>
          simp only [cond_true, Bool.true_and]
          rw [E'.vout]
          exact chk_rel E'.log ps (JR.out S' _ _)
      · have := JR.out (j := j) S 0 (live.map fun _ => skipV)
        rw [map_skip] at this
        exact this
    refine JR_J fun i xs t' hx => ?_
    obtain ⟨h', hb, S'⟩ := hg i xs t' hx
    rw [hb]
    exact JR_un (hk _ _ _ _ (E.upd _ live xs) S')
theorem items_rel {call : TCall} {callE : Call} (hc : CR j call callE) : ∀ (l : List AItem) {g : Bool} {pairs : List (Nat × Nat)} (hp : pItems l = true) {s : KEnv} {e : Env} {t : TH} {h : Heap} (E : ER j s e) (S : Sub j t h) {k : KK} {kE : Env → Heap → Option J} (hk : KRel j k kE),
    JR j (kItems call g pairs l s t k) (runItems callE g pairs l e h kE)
  | [], g, pairs, hp, s, e, t, h, E, S, k, kE, hk => by
    rw [kItems, runItems]
    exact hk _ _ _ _ E S
  | x :: l, g, pairs, hp, s, e, t, h, E, S, k, kE, hk => by
    rw [kItems, runItems]
    simp only [pItems, Bool.and_eq_true] at hp
    exact item_rel hc x hp.1 E S fun s' e' t' h' E' S' => items_rel hc l hp.2 E' S' hk
end
def KERel (j : Nat) (k : KE) (kE : AExit → Env → Heap → Option J) : Prop := ∀ x s e t h, ER j s e → Sub j t h → JR j (k x s t) (kE x e h)
theorem leave_rel (alts : List (AExit × Live)) (base : Nat) : KERel j (kleave alts base) (leave alts base) := by
  intro x s e t h E S
  unfold kleave leave
  cases altOf x alts base with
  | none => exact JR.no _
  | some p =>
    simp only
    cases ho : s.out p.2 with
    | none => exact JR.no _
    | some q =>
      rw [E.out ho]
      exact JR.out S _ _
theorem enter_rel : ∀ (alts : List (AExit × Live)) (base : Nat) {k : KE} {kE : AExit → Env → Heap → Option J} (hk : KERel j k kE) (i : Nat) (xs : List AVal) {t : TH} {h : Heap} (S : Sub j t h),
    JR j (kenter alts base k i xs t) (enterAlt alts base kE (i, repL j xs, h))
  | [], _, _, _, _, _, _, _, _, _ => JR.no _
  | (x, l) :: r, base, k, kE, hk, i, xs, t, h, S => by
    rw [kenter, enterAlt]
    cases hb : Nat.beq i base with
    | true => exact JR_un (hk _ _ _ _ _ (ER.mkE l xs) S)
    | false => exact enter_rel r (base + 1) hk i xs S
theorem iter_rel {f : List AVal → TH → KJ} {fE : List AVal → Heap → Option J} (hf : ∀ xs t h, Sub j t h → JR j (f xs t) (fE (repL j xs) h)) :
    ∀ (n : Nat) (xs : List AVal) (t : TH) (h : Heap), Sub j t h → JR j (kiter n f xs t) (iter fE n (repL j xs) h)
  | 0, _, _, _, _ => JR.no _
  | n + 1, xs, t, h, S => by
    show JR j (Jn (f xs t) fun i ys h' => ifB (Nat.beq i 0) (kiter n f ys h') (.out i ys h')) _
    refine JR_J fun i ys t' he => ?_
    obtain ⟨h', hb, S'⟩ := hf xs t h S i ys t' he
    rw [iter, hb]
    cases i with
    | zero => exact iter_rel hf n ys t' h' S'
    | succ i => exact JR.out S' _ _
theorem code_rel {call : TCall} {callE : Call} (hc : CR j call callE) : ∀ (c : ACode) (hp : pCode c = true) {s : KEnv} {e : Env} {t : TH} {h : Heap} (E : ER j s e) (S : Sub j t h) {k : KE} {kE : AExit → Env → Heap → Option J} (hk : KERel j k kE),
    JR j (kC call c s t k) (runC callE c e h kE)
  | .skip, hp, s, e, t, h, E, S, k, kE, hk => hk _ _ _ _ _ E S
  | .exit i, hp, s, e, t, h, E, S, k, kE, hk => hk _ _ _ _ _ E S
  | .ret, hp, s, e, t, h, E, S, k, kE, hk => hk _ _ _ _ _ E S
  | .dead, hp, s, e, t, h, E, S, k, kE, hk => JR.no _
  | .region items pairs, hp, s, e, t, h, E, S, k, kE, hk => by
    rw [kC, runC]
    refine items_rel hc items hp E.noLog S fun s' e' t' h' E' S' => ?_
    exact chk_rel E'.log pairs (hk _ _ _ _ _ E'.noLog S')
  | .regionF m items pairs, hp, s, e, t, h, E, S, k, kE, hk => by
    rw [kC, runC]
    have E1 : ER j { s.noLog with base := t.next } { e.noLog with base := h.next } := ⟨E.vals, E.lads, E.locs, trivial, S.next.symm⟩
    refine items_rel hc items hp E1 (S.res m) fun s' e' t' h' E' S' => ?_
    exact chk_rel E'.log pairs (hk _ _ _ _ _ E'.noLog S')
  | .seq a b, hp, s, e, t, h, E, S, k, kE, hk => by
    simp only [pCode, Bool.and_eq_true] at hp
    rw [kC, runC]
    refine code_rel hc a hp.1 E S fun x s' e' t' h' E' S' => ?_
    cases x with
    | normal => exact code_rel hc b hp.2 E' S' hk
    | exit i => exact hk _ _ _ _ _ E' S'
    | ret => exact hk _ _ _ _ _ E' S'
  | .cond c a b, hp, s, e, t, h, E, S, k, kE, hk => by
    simp only [pCode, Bool.and_eq_true] at hp
    rw [kC, runC, E.ev hp.1.1]
    exact C_rel (code_rel hc a hp.1.2 E S hk) (code_rel hc b hp.2 E S hk)
  | .block id c, hp, s, e, t, h, E, S, k, kE, hk => by
    rw [kC, runC]
    refine code_rel hc c hp E S fun x s' e' t' h' E' S' => ?_
    cases x with
    | normal => exact hk _ _ _ _ _ E' S'
    | ret => exact hk _ _ _ _ _ E' S'
    | exit i =>
      simp only
      cases Nat.beq i id with
      | true => exact hk _ _ _ _ _ E' S'
      | false => exact hk _ _ _ _ _ E' S'
  | .loop live alts c, hp, s, e, t, h, E, S, k, kE, hk => by
    rw [kC, runC]
    cases ho : s.out live with
    | none => exact JR.no _
    | some xs =>
      simp only
      rw [E.out ho]
      simp only [Option.bind_some]
      refine JR_J fun i ys t' he => ?_
      have hf : ∀ xs t h, Sub j t h → JR j (un (live.vals.length + live.locs.length) (fun ys => kC call c (kMk live ys) t (kloopK live alts)) xs) (runC callE c (Env.mk' live (repL j xs)) h (loopK live alts)) := by
        intro xs t h S
        refine JR_un (code_rel hc c hp (ER.mkE live xs) S fun x s' e' t' h' E' S' => ?_)
        cases x with
        | normal =>
          unfold kloopK loopK
          simp only
          cases hq : s'.out live with
          | none => exact JR.no _
          | some q => rw [E'.out hq]; exact JR.out S' _ _
        | exit i => exact leave_rel alts 1 _ _ _ _ _ E' S'
        | ret => exact leave_rel alts 1 _ _ _ _ _ E' S'
      obtain ⟨h', hb, S'⟩ := iter_rel (fE := fun xs h => runC callE c (Env.mk' live xs) h (loopK live alts)) hf 1000000 xs t h S i ys t' he
      rw [loop_some.2 ⟨_, hb⟩]
      exact enter_rel alts 1 hk i ys S'
  | .join alts c, hp, s, e, t, h, E, S, k, kE, hk => by
    rw [kC, runC]
    refine JR_J fun i ys t' he => ?_
    obtain ⟨h', hb, S'⟩ := code_rel hc c hp E S (leave_rel alts 0) i ys t' he
    rw [hb]
    exact enter_rel alts 0 hk i ys S'
theorem res_rel {s : KEnv} {e : Env} {t : TH} {h : Heap} (E : ER j s e) (S : Sub j t h) : ∀ (l : List ARes) (k : List AVal → KJ) (kE : List AVal → Option J), (∀ vs, JR j (k vs) (kE (repL j vs))) →
    JR j (kRes s t k l) ((resAll e h l).bind kE)
  | [], k, kE, hk => hk []
  | .tmp tt :: rs, k, kE, hk => by
    rw [kRes, resAll, resOf]
    simp only [Option.bind_some]
    have := res_rel E S rs (fun vs => k (s.get tt :: vs)) (fun vs => kE (e.get tt :: vs)) (fun vs => by rw [E.get]; exact hk _)
    cases hr : resAll e h rs with
    | none => rw [hr] at this; exact this
    | some vs => rw [hr] at this; exact this
  | .cell tt agg n :: rs, k, kE, hk => by
    rw [kRes, resAll, resOf, E.lad]
    have hrest : ∀ v, JR j (kRes s t (fun vs => k (v :: vs)) rs) (((resAll e h rs).bind fun vs => some (rep j v :: vs)).bind kE) := by
      intro v
      have := res_rel E S rs (fun vs => k (v :: vs)) (fun vs => kE (rep j v :: vs)) (fun vs => hk _)
      cases hr : resAll e h rs with
      | none => rw [hr] at this; exact this
      | some vs => rw [hr] at this; exact this
    cases s.lad (.tmp tt) with
    | some p =>
      simp only
      rw [E.locB]
      cases lookB s.locs p.1 with
      | none => exact JR.no _
      | some cs =>
        refine JR_V fun v hv => ?_
        have h1 := kLdL_rep (j := j) hv
        simp only [Option.map_some, Option.bind_some]
        rw [h1]
        exact hrest v
    | none =>
      refine JR_V fun v hv => ?_
      have h1 := kLoad_rep S hv
      simp only
      rw [E.get, h1]
      exact hrest v
theorem oneOr_rep (vs : List AVal) : oneOr (repL j vs) = rep j (oneOr vs) := by
  cases vs with
  | nil => simp [oneOr]
  | cons a l =>
    cases l with
    | nil => rfl
    | cons b l => simp [oneOr]
theorem ans_rel {x : KJ} {b : Option J} (h : JR j x b) : RR j (ans x) (b.bind ansOf) := by
  intro v t e
  cases x with
  | no => cases e
  | out i xs t' =>
    cases xs with
    | nil => cases e
    | cons a r =>
      cases r with
      | cons _ _ => cases e
      | nil =>
        cases e
        obtain ⟨h', hb, S⟩ := h i [v] t rfl
        exact ⟨h', by rw [hb]; rfl, S⟩
theorem func_rel {call : TCall} {callE : Call} (hc : CR j call callE) {f : AFunc} (hp : pCode f.body = true) (args : List AVal) {t : TH} {h : Heap} (S : Sub j t h) :
    RR j (kFunc call f args t) (runFn callE (.code f) (repL j args) h) := by
  unfold kFunc
  rw [runFn]
  have hl : ∀ (n : Nat) (k : List AVal → KJ) (xs : List AVal), un n k xs = .no ∨ (Nat.beq xs.length n = true ∧ un n k xs = k xs) := by
    intro n
    induction n with
    | zero => intro k xs; cases xs with | nil => exact .inr ⟨rfl, rfl⟩ | cons => exact .inl rfl
    | succ n ih =>
      intro k xs
      cases xs with
      | nil => exact .inl rfl
      | cons a r => exact ih (fun l => k (a :: l)) r
  rcases hl f.nargs (fun ys => kC call f.body { vals := ys.zipIdx.map fun p => (p.2, p.1), lads := [], locs := [], log := [], base := 0 } t (kend f.results)) args with e | ⟨hn, e⟩
  · rw [e]; intro v t' h'; cases h'
  · rw [e, repL_length, hn]
    simp only [cond_true]
    have E : ER j { vals := args.zipIdx.map fun p => (p.2, p.1), lads := [], locs := [], log := [], base := 0 } (argEnv (repL j args)) := by
      refine ⟨?_, rfl, rfl, trivial, rfl⟩
      show List.map _ _ = List.map _ (List.map _ _)
      rw [repL_map, List.map_map, List.zipIdx_map, List.map_map]
      exact List.map_congr_left fun p _ => rfl
    refine ans_rel (code_rel hc f.body hp E S fun x s' e' t' h' E' S' => ?_)
    · cases x with
      | exit i => exact JR.no _
      | normal => exact res_rel E' S' f.results _ _ fun vs => by rw [oneOr_rep]; exact JR.out S' 0 [_]
      | ret => exact res_rel E' S' f.results _ _ fun vs => by rw [oneOr_rep]; exact JR.out S' 0 [_]
end Go.Fw.K
namespace Go.Fw.K
open Go.Fw
abbrev TFn := TCall → List AVal → TH → KR
def Is (F : TFn) (a : AFn) : Prop := ∀ (j : Nat) (call : TCall) (callE : Call), CR j call callE → ∀ (args : List AVal) (t : TH) (h : Heap), Sub j t h → RR j (F call args t) (runFn callE a (repL j args) h)
theorem is_code {F : TFn} {a : AFunc} (h : ∀ call args t, kFunc call a args t = F call args t) (hp : pCode a.body = true) : Is F (.code a) :=
  fun j call callE hc args t hh S => by rw [← h]; exact func_rel hc hp args S
namespace Tr
def All2 {α β : Type} (P : α → β → Prop) : Tr α → Tr β → Prop
  | .nil, .nil => True
  | .node none l r, .node none l' r' => All2 P l l' ∧ All2 P r r'
  | .node (some a) l r, .node (some b) l' r' => P a b ∧ All2 P l l' ∧ All2 P r r'
  | _, _ => False
theorem All2.get {α β : Type} {P : α → β → Prop} : ∀ {s : Tr α} {t : Tr β} (_ : All2 P s t) (k : Nat) (a : α), s.get k = some a → ∃ b, t.get k = some b ∧ P a b
  | .nil, .nil, _, k, a, h => by cases h
  | .node none l r, .node none l' r', ⟨h1, h2⟩, k, a, h => by
    rw [get_node] at h ⊢
    cases h0 : Nat.beq k 0 with
    | true => rw [h0] at h; cases h
    | false =>
      rw [h0] at h
      cases h3 : Nat.beq (k % 2) 1 with
      | true => rw [h3] at h; exact h1.get _ a h
      | false => rw [h3] at h; exact h2.get _ a h
  | .node (some b) l r, .node (some c) l' r', ⟨hp, h1, h2⟩, k, a, h => by
    rw [get_node] at h ⊢
    cases h0 : Nat.beq k 0 with
    | true => rw [h0] at h; cases h; exact ⟨c, rfl, hp⟩
    | false =>
      rw [h0] at h
      cases h3 : Nat.beq (k % 2) 1 with
      | true => rw [h3] at h; exact h1.get _ a h
      | false => rw [h3] at h; exact h2.get _ a h
  | .nil, .node .., h, _, _, _ => h.elim
  | .node none _ _, .nil, h, _, _, _ => h.elim
  | .node (some _) _ _, .nil, h, _, _, _ => h.elim
  | .node none _ _, .node (some _) _ _, h, _, _, _ => h.elim
  | .node (some _) _ _, .node none _ _, h, _, _, _ => h.elim
def AllK {α : Type} (P : Nat → α → Prop) : Tr α → Nat → Nat → Prop
  | .nil, _, _ => True
  | .node none l r, a, b => AllK P l (2 * a) (a + b) ∧ AllK P r (2 * a) (2 * a + b)
  | .node (some x) l r, a, b => P b x ∧ AllK P l (2 * a) (a + b) ∧ AllK P r (2 * a) (2 * a + b)
theorem AllK.get {α : Type} {P : Nat → α → Prop} : ∀ {t : Tr α} {a b : Nat} (_ : AllK P t a b) (k : Nat) (x : α), t.get k = some x → P (a * k + b) x
  | .nil, _, _, _, k, x, h => by cases h
  | .node none l r, a, b, ⟨h1, h2⟩, k, x, h => by
    rw [get_node, beq_dec, beq_dec] at h
    by_cases h0 : k = 0
    · simp [h0] at h
    · by_cases h3 : k % 2 = 1
      · simp only [h0, h3, decide_true, decide_false, cond_true, cond_false] at h
        have := h1.get _ x h
        have e : 2 * a * (k / 2) + (a + b) = a * k + b := by
          have : k = 2 * (k / 2) + 1 := by omega
          conv => rhs; rw [this]
          rw [Nat.mul_add, ← Nat.mul_assoc, Nat.mul_comm a 2]; omega
        rwa [e] at this
      · simp only [h0, h3, decide_false, cond_false] at h
        have := h2.get _ x h
        have e : 2 * a * (k / 2 - 1) + (2 * a + b) = a * k + b := by
          have : k = 2 * (k / 2 - 1) + 2 := by omega
          conv => rhs; rw [this]
          rw [Nat.mul_add, ← Nat.mul_assoc, Nat.mul_comm a 2]; omega
        rwa [e] at this
  | .node (some y) l r, a, b, ⟨hp, h1, h2⟩, k, x, h => by
    rw [get_node, beq_dec, beq_dec] at h
    by_cases h0 : k = 0
    · simp only [h0, decide_true, cond_true, Option.some.injEq] at h
      subst h
      rw [h0]; simpa using hp
    · by_cases h3 : k % 2 = 1
      · simp only [h0, h3, decide_true, decide_false, cond_true, cond_false] at h
        have := h1.get _ x h
        have e : 2 * a * (k / 2) + (a + b) = a * k + b := by
          have : k = 2 * (k / 2) + 1 := by omega
          conv => rhs; rw [this]
          rw [Nat.mul_add, ← Nat.mul_assoc, Nat.mul_comm a 2]; omega
        rwa [e] at this
      · simp only [h0, h3, decide_false, cond_false] at h
        have := h2.get _ x h
        have e : 2 * a * (k / 2 - 1) + (2 * a + b) = a * k + b := by
          have : k = 2 * (k / 2 - 1) + 2 := by omega
          conv => rhs; rw [this]
          rw [Nat.mul_add, ← Nat.mul_assoc, Nat.mul_comm a 2]; omega
        rwa [e] at this
end Tr
noncomputable def kS (tblS : Tr TFn) (n : Nat) : TCall :=
  Nat.rec (motive := fun _ => TCall) (fun _ _ _ => .no) (fun _ ih f args h => Option.rec .no (fun a => a ih args h) (tblS.get f)) n
theorem kS_rel {tblS : Tr TFn} {tblA : Tr AFn} (hT : Tr.All2 Is tblS tblA) (j : Nat) : ∀ n, CR j (kS tblS n) (E fun f => tblA.get f)
  | 0 => fun _ _ _ _ _ _ _ e => by cases e
  | n + 1 => fun f args t h S => by
    show RR j (Option.rec .no (fun a => a (kS tblS n) args t) (tblS.get f) : KR) _
    cases hf : tblS.get f with
    | none => intro v t' e; cases e
    | some F =>
      obtain ⟨a, ha, hI⟩ := hT.get f F hf
      rw [E_eq, ha]
      exact hI j _ _ (kS_rel hT j n) args t h S
noncomputable def okR (r : KR) : Bool := KR.rec false (fun v _ => isB true v) r
theorem okR_eq {r : KR} (h : okR r = true) : ∃ t, r = .yes (.bool true) t := by
  cases r with
  | no => cases h
  | yes v t => exact ⟨t, by rw [isB_eq (show isB true v = true from h)]⟩
def T0 : TH := ⟨0, .nil⟩
theorem T0_sub (j : Nat) : Sub j T0 emptyHeap := ⟨rfl, fun _ _ h => by cases h⟩
theorem ran {tblS : Tr TFn} {tblA : Tr AFn} (hT : Tr.All2 Is tblS tblA) {n f : Nat} {args : List AVal} (h : okR (kS tblS n f args T0) = true) (j : Nat) :
    ∃ h', E (fun f => tblA.get f) f (repL j args) emptyHeap = some (.bool true, h') := by
  obtain ⟨t, e⟩ := okR_eq h
  obtain ⟨h', e', _⟩ := kS_rel hT j n f args T0 emptyHeap (T0_sub j) _ t e
  exact ⟨h', by simpa using e'⟩
end Go.Fw.K
