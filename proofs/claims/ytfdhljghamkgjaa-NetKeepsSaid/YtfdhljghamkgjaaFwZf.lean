/- Lists that grow by append. -/
import Derived.Test.YtfdhljghamkgjaaFwZe
import Derived.SizedLaws
namespace Go.Fw
set_option linter.unusedSimpArgs false
set_option linter.unusedVariables false

/-- A slice that was grown behind block n0: n elements. -/
def Grow (es : Nat) (s : AVal) (h : Heap) (n0 n : Nat) (cells : List AVal) : Prop :=
  cells.length = n * es ∧ ((s = .nilSlice ∧ n = 0) ∨ ∃ b, s = .slice b 0 n n es false ∧ n0 ≤ b ∧ b < h.next ∧ 0 < n ∧ h.blk b = some ⟨cells, true⟩)

theorem Grow.nil (es : Nat) (h : Heap) (n0 : Nat) : Grow es .nilSlice h n0 0 [] := ⟨by simp, .inl ⟨rfl, rfl⟩⟩

theorem Grow.len {es : Nat} {s : AVal} {h : Heap} {n0 n : Nat} {cells : List AVal} (G : Grow es s h n0 n cells) : aLen false s = some (.int .i64 n) := by
  obtain ⟨_, ⟨rfl, rfl⟩ | ⟨b, rfl, _⟩⟩ := G <;> rfl

theorem Grow.mono {es : Nat} {s : AVal} {h h' : Heap} {n0 n : Nat} {cells : List AVal} (G : Grow es s h n0 n cells) (hn : h.next ≤ h'.next) (hb : ∀ b, n0 ≤ b → b < h.next → h'.blk b = h.blk b) : Grow es s h' n0 n cells := by
  obtain ⟨hl, h1 | ⟨b, rfl, a1, a2, a3, a4⟩⟩ := G
  · exact ⟨hl, .inl h1⟩
  · exact ⟨hl, .inr ⟨b, rfl, a1, by omega, a3, by rw [hb b a1 a2, a4]⟩⟩

theorem Grow.ints {k : IntKind} {s : AVal} {h : Heap} {n0 n : Nat} {l : List Int} (G : Grow 1 s h n0 n (l.map (.int k))) : Ints k s h l ∧ l.length = n := by
  obtain ⟨hl, ⟨rfl, rfl⟩ | ⟨b, rfl, a1, a2, a3, a4⟩⟩ := G
  · have : l = [] := by
      cases l with
      | nil => rfl
      | cons a l => simp at hl
    exact ⟨.inl ⟨rfl, this⟩, by simp [this]⟩
  · have hln : l.length = n := by simpa using hl
    refine ⟨.inr ⟨b, 0, n, false, by rw [hln], ?_⟩, hln⟩
    rw [rd_of a4 0 l.length (by simp)]
    simp only [List.drop_zero, Option.some.injEq]
    rw [← List.map_take, List.take_length]

theorem Grow.blk_lt {es : Nat} {s : AVal} {h : Heap} {n0 n : Nat} {cells : List AVal} (G : Grow es s h n0 n cells) : ∀ b, slBlk s = some b → n0 ≤ b ∧ b < h.next := by
  intro b hb
  obtain ⟨_, ⟨rfl, _⟩ | ⟨b', rfl, a1, a2, _⟩⟩ := G
  · cases hb
  · cases hb; exact ⟨a1, a2⟩

theorem alloc_rd0 (h : Heap) (cs : List AVal) (n : Nat) (hn : n = cs.length) : (h.alloc cs).rd h.next 0 n = some cs := by
  rw [rd_of (alloc_same h cs) 0 n (by simp [hn])]
  simp [hn]

/-- One more element, from a row of one. -/
theorem Grow.one {es bytes : Nat} {zero : List AVal} {s : AVal} {h : Heap} {n0 n : Nat} {cells news : List AVal} (G : Grow es s h n0 n cells) (h0 : n0 ≤ h.next) (hn : news.length = es) (hb : (n + 1) * bytes ≤ 140737488355328) (hc : n + 1 ≤ 4611686018427387904) :
    ∃ s' h', aAppend es bytes zero false s (.slice h.next 0 1 1 es true) (h.alloc news) = some (s', h') ∧ Grow es s' h' n0 (n + 1) (cells ++ news) ∧ h'.next = h.next + 2 ∧ ∀ b, b < n0 → h'.blk b = h.blk b := by
  have hr : (h.alloc news).rd h.next 0 (1 * es) = some news := alloc_rd0 h news _ (by omega)
  have hes : Nat.beq es es = true := Nat.beq_refl es
  obtain ⟨hl, ⟨rfl, rfl⟩ | ⟨b, rfl, a1, a2, a3, a4⟩⟩ := G
  · have hcn : cells = [] := by
      cases cells with
      | nil => rfl
      | cons a l => simp at hl
    subst hcn
    refine ⟨.slice (h.next + 1) 0 1 1 es false, (h.alloc news).alloc news, ?_, ⟨by simp [hn], .inr ⟨h.next + 1, rfl, by omega, ?_, by omega, ?_⟩⟩, ?_, ?_⟩
    · simp only [aAppend, aNews, hes, hr, cond_true, Option.bind_some]
      have e1 : Nat.beq 1 0 = false := rfl
      rw [e1]
      simp only [cond_false, Option.bind_some]
      rw [if_pos (by omega)]
      rfl
    · simp
    · simp only [List.nil_append]
      exact alloc_same (h.alloc news) news
    · simp
    · intro b hb'
      rw [alloc_old _ _ (by simp; omega), alloc_old _ _ (by omega)]
  · have hold : (h.alloc news).rd b 0 (n * es) = some cells := by
      have : (h.alloc news).blk b = some ⟨cells, true⟩ := by rw [alloc_old _ _ (by omega)]; exact a4
      rw [rd_of this 0 _ (by simp [hl])]
      simp [← hl]
    have hbk : (h.alloc news).blk b = some ⟨cells, true⟩ := by rw [alloc_old _ _ (by omega)]; exact a4
    refine ⟨.slice (h.next + 1) 0 (n + 1) (n + 1) es false, ((h.alloc news).alloc (cells ++ news)).setBlk b none, ?_, ⟨by simp [hl, hn, Nat.add_mul], .inr ⟨h.next + 1, rfl, by omega, by simp, by omega, ?_⟩⟩, by simp, ?_⟩
    · simp only [aAppend, aNews, hes, hr, cond_true, Option.bind_some]
      have e1 : Nat.beq 1 0 = false := rfl
      have e2 : Nat.ble (n + 1) n = false := by
        cases hh : Nat.ble (n + 1) n with
        | false => rfl
        | true => have := Nat.le_of_ble_eq_true hh; omega
      rw [e1]
      simp only [cond_false, Option.bind_some, e2]
      rw [if_pos (by omega)]
      rw [hbk]
      simp only [hold, Option.bind_some]
      rfl
    · rw [setBlk_ne _ _ (by omega)]
      exact alloc_same (h.alloc news) (cells ++ news)
    · intro b' hb'
      rw [setBlk_ne _ _ (by omega), alloc_old _ _ (by simp; omega), alloc_old _ _ (by omega)]

theorem ro_at {B pre bs post : List (Loc × List AVal)} (hB : B = pre ++ (bs ++ post)) {j : Nat} {p : Loc × List AVal} (h : bs[j]? = some p) : B[pre.length + j]? = some p := by
  have hj : j < bs.length := (List.getElem?_eq_some_iff.1 h).1
  rw [hB, List.getElem?_append_right (by omega), show pre.length + j - pre.length = j by omega, List.getElem?_append_left hj, h]

theorem IntsArg.here {k : IntKind} {w : World} {v : Value} {bs : List (Loc × List AVal)} {mk : Nat → AVal} {l : List Int} (A : IntsArg k w v bs mk l) {B pre post : List (Loc × List AVal)} (hB : B = pre ++ (bs ++ post)) :
    VRel (roPhi B) (mk pre.length) v ∧ Ints k (mk pre.length) (roHeap B) l ∧ (∀ b, slBlk (mk pre.length) = some b → b < (roHeap B).next) ∧ ∀ p ∈ bs, RoOk (roPhi B) w p := by
  refine ⟨A.rel _ _ fun j p hp => ?_, A.ints _ _ fun j p hp => ?_, fun b hb => ?_, A.ro _⟩
  · simp only [roPhi, ro_at hB hp, Option.map_some]
  · simp only [roHeap, ro_at hB hp, Option.map_some]
  · have h1 := A.lt _ _ hb
    have h2 : B.length = pre.length + (bs.length + post.length) := by rw [hB]; simp
    show b < B.length
    omega

theorem wf64 {x : Int} (h : (Lit.int .i64 x).wf = true) : -9223372036854775808 ≤ x ∧ x ≤ 9223372036854775807 := by
  have h1 : IntKind.i64.min = -9223372036854775808 := by decide
  have h2 : IntKind.i64.max = 9223372036854775807 := by decide
  simp only [Lit.wf, h1, h2, Bool.and_eq_true, decide_eq_true_eq] at h
  exact h

theorem IntsArg.wf64 {w : World} {v : Value} {bs : List (Loc × List AVal)} {mk : Nat → AVal} {l : List Int} (A : IntsArg .i64 w v bs mk l) : ∀ x ∈ l, -9223372036854775808 ≤ x ∧ x ≤ 9223372036854775807 := by
  intro x hx
  exact Go.Fw.wf64 (A.wf x hx)

theorem weights_of {H : Type} {P : Program} {ts : List TypeId} {ds : List (DataW H)} (h : (DataW.weightsEach P ts ds).all (· ≤ reachBytes) = true) {j : Nat} {t : TypeId} {d : DataW H} (ht : ts[j]? = some t) (hd : ds[j]? = some d) : ∀ x ∈ d.weights P t, x ≤ reachBytes := by
  intro x hx
  simpa using List.all_eq_true.1 h _ (DataW.weights_mem_each ht hd x hx)


/-- A loop, with what holds ahead of each round. -/
theorem loop_ok {f : List AVal → Heap → Option J} (I : Nat → List AVal → Heap → Prop) (Q : J → Prop)
    (step : ∀ n xs h, I n xs h → (∃ xs' h', f xs h = some (0, xs', h') ∧ ∃ m, m < n ∧ I m xs' h') ∨ (∃ i ys h', f xs h = some (i + 1, ys, h') ∧ Q (i + 1, ys, h'))) :
    ∀ n xs h, I n xs h → ∃ r, loop f xs h = some r ∧ Q r := by
  intro n
  induction n using Nat.strongRecOn with
  | ind n ih =>
    intro xs h hI
    rcases step n xs h hI with ⟨xs', h', e, m, hm, hI'⟩ | ⟨i, ys, h', e, hq⟩
    · obtain ⟨r, e2, hq⟩ := ih m hm xs' h' hI'
      exact ⟨r, (loop_more e).trans e2, hq⟩
    · exact ⟨_, loop_done e, hq⟩

theorem Ints.lit (k : IntKind) (h : Heap) (l : List Int) (n : Nat) (hn : n = l.length) (ex : Bool) : Ints k (.slice h.next 0 n n 1 ex) (h.alloc (l.map (.int k))) l := by
  refine .inr ⟨h.next, 0, n, ex, by rw [hn], ?_⟩
  exact alloc_rd0 h _ _ (by simp)

theorem Ints.lt_of {k : IntKind} {s : AVal} {h : Heap} {l : List Int} {n : Nat} (_ : Ints k s h l) (hs : ∀ b, slBlk s = some b → b < n) {m : Nat} (hm : n ≤ m) : ∀ b, slBlk s = some b → b < m := fun b hb => Nat.lt_of_lt_of_le (hs b hb) hm

theorem rdL_one {cs : List AVal} {i : Nat} {v : AVal} (h : cs[i]? = some v) : rdL cs i 1 = some [v] := by
  have hi := (List.getElem?_eq_some_iff.1 h).1
  have : Nat.ble (i + 1) cs.length = true := Nat.ble_eq_true_of_le hi
  simp only [rdL, this, cond_true, Option.some.injEq]
  rw [List.drop_eq_getElem_cons hi]
  rw [List.getElem?_eq_getElem hi] at h
  cases h
  rfl

theorem aIdx_of (len : Nat) (k : IntKind) (i : Int) (h0 : 0 ≤ i) (h1 : i < len) : aIdx len (.int k i) = some i.toNat := by
  simp [aIdx, h0, h1]

theorem splice_set {cs : List AVal} {i : Nat} {v : AVal} (h : i < cs.length) : splice cs i [v] = cs.set i v := by
  unfold splice
  rw [List.set_eq_take_append_cons_drop]
  simp [h]

end Go.Fw
