/- What an abstract state says of a world: values, heap, frame; steps from state to state. -/
import Derived.Test.YtfdhljghamkgjaaFwB
import Derived.Below
import Derived.Calls
import Derived.Laws.Sem
import Derived.Laws.World
import Derived.Laws.Rows
import Derived.Laws.CopyRow
namespace Go.Fw
set_option linter.unusedSimpArgs false
set_option linter.unusedVariables false

/-- Where a block lies: the model's block, the first cell, how many cells the model's block has. -/
structure Loc where
  blk : Nat
  base : Nat
  size : Nat

abbrev Phi := Nat → Option Loc

mutual
def VRel (φ : Phi) : AVal → Value → Prop
  | .undef, _ => True
  | .bool b, v => v = .bool b
  | .int k n, v => v = .int k n
  | .str l, v => v = .string ⟨l.toArray⟩
  | .nilPtr, v => v = .pointer none
  | .ptr b off, v => ∃ L, φ b = some L ∧ v = .pointer (some ⟨L.blk, L.base + off, none⟩)
  | .nilSlice, v => v = .slice none 0 0
  | .slice b off len cap es exact, v => ∃ L a c, φ b = some L ∧ v = .slice (some a) len c ∧ len ≤ cap ∧ cap ≤ c ∧ (exact = true → c = cap) ∧
      (0 < c → a = ⟨L.blk, L.base + off, none⟩ ∧ L.base + off + c * es ≤ L.size)
  | .func f caps, v => ∃ cs, v = .func (.func f) #[] cs ∧ VRels φ caps cs.toList
  | .nilFunc, v => v = .nilFunc
  | .iface t x, v => ∃ y, v = .iface t y ∧ VRel φ x y
  | .nilIface, v => v = .nilIface
  | .agg cs, v => ∃ vs, v = .agg vs ∧ VRels φ cs vs.toList ∧ ∀ u ∈ vs.toList, u.oneCell' = true
  | .tuple cs, v => ∃ vs, v = .tuple vs ∧ VRels φ cs vs.toList
def VRels (φ : Phi) : List AVal → List Value → Prop
  | [], [] => True
  | a :: as, v :: vs => VRel φ a v ∧ VRels φ as vs
  | _, _ => False
end

theorem Heap.setBlk_other (h : Heap) {b b' : Nat} (x : Option Blk) (hb : b' ≠ b) : (h.setBlk b x).blk b' = h.blk b' := by
  have : Nat.beq b' b = false := by
    cases hh : Nat.beq b' b with
    | false => rfl
    | true => exact (hb (Nat.eq_of_beq_eq_true hh)).elim
  simp [Heap.setBlk, this]
theorem Heap.setBlk_at (h : Heap) (b : Nat) (x : Option Blk) : (h.setBlk b x).blk b = x := by simp [Heap.setBlk]
theorem Heap.alloc_other (h : Heap) (cs : List AVal) {b : Nat} (hb : b ≠ h.next) : (h.alloc cs).blk b = h.blk b := by
  have : Nat.beq b h.next = false := by
    cases hh : Nat.beq b h.next with
    | false => rfl
    | true => exact (hb (Nat.eq_of_beq_eq_true hh)).elim
  simp [Heap.alloc, this]

def Ext (φ φ' : Phi) : Prop := ∀ b L, φ b = some L → φ' b = some L
theorem Ext.refl (φ : Phi) : Ext φ φ := fun _ _ h => h
theorem Ext.trans {φ φ' φ'' : Phi} (h : Ext φ φ') (k : Ext φ' φ'') : Ext φ φ'' := fun b L e => k b L (h b L e)

mutual
theorem VRel.ext {φ φ' : Phi} (h : Ext φ φ') : ∀ (a : AVal) {v : Value}, VRel φ a v → VRel φ' a v
  | .undef, _, r => by unfold VRel at *; trivial
  | .bool b, _, r => by unfold VRel at *; exact r
  | .int k n, _, r => by unfold VRel at *; exact r
  | .str l, _, r => by unfold VRel at *; exact r
  | .nilPtr, _, r => by unfold VRel at *; exact r
  | .ptr b off, _, r => by unfold VRel at *; obtain ⟨L, e, rfl⟩ := r; exact ⟨L, h b L e, rfl⟩
  | .nilSlice, _, r => by unfold VRel at *; exact r
  | .slice b off len cap es exact, _, r => by unfold VRel at *; obtain ⟨L, a, c, e, r⟩ := r; exact ⟨L, a, c, h b L e, r⟩
  | .func f caps, _, r => by unfold VRel at *; obtain ⟨cs, e, r⟩ := r; exact ⟨cs, e, VRels.ext h caps r⟩
  | .nilFunc, _, r => by unfold VRel at *; exact r
  | .iface t x, _, r => by unfold VRel at *; obtain ⟨y, e, r⟩ := r; exact ⟨y, e, VRel.ext h x r⟩
  | .nilIface, _, r => by unfold VRel at *; exact r
  | .agg cs, _, r => by unfold VRel at *; obtain ⟨vs, e, r, o⟩ := r; exact ⟨vs, e, VRels.ext h cs r, o⟩
  | .tuple cs, _, r => by unfold VRel at *; obtain ⟨vs, e, r⟩ := r; exact ⟨vs, e, VRels.ext h cs r⟩
theorem VRels.ext {φ φ' : Phi} (h : Ext φ φ') : ∀ (as : List AVal) {vs : List Value}, VRels φ as vs → VRels φ' as vs
  | [], [], _ => by simp [VRels]
  | [], _ :: _, r => by simp [VRels] at r
  | a :: as, [], r => by simp [VRels] at r
  | a :: as, v :: vs, r => by
    simp only [VRels] at *
    exact ⟨VRel.ext h a r.1, VRels.ext h as r.2⟩
end

theorem VRels.length {φ : Phi} : ∀ {as : List AVal} {vs : List Value}, VRels φ as vs → as.length = vs.length
  | [], [], _ => rfl
  | [], _ :: _, r => by simp [VRels] at r
  | _ :: _, [], r => by simp [VRels] at r
  | a :: as, v :: vs, r => by simp only [VRels] at r; simp [VRels.length r.2]

theorem VRels.get {φ : Phi} : ∀ {as : List AVal} {vs : List Value} (_ : VRels φ as vs) (i : Nat) (a : AVal), as[i]? = some a → ∃ v, vs[i]? = some v ∧ VRel φ a v
  | [], [], _, i, a, h => by simp at h
  | [], _ :: _, r, _, _, _ => by simp [VRels] at r
  | _ :: _, [], r, _, _, _ => by simp [VRels] at r
  | x :: as, v :: vs, r, i, a, h => by
    simp only [VRels] at r
    cases i with
    | zero => simp at h; subst h; exact ⟨v, rfl, r.1⟩
    | succ i => simpa using VRels.get r.2 i a (by simpa using h)

theorem VRels.of_get {φ : Phi} : ∀ {as : List AVal} {vs : List Value}, as.length = vs.length → (∀ (i : Nat) (a : AVal) (v : Value), as[i]? = some a → vs[i]? = some v → VRel φ a v) → VRels φ as vs
  | [], [], _, _ => by simp [VRels]
  | [], _ :: _, h, _ => by simp at h
  | _ :: _, [], h, _ => by simp at h
  | a :: as, v :: vs, h, r => by
    simp only [VRels]
    exact ⟨r 0 a v rfl rfl, VRels.of_get (by simpa using h) fun i a v ha hv => r (i + 1) a v (by simpa using ha) (by simpa using hv)⟩

theorem VRels.append {φ : Phi} : ∀ {as bs : List AVal} {vs us : List Value}, VRels φ as vs → VRels φ bs us → VRels φ (as ++ bs) (vs ++ us)
  | [], _, [], _, _, h => by simpa using h
  | [], _, _ :: _, _, r, _ => by simp [VRels] at r
  | _ :: _, _, [], _, r, _ => by simp [VRels] at r
  | a :: as, bs, v :: vs, us, r, h => by simp only [VRels, List.cons_append] at *; exact ⟨r.1, VRels.append r.2 h⟩

theorem VRels.take {φ : Phi} : ∀ {as : List AVal} {vs : List Value} (n : Nat), VRels φ as vs → VRels φ (as.take n) (vs.take n)
  | _, _, 0, _ => by simp [VRels]
  | [], [], _ + 1, _ => by simp [VRels]
  | [], _ :: _, _, r => by simp [VRels] at r
  | _ :: _, [], _, r => by simp [VRels] at r
  | a :: as, v :: vs, n + 1, r => by simp only [VRels, List.take_succ_cons] at *; exact ⟨r.1, VRels.take n r.2⟩

theorem VRels.drop {φ : Phi} : ∀ {as : List AVal} {vs : List Value} (n : Nat), VRels φ as vs → VRels φ (as.drop n) (vs.drop n)
  | _, _, 0, r => by simpa using r
  | [], [], _ + 1, _ => by simp [VRels]
  | [], _ :: _, _, r => by simp [VRels] at r
  | _ :: _, [], _, r => by simp [VRels] at r
  | a :: as, v :: vs, n + 1, r => by simp only [VRels, List.drop_succ_cons] at *; exact VRels.drop n r.2

theorem fz_free {fz : Nat × Nat} {n : Nat} (h : fz.1 = fz.2 ∨ n ≤ fz.1) : ∀ i, i < n → ¬ (fz.1 ≤ i ∧ i < fz.2) := fun i hi hh => by omega

/-- A block as it lies in the world. -/
def BlkOk (φ : Phi) (x : Blk) (L : Loc) (w : World) : Prop :=
  ∃ c e fz, w.heap[L.blk]? = some (.cells c e fz) ∧ c.size = L.size ∧ L.base + x.cells.length ≤ L.size ∧
    (x.rw = true → fz.1 = fz.2 ∨ c.size ≤ fz.1) ∧
    ∀ i v, x.cells[i]? = some v → ∃ u, c[L.base + i]? = some u ∧ VRel φ v u ∧ u.oneCell' = true

structure HRel (φ : Phi) (h : Heap) (w : World) : Prop where
  dom : ∀ b L, φ b = some L → b < h.next ∧ L.blk < w.heap.size
  live : ∀ b x, h.blk b = some x → b < h.next
  blk : ∀ b x L, h.blk b = some x → φ b = some L → BlkOk φ x L w
  apart : ∀ b b' x x' L L', b ≠ b' → h.blk b = some x → h.blk b' = some x' → x.rw = true → φ b = some L → φ b' = some L' → L.blk ≠ L'.blk

/-- What happened between two states: nothing but what may. -/
structure Step (φ : Phi) (h : Heap) (w : World) (φ' : Phi) (h' : Heap) (w' : World) : Prop where
  ext : Ext φ φ'
  next : h.next ≤ h'.next
  old : ∀ b x', b < h.next → h'.blk b = some x' → ∃ x, h.blk b = some x ∧ x.rw = x'.rw
  new : ∀ b L, φ b = none → φ' b = some L → h.next ≤ b ∧
    (w.heap.size ≤ L.blk ∨ ∃ b0 x0 L0, h.blk b0 = some x0 ∧ x0.rw = true ∧ φ b0 = some L0 ∧ L0.blk = L.blk)
  size : w.heap.size ≤ w'.heap.size
  keep : ∀ b, b < h.next → φ b = none → h'.blk b = h.blk b
  frame : ∀ k, k < w.heap.size → (∀ b x L, h.blk b = some x → x.rw = true → φ b = some L → L.blk ≠ k) → w'.heap[k]? = w.heap[k]?
  os : w'.os = w.os
  tape : w'.tape = w.tape
  output : w'.output = w.output

theorem Step.refl (φ : Phi) (h : Heap) (w : World) : Step φ h w φ h w :=
  ⟨Ext.refl φ, Nat.le_refl _, fun _ x _ hx => ⟨x, hx, rfl⟩, fun _ _ h1 h2 => (by rw [h1] at h2; cases h2), Nat.le_refl _, fun _ _ _ => rfl, fun _ _ _ => rfl, rfl, rfl, rfl⟩

theorem Step.trans {φ φ1 φ2 : Phi} {h h1 h2 : Heap} {w w1 w2 : World} (dom : ∀ b L, φ b = some L → b < h.next) (s : Step φ h w φ1 h1 w1) (t : Step φ1 h1 w1 φ2 h2 w2) : Step φ h w φ2 h2 w2 where
  ext := s.ext.trans t.ext
  next := Nat.le_trans s.next t.next
  old := fun b x' hb hx => by
    obtain ⟨x1, e1, r1⟩ := t.old b x' (Nat.lt_of_lt_of_le hb s.next) hx
    obtain ⟨x, e, r⟩ := s.old b x1 hb e1
    exact ⟨x, e, r.trans r1⟩
  new := fun b L hn hs => by
    cases h1b : φ1 b with
    | some L1 =>
      have := t.ext b L1 h1b
      rw [hs] at this
      cases this
      exact s.new b L hn h1b
    | none =>
      obtain ⟨hb, hh⟩ := t.new b L h1b hs
      refine ⟨Nat.le_trans s.next hb, ?_⟩
      rcases hh with hh | ⟨b0, x0, L0, e0, rw0, p0, l0⟩
      · exact .inl (Nat.le_trans s.size hh)
      · cases hb0 : φ b0 with
        | some L1 =>
          have := s.ext b0 L1 hb0
          rw [p0] at this
          cases this
          obtain ⟨x, e, r⟩ := s.old b0 x0 (dom b0 L0 hb0) e0
          exact .inr ⟨b0, x, L0, e, r.trans rw0, hb0, l0⟩
        | none =>
          have := (s.new b0 L0 hb0 p0).2
          rwa [l0] at this
  size := Nat.le_trans s.size t.size
  keep := fun b hb hn => by
    have h1 : φ1 b = none := by
      cases h1b : φ1 b with
      | none => rfl
      | some L => have := (s.new b L hn h1b).1; omega
    rw [t.keep b (Nat.lt_of_lt_of_le hb s.next) h1, s.keep b hb hn]
  frame := fun k hk hfree => by
    rw [t.frame k (Nat.lt_of_lt_of_le hk s.size) ?_, s.frame k hk hfree]
    intro b x1 L e1 rw1 p1 hL
    cases hb : φ b with
    | some L1 =>
      have := s.ext b L1 hb
      rw [p1] at this
      cases this
      obtain ⟨x, e, r⟩ := s.old b x1 (dom b L hb) e1
      exact hfree b x L e (r.trans rw1) hb hL
    | none =>
      rcases (s.new b L hb p1).2 with hh | ⟨b0, x0, L0, e0, rw0, p0, l0⟩
      · omega
      · exact hfree b0 x0 L0 e0 rw0 p0 (l0.trans hL)
  os := t.os.trans s.os
  tape := t.tape.trans s.tape
  output := t.output.trans s.output

/-- The frame's state. 'B': the first block of this call; 'L': where the local blocks lie; 'n': how many temporaries there are. -/
structure CRel (B : Nat) (n : Nat) (φ : Phi) (L : Nat → Nat) (s : Env) (h : Heap) (a : Act) (w : World) : Prop where
  heap : HRel φ h w
  size : a.tmps.size = n
  defers : a.defers = []
  vals : ∀ t, lookA s.lads t = none → VRel φ (look s.vals t) (a.tmps.getD t undef)
  lads : ∀ t l off, lookA s.lads t = some (l, off) → (∃ cs, lookB s.locs l = some cs) ∧ a.tmps.getD t undef = .pointer (some ⟨L l, off, none⟩)
  locs : ∀ l cs, lookB s.locs l = some cs → B ≤ L l ∧ L l < w.heap.size ∧ (∀ b loc, φ b = some loc → loc.blk ≠ L l) ∧
    ∃ c e, w.heap[L l]? = some (.cells c e (0, 0)) ∧ VRels φ cs c.toList ∧ ∀ u ∈ c.toList, u.oneCell' = true
  inj : ∀ l l' cs cs', lookB s.locs l = some cs → lookB s.locs l' = some cs' → L l = L l' → l = l'

/-- What a call of a function must do. -/
def CallOk (P : Program) (call : Call) : Prop :=
  ∀ f args h r h', call f args h = some (r, h') → ∀ φ w (vs : Array Value), HRel φ h w → VRels φ args vs.toList →
    ((callFunc f vs).run P w = .ok (.enter f vs) w) ∧
    Calls P f vs w fun e w' => ∃ φ' v, e = .returned v ∧ VRel φ' r v ∧ HRel φ' h' w' ∧ Step φ h w φ' h' w'

theorem CRel.get {B n : Nat} {φ : Phi} {L : Nat → Nat} {s : Env} {h : Heap} {a : Act} {w : World} (c : CRel B n φ L s h a w) (t : Nat) : VRel φ (s.get t) (a.tmps.getD t undef) := by
  unfold Env.get
  split
  · unfold VRel; trivial
  · exact c.vals t ‹_›

/-- Constants. -/
def constOk : AVal → Value → Bool
  | .bool a, .bool b => a == b
  | .int k a, .int j b => decide (k = j) && a == b
  | .str l, .string s => s.data.toList == l
  | .nilPtr, .pointer none => true
  | .nilSlice, .slice none 0 0 => true
  | .nilFunc, .nilFunc => true
  | .nilIface, .nilIface => true
  | _, _ => false
def constsOk : List AVal → List Value → Bool
  | [], [] => true
  | a :: as, v :: vs => constOk a v && constsOk as vs
  | _, _ => false
def constTop : AVal → Value → Bool
  | .agg as, .agg vs => constsOk as vs.toList
  | .func f [], .func (.func g) first cs => Nat.beq f g && first.isEmpty && cs.isEmpty
  | a, v => constOk a v

theorem constOk_rel {a : AVal} {v : Value} (h : constOk a v = true) (φ : Phi) : VRel φ a v ∧ v.oneCell' = true := by
  unfold constOk at h
  split at h <;> first
    | (cases h; done)
    | (refine ⟨?_, rfl⟩; unfold VRel; simp_all; done)
    | skip
  refine ⟨?_, rfl⟩
  unfold VRel
  rename_i s
  have e := eq_of_beq h
  rw [← e]

theorem constsOk_rel : ∀ {as : List AVal} {vs : List Value}, constsOk as vs = true → ∀ φ, VRels φ as vs ∧ ∀ u ∈ vs, u.oneCell' = true
  | [], [], _, φ => ⟨by simp [VRels], by simp⟩
  | [], _ :: _, h, _ => by simp [constsOk] at h
  | _ :: _, [], h, _ => by simp [constsOk] at h
  | a :: as, v :: vs, h, φ => by
    simp only [constsOk, Bool.and_eq_true] at h
    obtain ⟨h1, h2⟩ := constOk_rel h.1 φ
    obtain ⟨h3, h4⟩ := constsOk_rel h.2 φ
    refine ⟨by simp only [VRels]; exact ⟨h1, h3⟩, ?_⟩
    intro u hu
    rcases List.mem_cons.1 hu with rfl | hu
    · exact h2
    · exact h4 u hu

theorem constTop_rel {a : AVal} {v : Value} (h : constTop a v = true) (φ : Phi) : VRel φ a v := by
  unfold constTop at h
  split at h
  · obtain ⟨h1, h2⟩ := constsOk_rel h φ
    unfold VRel
    exact ⟨_, rfl, h1, h2⟩
  · simp only [Bool.and_eq_true, Nat.beq_eq, Array.isEmpty_iff] at h
    obtain ⟨⟨rfl, rfl⟩, rfl⟩ := h
    unfold VRel
    exact ⟨#[], rfl, by simp [VRels]⟩
  · exact (constOk_rel h φ).1

def opdOk : Operand → AOpd → Bool
  | .tmp t, .tmp u => Nat.beq t u
  | .const v, .const a => constTop a v
  | .func f, .const (.func g []) => Nat.beq f g
  | _, _ => false

theorem opd_rel {B n : Nat} {φ : Phi} {L : Nat → Nat} {s : Env} {h : Heap} {a : Act} {w : World} (c : CRel B n φ L s h a w) {x : Operand} {y : AOpd} (ho : opdOk x y = true) :
    VRel φ (s.ev y) (a.eval x) := by
  unfold opdOk at ho
  split at ho
  · have e : _ = _ := Nat.eq_of_beq_eq_true ho
    subst e
    exact c.get _
  · exact constTop_rel ho φ
  · have e : _ = _ := Nat.eq_of_beq_eq_true ho
    subst e
    unfold Env.ev VRel
    exact ⟨#[], rfl, by simp [VRels]⟩
  · cases ho

end Go.Fw
