/- YtjibfbphiemljaaGreatDoorPure -/
import Derived.Test.YtjibfbphiemljaaGreatDoorName
set_option linter.unusedSimpArgs false
set_option linter.unusedVariables false
namespace Go.Proofs.YtjibfbphiemljaaGreatDoor.Code
open Go.Fw
abbrev Ky := List UInt8 × List UInt8
structure Ms where
  kind : Int
  op : Int
  st : Int
  code : Int
  tag : Int
  n : Int
  seq : Int
  ka : List UInt8
  ki : List UInt8
  full : Bool
  sum : Int
  cards : List Cd
  keys : List Ky
  deriving DecidableEq
def I64 (n : Int) : Prop := -9223372036854775808 ≤ n ∧ n ≤ 9223372036854775807
def U32 (n : Int) : Prop := 0 ≤ n ∧ n ≤ 4294967295
def Byt (n : Int) : Prop := 0 ≤ n ∧ n ≤ 255
instance (n : Int) : Decidable (I64 n) := inferInstanceAs (Decidable (_ ∧ _))
instance (n : Int) : Decidable (U32 n) := inferInstanceAs (Decidable (_ ∧ _))
instance (n : Int) : Decidable (Byt n) := inferInstanceAs (Decidable (_ ∧ _))
def keyB (k : Ky) : Bool := nameB k.1 && nameB k.2
def zeroB (m : Ms) : Bool :=
  if m.kind = 1 then decide (m.code = 0) && !m.full && decide (m.sum = 0) && decide (m.cards = []) && decide (m.keys = [])
  else if m.kind = 2 then decide (m.n = 0) && decide (m.st = 0) && decide (m.keys = [])
  else decide (m.op = 0) && decide (m.st = 0) && decide (m.code = 0) && decide (m.tag = 0) && decide (m.n = 0) && decide (m.seq = 0) && decide (m.ka = []) && decide (m.ki = []) && !m.full && decide (m.sum = 0) &&
    (if m.kind = 5 then decide (m.cards = []) else decide (m.keys = []))
def opB (m : Ms) : Bool :=
  if m.kind = 1 ∨ m.kind = 2 then (if m.op = 5 then decide (m.ka = []) && decide (m.ki = []) else decide (1 ≤ m.op) && decide (m.op < 5) && keyB (m.ka, m.ki)) else true
def numB (m : Ms) : Bool := decide (Byt m.code) && decide (Byt m.st) && decide (-1 ≤ m.seq)
abbrev tKind : List UInt8 := [107, 105, 110, 100]
abbrev tZero : List UInt8 := [122, 101, 114, 111]
abbrev tOp : List UInt8 := [111, 112]
abbrev tNumber : List UInt8 := [110, 117, 109, 98, 101, 114]
abbrev tCards : List UInt8 := [99, 97, 114, 100, 115]
abbrev tCard : List UInt8 := [99, 97, 114, 100]
abbrev tBytes : List UInt8 := [98, 121, 116, 101, 115]
def whyM (m : Ms) : List UInt8 × Int :=
  if m.kind < 1 ∨ 5 < m.kind then (tKind, 12)
  else if zeroB m = false then (tZero, 12)
  else if opB m = false then (tOp, 12)
  else if numB m = false then (tNumber, 1)
  else if 64 < m.cards.length ∨ 64 < m.keys.length then (tCards, 3)
  else if m.cards.all cardB = false ∨ m.keys.all keyB = false then (tCard, 1)
  else ([], 0)
structure RightM (m : Ms) : Prop where
  kind : 1 ≤ m.kind ∧ m.kind ≤ 5
  zero : zeroB m = true
  op : opB m = true
  num : Byt m.code ∧ Byt m.st ∧ -1 ≤ m.seq
  len : m.cards.length ≤ 64 ∧ m.keys.length ≤ 64
  all : (∀ c ∈ m.cards, cardB c = true) ∧ ∀ k ∈ m.keys, keyB k = true
theorem right_of {m : Ms} (h : (whyM m).2 = 0) : RightM m := by
  unfold whyM at h
  by_cases h1 : m.kind < 1 ∨ 5 < m.kind
  · rw [if_pos h1] at h; cases h
  · rw [if_neg h1] at h
    by_cases h2 : zeroB m = false
    · rw [if_pos h2] at h; cases h
    · rw [if_neg h2] at h
      by_cases h3 : opB m = false
      · rw [if_pos h3] at h; cases h
      · rw [if_neg h3] at h
        by_cases h4 : numB m = false
        · rw [if_pos h4] at h; cases h
        · rw [if_neg h4] at h
          by_cases h5 : 64 < m.cards.length ∨ 64 < m.keys.length
          · rw [if_pos h5] at h; cases h
          · rw [if_neg h5] at h
            by_cases h6 : m.cards.all cardB = false ∨ m.keys.all keyB = false
            · rw [if_pos h6] at h; cases h
            · have h4' : numB m = true := by simpa using h4
              unfold numB at h4'
              simp only [Bool.and_eq_true, decide_eq_true_eq] at h4'
              have h6' : m.cards.all cardB = true ∧ m.keys.all keyB = true := by
                constructor
                · cases hq : m.cards.all cardB with
                  | true => rfl
                  | false => exact (h6 (.inl hq)).elim
                · cases hq : m.keys.all keyB with
                  | true => rfl
                  | false => exact (h6 (.inr hq)).elim
              exact ⟨by omega, by simpa using h2, by simpa using h3, ⟨h4'.1.1, h4'.1.2, h4'.2⟩, by omega, List.all_eq_true.1 h6'.1, List.all_eq_true.1 h6'.2⟩
theorem right_iff {m : Ms} : (whyM m).2 = 0 ↔ whyM m = ([], 0) := by
  constructor
  · intro h
    obtain ⟨a, b, c, d, e, f⟩ := right_of h
    unfold whyM
    have h1 : ¬ (m.kind < 1 ∨ 5 < m.kind) := by omega
    have h4 : numB m = true := by simp [numB, d.1, d.2.1, d.2.2]
    have h5 : ¬ (64 < m.cards.length ∨ 64 < m.keys.length) := by omega
    have h6 : m.cards.all cardB = true := List.all_eq_true.2 f.1
    have h7 : m.keys.all keyB = true := List.all_eq_true.2 f.2
    simp [h1, b, c, h4, h5, h6, h7]
  · intro h; rw [h]
def bitI (b : Bool) : Int := if b then 1 else 0
def keyBs (k : Ky) : List UInt8 := packText k.1 ++ packText k.2
def cardBs (c : Cd) : List UInt8 := keyBs (c.a, c.i) ++ ([bU8 c.s] ++ ([bU8 c.o] ++ (be8 c.l ++ (be8 c.t ++ ([bU8 c.k] ++ (be8 c.n ++ [bU8 (bitI c.g)]))))))
def cardsBs (l : List Cd) : List UInt8 := [bU8 l.length] ++ (l.map cardBs).flatten
def keysBs (l : List Ky) : List UInt8 := [bU8 l.length] ++ (l.map keyBs).flatten
def askBs (m : Ms) : List UInt8 := be8 m.tag ++ ([bU8 m.op] ++ (keyBs (m.ka, m.ki) ++ (be8 m.n ++ ([bU8 m.st] ++ be8 m.seq))))
def ansBs (m : Ms) : List UInt8 := be8 m.tag ++ ([bU8 m.op] ++ (keyBs (m.ka, m.ki) ++ ([bU8 m.code] ++ ([bU8 (bitI m.full)] ++ (be8 m.seq ++ (be8 m.sum ++ cardsBs m.cards))))))
def bodyBs (m : Ms) : List UInt8 :=
  if m.kind = 1 then askBs m
  else if m.kind = 2 then ansBs m
  else if m.kind = 5 then keysBs m.keys
  else cardsBs m.cards
def bytesM (m : Ms) : List UInt8 := [bU8 m.kind] ++ bodyBs m
abbrev Pr (α : Type) := List UInt8 → Option (α × List UInt8)
def Pr.ret {α : Type} (x : α) : Pr α := fun l => some (x, l)
def Pr.then {α β : Type} (p : Pr α) (f : α → Pr β) : Pr β := fun l => (p l).bind fun x => f x.1 x.2
def Pr.map {α β : Type} (p : Pr α) (f : α → β) : Pr β := p.then fun x => Pr.ret (f x)
def Pr.rep {α : Type} (p : Pr α) : Nat → Pr (List α)
  | 0 => Pr.ret []
  | n + 1 => p.then fun x => (Pr.rep p n).map fun r => x :: r
def byteP : Pr Nat
  | [] => none
  | x :: r => some (x.toNat, r)
def intP : Pr Int := fun l => if l.length < 8 then none else some (intV (l.take 8), l.drop 8)
def textP : Pr (List UInt8) := byteP.then fun n l => if l.length < n then none else some (l.take n, l.drop n)
def bitP : Pr Bool := byteP.then fun n l => if n > 1 then none else some (n == 1, l)
def sumP : Pr Int := intP.then fun n l => if n < 0 ∨ 4294967295 < n then none else some (n, l)
def keyP : Pr Ky := textP.then fun a => textP.map fun i => (a, i)
def cardP : Pr Cd := keyP.then fun k => byteP.then fun s => byteP.then fun o => intP.then fun l => intP.then fun t => byteP.then fun d => intP.then fun n => bitP.map fun g => ⟨k.1, k.2, s, o, l, t, d, n, g⟩
def cardsP : Pr (List Cd) := byteP.then cardP.rep
def keysP : Pr (List Ky) := byteP.then keyP.rep
def noM (k : Int) : Ms := ⟨k, 0, 0, 0, 0, 0, 0, [], [], false, 0, [], []⟩
def askP : Pr Ms := intP.then fun tag => byteP.then fun op => keyP.then fun key => intP.then fun n => byteP.then fun st => intP.map fun seq => { noM 1 with tag := tag, op := op, ka := key.1, ki := key.2, n := n, st := st, seq := seq }
def ansP : Pr Ms := intP.then fun tag => byteP.then fun op => keyP.then fun key => byteP.then fun code => bitP.then fun full => intP.then fun seq => sumP.then fun sum => cardsP.map fun cards =>
    { noM 2 with tag := tag, op := op, ka := key.1, ki := key.2, code := code, full := full, seq := seq, sum := sum, cards := cards }
def bodyP (k : Nat) : Pr Ms :=
  if k = 1 then askP
  else if k = 2 then ansP
  else if k = 3 ∨ k = 4 then cardsP.map fun cards => { noM k with cards := cards }
  else if k = 5 then keysP.map fun keys => { noM k with keys := keys }
  else Pr.ret (noM k)
def msgP : Pr Ms := byteP.then bodyP
def readM (b : List UInt8) : Ms ⊕ (List UInt8 × Int) :=
  match msgP b with
  | some (m, []) => if (whyM m).2 = 0 then .inl m else .inr (whyM m)
  | _ => .inr (tBytes, 12)
def Ext {α : Type} (p : Pr α) : Prop := ∀ l x r t, p l = some (x, r) → p (l ++ t) = some (x, r ++ t)
theorem Ext.ret {α : Type} (x : α) : Ext (Pr.ret x) := by
  intro l y r t h
  cases h
  rfl
theorem Ext.then {α β : Type} {p : Pr α} {f : α → Pr β} (hp : Ext p) (hf : ∀ x, Ext (f x)) : Ext (p.then f) := by
  intro l y r t h
  unfold Pr.then at *
  cases hq : p l with
  | none => rw [hq] at h; cases h
  | some z =>
    obtain ⟨x, l'⟩ := z
    rw [hq] at h
    rw [hp _ _ _ t hq]
    exact hf x _ _ _ t h
theorem Ext.map {α β : Type} {p : Pr α} (hp : Ext p) (f : α → β) : Ext (p.map f) := hp.then fun x => Ext.ret _
theorem Ext.rep {α : Type} {p : Pr α} (hp : Ext p) : ∀ n, Ext (p.rep n)
  | 0 => Ext.ret []
  | n + 1 => hp.then fun x => (Ext.rep hp n).map _
theorem Ext.byte : Ext byteP := by
  intro l x r t h
  cases l with
  | nil => cases h
  | cons c l => cases h; rfl
theorem Ext.cut {β : Type} (n : Nat) (g : List UInt8 → β) : Ext (fun l => if l.length < n then none else some (g (l.take n), l.drop n)) := by
  intro l x r t h
  by_cases hn : l.length < n
  · simp only [if_pos hn] at h; cases h
  · simp only [if_neg hn] at h
    cases h
    have h2 : ¬ (l ++ t).length < n := by simp; omega
    simp only [if_neg h2]
    rw [List.take_append_of_le_length (by omega), List.drop_append_of_le_length (by omega)]
theorem Ext.int : Ext intP := Ext.cut 8 intV
theorem Ext.text : Ext textP := Ext.byte.then fun n => Ext.cut n id
theorem Ext.guard {α β : Type} (c : Prop) [Decidable c] (x : β) : Ext (fun l => if c then none else some (x, l)) := by
  intro l y r t h
  by_cases hc : c
  · simp only [if_pos hc] at h; cases h
  · simp only [if_neg hc] at h ⊢; cases h; rfl
theorem Ext.bit : Ext bitP := Ext.byte.then fun n => Ext.guard (α := Nat) _ _
theorem Ext.sum : Ext sumP := Ext.int.then fun n => Ext.guard (α := Nat) _ _
theorem Ext.key : Ext keyP := Ext.text.then fun a => Ext.text.map _
theorem Ext.card : Ext cardP := Ext.key.then fun k => Ext.byte.then fun s => Ext.byte.then fun o => Ext.int.then fun l => Ext.int.then fun t => Ext.byte.then fun d => Ext.int.then fun n => Ext.bit.map _
theorem Ext.cards : Ext cardsP := Ext.byte.then fun n => Ext.card.rep n
theorem Ext.keys : Ext keysP := Ext.byte.then fun n => Ext.key.rep n
theorem Ext.body (k : Nat) : Ext (bodyP k) := by
  unfold bodyP
  split
  · exact Ext.int.then fun _ => Ext.byte.then fun _ => Ext.key.then fun _ => Ext.int.then fun _ => Ext.byte.then fun _ => Ext.int.map _
  · split
    · exact Ext.int.then fun _ => Ext.byte.then fun _ => Ext.key.then fun _ => Ext.byte.then fun _ => Ext.bit.then fun _ => Ext.int.then fun _ => Ext.sum.then fun _ => Ext.cards.map _
    · split
      · exact Ext.cards.map _
      · split
        · exact Ext.keys.map _
        · exact Ext.ret _
theorem Ext.msg : Ext msgP := Ext.byte.then Ext.body
def Rds {α : Type} (p : Pr α) (b : List UInt8) (x : α) : Prop := ∀ r, p (b ++ r) = some (x, r)
theorem Rds.then {α β : Type} {p : Pr α} {f : α → Pr β} {b c : List UInt8} {x : α} {y : β} (hp : Rds p b x) (hf : Rds (f x) c y) : Rds (p.then f) (b ++ c) y := by
  intro r
  unfold Pr.then
  rw [List.append_assoc, hp]
  exact hf r
theorem Rds.map {α β : Type} {p : Pr α} {b : List UInt8} {x : α} (hp : Rds p b x) (f : α → β) : Rds (p.map f) b (f x) := by
  intro r
  unfold Pr.map Pr.then
  rw [hp]
  rfl
theorem Rds.rep {α : Type} {p : Pr α} {f : α → List UInt8} : ∀ (l : List α), (∀ x ∈ l, Rds p (f x) x) → Rds (p.rep l.length) (l.map f).flatten l
  | [], _ => fun r => rfl
  | x :: l, h => by
    rw [List.map_cons, List.flatten_cons, List.length_cons]
    exact (h x (by simp)).then ((Rds.rep l fun y hy => h y (by simp [hy])).map _)
theorem bU8_to (n : Int) (h : Byt n) : (bU8 n).toNat = n.toNat := by
  have := bU8_int n
  rw [IntKind.wrap_u8] at this
  unfold Byt at h
  omega
theorem Rds.byte (n : Int) (h : Byt n) : Rds byteP [bU8 n] n.toNat := fun r => by
  show some ((bU8 n).toNat, r) = _
  rw [bU8_to n h]
theorem Rds.int (n : Int) (h : I64 n) : Rds intP (be8 n) n := fun r => by
  have h1 : ¬ (be8 n ++ r).length < 8 := by simp
  unfold intP
  rw [if_neg h1, List.take_append_of_le_length (by simp), List.drop_append_of_le_length (by simp), List.take_of_length_le (by simp), List.drop_of_length_le (by simp)]
  simp only [intV, dec_be8 n h, List.nil_append]
theorem Rds.text (s : List UInt8) (h : s.length ≤ 255) : Rds textP (packText s) s := by
  have h1 : s.take 255 = s := List.take_of_length_le h
  have h2 : packText s = [bU8 (s.length : Int)] ++ s := by simp [packText, h1]
  rw [h2]
  refine (Rds.byte (s.length : Int) ⟨by omega, by omega⟩).then fun r => ?_
  have h3 : ¬ (s ++ r).length < ((s.length : Nat) : Int).toNat := by simp
  simp only [if_neg h3, Int.toNat_natCast]
  rw [List.take_append_of_le_length (by simp), List.drop_append_of_le_length (by simp)]
  simp
theorem Rds.bit (b : Bool) : Rds bitP [bU8 (bitI b)] b := by
  refine (Rds.byte (bitI b) (by cases b <;> decide)).then (c := []) fun r => ?_
  cases b <;> rfl
theorem Rds.sum (n : Int) (h : U32 n) : Rds sumP (be8 n) n := by
  unfold U32 at h
  have := (Rds.int n (by unfold I64; omega)).then (f := fun n l => if n < 0 ∨ 4294967295 < n then none else some (n, l)) (c := []) (y := n) fun r => by
    have : ¬ (n < 0 ∨ 4294967295 < n) := by omega
    simp [this]
  rw [List.append_nil] at this
  exact this
theorem name_len {s : List UInt8} (h : nameB s = true) : s.length ≤ 16 := by
  unfold nameB at h
  simp only [Bool.and_eq_true, decide_eq_true_eq] at h
  exact h.1.2
theorem Rds.key (k : Ky) (h : k.1.length ≤ 255 ∧ k.2.length ≤ 255) : Rds keyP (keyBs k) k := (Rds.text k.1 h.1).then ((Rds.text k.2 h.2).map _)
theorem Rds.key' (k : Ky) (h : keyB k = true) : Rds keyP (keyBs k) k := by
  unfold keyB at h
  rw [Bool.and_eq_true] at h
  exact Rds.key k ⟨by have := name_len h.1; omega, by have := name_len h.2; omega⟩
def Cd.Wf (c : Cd) : Prop := I64 c.s ∧ I64 c.o ∧ I64 c.l ∧ I64 c.t ∧ I64 c.k ∧ I64 c.n
theorem Rds.card (c : Cd) (h : cardB c = true) (w : c.Wf) : Rds cardP (cardBs c) c := by
  have hk : Rds keyP (keyBs (c.a, c.i)) (c.a, c.i) := Rds.key' _ (by unfold cardB at h; simp only [Bool.and_eq_true] at h; unfold keyB; rw [Bool.and_eq_true]; exact ⟨h.1.1.1.1.1.1.1, h.1.1.1.1.1.1.2⟩)
  have hs : Byt c.s ∧ Byt c.o ∧ Byt c.k := by
    unfold cardB stampB at h
    simp only [Bool.and_eq_true, Bool.or_eq_true, decide_eq_true_eq] at h
    unfold Byt
    omega
  obtain ⟨_, _, wl, wt, _, wn⟩ := w
  have e1 : ((c.s.toNat : Nat) : Int) = c.s := Int.toNat_of_nonneg hs.1.1
  have e2 : ((c.o.toNat : Nat) : Int) = c.o := Int.toNat_of_nonneg hs.2.1.1
  have e3 : ((c.k.toNat : Nat) : Int) = c.k := Int.toNat_of_nonneg hs.2.2.1
  refine hk.then ((Rds.byte c.s hs.1).then ((Rds.byte c.o hs.2.1).then ((Rds.int c.l wl).then ((Rds.int c.t wt).then ((Rds.byte c.k hs.2.2).then ((Rds.int c.n wn).then ?_))))))
  rw [e1, e2, e3]
  exact (Rds.bit c.g).map _
theorem Rds.cardsR (l : List Cd) (hn : l.length ≤ 255) (h : ∀ c ∈ l, cardB c = true) (w : ∀ c ∈ l, c.Wf) : Rds cardsP (cardsBs l) l := by
  have := (Rds.byte (l.length : Int) ⟨by omega, by omega⟩).then (f := cardP.rep) (Rds.rep (p := cardP) (f := cardBs) l fun c hc => Rds.card c (h c hc) (w c hc))
  exact this
theorem Rds.keysR (l : List Ky) (hn : l.length ≤ 255) (h : ∀ c ∈ l, keyB c = true) : Rds keysP (keysBs l) l := by
  have := (Rds.byte (l.length : Int) ⟨by omega, by omega⟩).then (f := keyP.rep) (Rds.rep (p := keyP) (f := keyBs) l fun c hc => Rds.key' c (h c hc))
  exact this
structure Ms.Wf (m : Ms) : Prop where
  kind : I64 m.kind
  op : I64 m.op
  st : I64 m.st
  code : I64 m.code
  tag : I64 m.tag
  n : I64 m.n
  seq : I64 m.seq
  sum : U32 m.sum
  cards : ∀ c ∈ m.cards, c.Wf
theorem nat_of {n : Int} (h : Byt n) : ((n.toNat : Nat) : Int) = n := Int.toNat_of_nonneg h.1
theorem Rds.msg (m : Ms) (R : RightM m) (w : m.Wf) : Rds msgP (bytesM m) m := by
  obtain ⟨hk, hz, ho, ⟨n1, n2, n3⟩, ⟨l1, l2⟩, a1, a2⟩ := R
  have kk : Byt m.kind := by unfold Byt; omega
  refine (Rds.byte m.kind kk).then ?_
  obtain ⟨kind, op, st, code, tag, n, seq, ka, ki, full, sum, cards, keys⟩ := m
  obtain ⟨_, _, _, _, wt, wn, ws, wu, wc⟩ := w
  simp only at *
  have ek : kind = 1 ∨ kind = 2 ∨ kind = 3 ∨ kind = 4 ∨ kind = 5 := by omega
  unfold zeroB at hz
  unfold opB at ho
  have hop : kind = 1 ∨ kind = 2 → Byt op ∧ ka.length ≤ 255 ∧ ki.length ≤ 255 := by
    intro h
    simp only [if_pos h] at ho
    by_cases h5 : op = 5
    · simp only [if_pos h5, Bool.and_eq_true, decide_eq_true_eq] at ho
      rw [ho.1, ho.2, h5]
      exact ⟨by decide, by simp, by simp⟩
    · simp only [if_neg h5, Bool.and_eq_true, decide_eq_true_eq, keyB] at ho
      have := name_len ho.2.1
      have := name_len ho.2.2
      exact ⟨by unfold Byt; omega, by omega, by omega⟩
  rcases ek with rfl | rfl | rfl | rfl | rfl
  · obtain ⟨o1, o2⟩ := hop (.inl rfl)
    simp only [if_true, Bool.and_eq_true, decide_eq_true_eq, Bool.not_eq_true'] at hz
    obtain ⟨⟨⟨⟨rfl, rfl⟩, rfl⟩, rfl⟩, rfl⟩ := hz
    show Rds askP (askBs _) _
    refine (Rds.int tag wt).then ?_
    refine (Rds.byte op o1).then ?_
    refine (Rds.key (ka, ki) o2).then ?_
    refine (Rds.int n wn).then ?_
    refine (Rds.byte st n2).then ?_
    rw [nat_of o1, nat_of n2]
    exact (Rds.int seq ws).map _
  · obtain ⟨o1, o2⟩ := hop (.inr rfl)
    have e : ¬ ((2 : Int) = 1) := by decide
    simp only [if_neg e, if_true, Bool.and_eq_true, decide_eq_true_eq] at hz
    obtain ⟨⟨rfl, rfl⟩, rfl⟩ := hz
    show Rds ansP (ansBs _) _
    refine (Rds.int tag wt).then ?_
    refine (Rds.byte op o1).then ?_
    refine (Rds.key (ka, ki) o2).then ?_
    refine (Rds.byte code n1).then ?_
    refine (Rds.bit full).then ?_
    refine (Rds.int seq ws).then ?_
    refine (Rds.sum sum wu).then ?_
    rw [nat_of o1, nat_of n1]
    exact (Rds.cardsR cards (by omega) a1 wc).map _
  all_goals
    simp (decide := true) only [if_false, if_true, Bool.and_eq_true, decide_eq_true_eq, Bool.not_eq_true'] at hz
    obtain ⟨⟨⟨⟨⟨⟨⟨⟨⟨⟨rfl, rfl⟩, rfl⟩, rfl⟩, rfl⟩, rfl⟩, rfl⟩, rfl⟩, rfl⟩, rfl⟩, rfl⟩ := hz
    first
      | exact (Rds.cardsR _ (by omega) a1 wc).map fun cards => ({ noM 3 with cards := cards } : Ms)
      | exact (Rds.cardsR _ (by omega) a1 wc).map fun cards => ({ noM 4 with cards := cards } : Ms)
      | exact (Rds.keysR _ (by omega) a2).map fun keys => ({ noM 5 with keys := keys } : Ms)
theorem read_back (m : Ms) (R : RightM m) (w : m.Wf) : readM (bytesM m) = .inl m := by
  have h := Rds.msg m R w []
  rw [List.append_nil] at h
  have h0 : (whyM m).2 = 0 := by
    obtain ⟨a, b, c, d, e, f⟩ := R
    unfold whyM
    have h1 : ¬ (m.kind < 1 ∨ 5 < m.kind) := by omega
    have h4 : numB m = true := by simp [numB, d.1, d.2.1, d.2.2]
    have h5 : ¬ (64 < m.cards.length ∨ 64 < m.keys.length) := by omega
    have h6 : m.cards.all cardB = true := List.all_eq_true.2 f.1
    have h7 : m.keys.all keyB = true := List.all_eq_true.2 f.2
    simp [h1, b, c, h4, h5, h6, h7]
  simp [readM, h, h0]
end Go.Proofs.YtjibfbphiemljaaGreatDoor.Code
