/- Chapter 17: queues. -/
import Derived.Test.YthnilenennobeaaLaw
namespace Go.Proofs.Ythnilenennobeaa.Code
set_option linter.unusedSimpArgs false
set_option linter.unusedVariables false
open Go.Fw

def sE : El AVal 1 := ⟨fun s => [s], fun _ => rfl, by omega⟩
@[simp] theorem sE_f (s : AVal) : sE.f s = [s] := rfl

structure Q where
  P : List Int
  R : List (List Cd)
  lost : Int

def rowIn (row : List Cd) (c : Cd) : List Cd := row.filter (fun x => !decide (x.key = c.key)) ++ [c]
def rowAdd (row : List Cd) (c : Cd) : List Cd := if 16 < (rowIn row c).length then (rowIn row c).drop 1 else rowIn row c
def lostOf (lost : Int) (row : List Cd) (c : Cd) : Int := if 16 < (rowIn row c).length then IntKind.i64.wrap (lost + 1) else lost
def Q.addAt (q : Q) (i : Nat) (c : Cd) : Q := ⟨q.P, q.R.set i (rowAdd (q.R.getD i []) c), lostOf q.lost (q.R.getD i []) c⟩
def Q.addUp (q : Q) (c : Cd) : Nat → Q
  | 0 => q
  | n + 1 => (q.addUp c n).addAt n c
def Q.add1 (q : Q) (c : Cd) : Q := q.addUp c q.R.length
def Q.addAll (q : Q) (l : List Cd) : Q := l.foldl Q.add1 q

theorem rowIn_len (row : List Cd) (c : Cd) (h : row.length ≤ 16) : 1 ≤ (rowIn row c).length ∧ (rowIn row c).length ≤ 17 := by
  have := List.length_filter_le (fun x => !decide (x.key = c.key)) row
  unfold rowIn
  rw [List.length_append, List.length_singleton]
  omega
theorem rowAdd_len (row : List Cd) (c : Cd) (h : row.length ≤ 16) : (rowAdd row c).length ≤ 16 := by
  have := rowIn_len row c h
  unfold rowAdd
  split
  · rw [List.length_drop]; omega
  · omega

def RowOk (own : Bool) (s : AVal) (H : Heap) (l : List Cd) : Prop := match own with | true => BufC s H 0 l | false => SrcC s H l ∧ El.Room s
theorem RowOk.src {own : Bool} {s : AVal} {H : Heap} {l : List Cd} (R : RowOk own s H l) : SrcC s H l ∧ El.Room s := by
  cases own with
  | true => have R : BufC s H 0 l := R; exact ⟨R.src, R.room⟩
  | false => exact R
theorem RowOk.kept {own : Bool} {s : AVal} {H H' : Heap} {l : List Cd} (R : RowOk own s H l) (hn : H.next ≤ H'.next) (ho : ∀ b, slBlk s = some b → H'.blk b = H.blk b) : RowOk own s H' l := by
  cases own with
  | true => exact Fw.Buf.kept R hn ho
  | false => exact ⟨Fw.Src.kept R.1 hn ho, R.2⟩

structure QIn (own : Bool) (p : Nat) (H : Heap) (q : Q) (F : Foot) (ps rs : AVal) (S : List AVal) : Prop where
  fp : F p
  flt : ∀ b, F b → b < H.next
  blk : H.blk p = some ⟨[ps, rs, .int .i64 q.lost], true⟩
  ints : Ints .i64 ps H q.P
  pl : q.P.length ≤ 6
  pb : ∀ b, slBlk ps = some b → F b ∧ b ≠ p
  rows : sE.Buf rs H 0 S
  rb : ∀ b, slBlk rs = some b → F b ∧ b ≠ p ∧ slBlk ps ≠ some b
  len : S.length = q.R.length
  leq : q.R.length = q.P.length
  row : ∀ i, i < S.length → RowOk own (S.getD i .nilSlice) H (q.R.getD i [])
  rowb : ∀ i b, slBlk (S.getD i .nilSlice) = some b → F b ∧ b ≠ p ∧ slBlk ps ≠ some b ∧ slBlk rs ≠ some b
  apart : own = true → ∀ i j b, slBlk (S.getD i .nilSlice) = some b → slBlk (S.getD j .nilSlice) = some b → i = j
  most : ∀ i, (q.R.getD i []).length ≤ 16

theorem QIn.mono {own : Bool} {p : Nat} {H H' : Heap} {q : Q} {F : Foot} {ps rs : AVal} {S : List AVal} (Z : QIn own p H q F ps rs S) (hn : H.next ≤ H'.next) (ho : ∀ b, F b → H'.blk b = H.blk b) : QIn own p H' q F ps rs S where
  fp := Z.fp
  flt := fun b h => Nat.lt_of_lt_of_le (Z.flt b h) hn
  blk := by rw [ho p Z.fp]; exact Z.blk
  ints := Z.ints.mono fun b hb => ho b (Z.pb b hb).1
  pl := Z.pl
  pb := Z.pb
  rows := Fw.Buf.kept Z.rows hn fun b hb => ho b (Z.rb b hb).1
  rb := Z.rb
  len := Z.len
  leq := Z.leq
  row := fun i hi => (Z.row i hi).kept hn fun b hb => ho b (Z.rowb i b hb).1
  rowb := Z.rowb
  apart := Z.apart
  most := Z.most

section
variable {own : Bool} {p : Nat} {H : Heap} {q : Q} {F : Foot} {ps rs : AVal} {S : List AVal}
theorem QIn.rd0 (Z : QIn own p H q F ps rs S) : H.rd p 0 1 = some [ps] := by rw [rd_of Z.blk 0 1 (by simp)]; rfl
theorem QIn.rd1 (Z : QIn own p H q F ps rs S) : H.rd p 1 1 = some [rs] := by rw [rd_of Z.blk 1 1 (by simp)]; rfl
theorem QIn.rd2 (Z : QIn own p H q F ps rs S) : H.rd p 2 1 = some [.int .i64 q.lost] := by rw [rd_of Z.blk 2 1 (by simp)]; rfl
theorem QIn.lt (Z : QIn own p H q F ps rs S) : p < H.next := Z.flt p Z.fp
theorem QIn.rowAt (Z : QIn own p H q F ps rs S) (i : Nat) (hi : i < S.length) : ∃ a, aIaddr 1 rs (.int .i64 i) = some a ∧ aLoad H 1 a = some [S.getD i .nilSlice] := by
  obtain ⟨a, e1, e2⟩ := El.Src.el (E := sE) (l := S) Z.rows.src i hi
  refine ⟨a, e1, ?_⟩
  rw [e2, List.getD_eq_getElem?_getD, List.getElem?_eq_getElem hi]
  rfl
def Foot.add (F : Foot) (s : AVal) : Foot := fun b => F b ∨ slBlk s = some b
theorem getD_set (S : List AVal) (i j : Nat) (x : AVal) (hi : i < S.length) : (S.set i x).getD j .nilSlice = if i = j then x else S.getD j .nilSlice := by
  rw [List.getD_eq_getElem?_getD, List.getElem?_set, List.getD_eq_getElem?_getD]
  by_cases h : i = j
  · subst h; simp [hi]
  · simp [h]
theorem getD_setR (R : List (List Cd)) (i j : Nat) (x : List Cd) (hi : i < R.length) : (R.set i x).getD j [] = if i = j then x else R.getD j [] := by
  rw [List.getD_eq_getElem?_getD, List.getElem?_set, List.getD_eq_getElem?_getD]
  by_cases h : i = j
  · subst h; simp [hi]
  · simp [h]

/-- A row is laid into its place. -/
theorem QIn.put {H1 : Heap} {lost1 : Int} {s' : AVal} {r' : List Cd} (Z : QIn own p H q F ps rs S) (i : Nat) (hi : i < S.length) (hn : H.next ≤ H1.next)
    (ho : ∀ b, b < H.next → b ≠ p → (own = true → slBlk (S.getD i .nilSlice) ≠ some b) → H1.blk b = H.blk b)
    (hp : H1.blk p = some ⟨[ps, rs, .int .i64 lost1], true⟩) (hr : RowOk own s' H1 r') (hs : ∀ b, slBlk s' = some b → slBlk (S.getD i .nilSlice) = some b ∨ H.next ≤ b) (hm : r'.length ≤ 16) :
    ∃ a H', aIaddr 1 rs (.int .i64 i) = some a ∧ aStore H1 a [s'] = some H' ∧ QIn own p H' ⟨q.P, q.R.set i r', lost1⟩ (Foot.add F s') ps rs (S.set i s') ∧ Mv F (Foot.add F s') H H' ∧ H'.next = H1.next ∧ ∀ b, slBlk rs ≠ some b → H'.blk b = H1.blk b := by
  have iR : i < q.R.length := by rw [← Z.len]; exact hi
  have hrs : sE.Buf rs H1 0 S := Fw.Buf.kept Z.rows hn fun b hb => ho b (Fw.Buf.blk Z.rows b hb).2 (Z.rb b hb).2.1 fun _ h => (Z.rowb i b h).2.2.2 hb
  obtain ⟨a, H', e1, e2, B', n', fr⟩ := El.Buf.set (E := sE) hrs i hi s'
  have hs1 : ∀ b, slBlk s' = some b → b < H1.next := fun b hb => (hr.src.1).blk b hb
  have hold : ∀ b, b < H.next → ¬ F b → H'.blk b = H.blk b := fun b hb hF => by
    rw [fr b fun h => hF (Z.rb b h).1, ho b hb (fun e => hF (by rw [e]; exact Z.fp)) fun _ h => hF (Z.rowb i b h).1]
  have G : ∀ {b}, F b → Foot.add F s' b := .inl
  have ne_p : ∀ b, slBlk s' = some b → b ≠ p ∧ slBlk ps ≠ some b ∧ slBlk rs ≠ some b := fun b hb => by
    rcases hs b hb with h | h
    · exact (Z.rowb i b h).2
    · refine ⟨?_, fun e => ?_, fun e => ?_⟩
      · have := Z.lt; omega
      · have := Z.flt b (Z.pb b e).1; omega
      · have := Z.flt b (Z.rb b e).1; omega
  refine ⟨a, H', e1, e2, ⟨G Z.fp, fun b h => h.elim (fun h => by have := Z.flt b h; omega) fun h => by have := hs1 b h; omega, ?_, ?_, Z.pl, fun b hb => ⟨G (Z.pb b hb).1, (Z.pb b hb).2⟩, B', fun b hb => ⟨G (Z.rb b hb).1, (Z.rb b hb).2⟩, by simp [Z.len], by simp [Z.leq], ?_, ?_, ?_, ?_⟩, ⟨by omega, hold, fun b h => h.elim .inl fun h => (hs b h).imp (fun h => (Z.rowb i b h).1) id⟩, n', fr⟩
  · rw [fr p fun h => (Z.rb p h).2.1 rfl]; exact hp
  · exact Z.ints.mono fun b hb => by
      rw [fr b fun h => (Z.rb b h).2.2 hb, ho b (Z.flt b (Z.pb b hb).1) (Z.pb b hb).2 fun _ h => (Z.rowb i b h).2.2.1 hb]
  · intro j hj
    have hj' : j < S.length := by simpa using hj
    rw [getD_set _ _ _ _ hi]
    show RowOk own _ H' ((q.R.set i r').getD j [])
    rw [getD_setR _ _ _ _ iR]
    by_cases h : i = j
    · rw [if_pos h, if_pos h]
      exact hr.kept (by omega) fun b hb => fr b (ne_p b hb).2.2
    · rw [if_neg h, if_neg h]
      refine (Z.row j hj').kept (by omega) fun b hb => ?_
      have hb' := Z.rowb j b hb
      rw [fr b hb'.2.2.2, ho b (Z.flt b hb'.1) hb'.2.1 fun e h' => h (Z.apart e i j b h' hb)]
  · intro j b hb
    rw [getD_set _ _ _ _ hi] at hb
    by_cases h : i = j
    · rw [if_pos h] at hb
      refine ⟨?_, ne_p b hb⟩
      rcases hs b hb with h' | h'
      · exact G (Z.rowb i b h').1
      · exact .inr hb
    · rw [if_neg h] at hb
      have := Z.rowb j b hb
      exact ⟨G this.1, this.2⟩
  · intro ho' j k b hj hk
    rw [getD_set _ _ _ _ hi] at hj hk
    have A := Z.apart ho'
    have old : ∀ j, slBlk (S.getD j .nilSlice) = some b → b < H.next := fun j h => Z.flt b (Z.rowb j b h).1
    by_cases h1 : i = j <;> by_cases h2 : i = k
    · omega
    · rw [if_pos h1] at hj; rw [if_neg h2] at hk
      rcases hs b hj with h | h
      · exact absurd (A i k b h hk) h2
      · have := old k hk; omega
    · rw [if_neg h1] at hj; rw [if_pos h2] at hk
      rcases hs b hk with h | h
      · exact absurd (A i j b h hj) h1
      · have := old j hj; omega
    · rw [if_neg h1] at hj; rw [if_neg h2] at hk
      exact A j k b hj hk
  · intro j
    show ((q.R.set i r').getD j []).length ≤ 16
    rw [getD_setR _ _ _ _ iR]
    split
    · exact hm
    · exact Z.most j
end
end Go.Proofs.Ythnilenennobeaa.Code
