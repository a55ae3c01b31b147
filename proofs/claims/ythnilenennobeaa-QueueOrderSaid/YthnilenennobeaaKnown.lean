/- Chapter 17: known runs. -/
import Derived.Test.YthnilenennobeaaPlay
namespace Go.Proofs.Ythnilenennobeaa.Code
set_option linter.unusedSimpArgs false
set_option linter.unusedVariables false
open Go.Fw

def cardK (b i : Nat) : Cd := ⟨[97], [UInt8.ofNat (b + i)], 0, 0, 0, 0, 0, 0, false⟩
def cds (b n : Nat) : List Cd := (List.range n).map (cardK b)
theorem cds_succ (b n : Nat) : cds b (n + 1) = cds b n ++ [cardK b n] := by simp [cds, List.range_succ]
@[simp] theorem cds_len (b n : Nat) : (cds b n).length = n := by simp [cds]
theorem addAll_snoc (q : Q) (l : List Cd) (c : Cd) : q.addAll (l ++ [c]) = (q.addAll l).add1 c := by simp [Q.addAll]

theorem wrap32 (n : Nat) (h : n < 200) : IntKind.i32.wrap (n : Int) = (n : Int) := by
  have h1 : ∀ n, n < 200 → IntKind.i32.wrap ((n : Nat) : Int) = (n : Int) := by decide +kernel
  exact h1 n h
theorem enc1 (n : Nat) (h : n < 128) : (Utf8.encode (n : Int)).data.toList = [UInt8.ofNat n] := by
  have h1 : ∀ n, n < 128 → (Utf8.encode ((n : Nat) : Int)).data.toList = [UInt8.ofNat n] := by decide +kernel
  exact h1 n h

section
variable {p : Nat} {H : Heap} {q : Q} {F : Foot} {ps rs : AVal} {S : List AVal}

/-- One card, in a row that is made for it. -/
theorem addOne_ok (Z : QIn true p H q F ps rs S) (c : Cd) :
    ∃ H' S' F', E tbl 13 [.ptr p 0, .slice H.next 0 1 1 9 true] (H.alloc c.cells) = some (.tuple [], H') ∧ QIn true p H' (q.add1 c) F' ps rs S' ∧ Mv F F' H H' := by
  have Z1 := Z.mono (H' := H.alloc c.cells) (by simp) fun b hb => alloc_old _ _ (by have := Z.flt b hb; omega)
  have L := (El.Own.lit (E := cdE) H [c] (n := 1) rfl true).src
  simp only [El.rws_cons, El.rws_nil, List.append_nil, cdE_f] at L
  obtain ⟨H', S', F', e, Z', M⟩ := addAll_ok (l := [c]) Z1 L (by simp) (fun b hb hf => by cases hb; have := Z.flt _ hf; omega)
  exact ⟨H', S', F', e, Z', ((Went.alloc H c.cells).mv F).trans M⟩
end

theorem loop9 {p : Nat} {H : Heap} {q : Q} {F : Foot} {ps rs : AVal} {S : List AVal} (Z : QIn true p H q F ps rs S) :
    ∃ H' S' F', loop (L9_0 (E tbl)) [.ptr p 0, .int .i64 0] H = some (1, [.ptr p 0], H') ∧ QIn true p H' (q.addAll (cds 97 17)) F' ps rs S' ∧ Mv F F' H H' := by
  have key := loop_ok (f := L9_0 (E tbl)) (fun m xs G => ∃ (n : Nat) (S' : List AVal) (F' : Foot), m + n = 17 ∧ QIn true p G (q.addAll (cds 97 n)) F' ps rs S' ∧ Mv F F' H G ∧ xs = [.ptr p 0, .int .i64 n])
    (fun r => ∃ G S' F', r = (1, [.ptr p 0], G) ∧ QIn true p G (q.addAll (cds 97 17)) F' ps rs S' ∧ Mv F F' H G) ?_ 17 _ H ⟨0, S, F, rfl, by simpa [Q.addAll, cds] using Z, Mv.refl _ _, rfl⟩
  · obtain ⟨r, e, G, S', F', rfl, a, b⟩ := key
    simp only [Int.cast_ofNat_Int] at e
    exact ⟨G, S', F', e, a, b⟩
  · rintro m xs G ⟨n, S', F', m1, Z', M', rfl⟩
    by_cases h1 : n < 17
    · left
      have i1 : (n : Int) < 17 := by omega
      have w1 : IntKind.i64.wrap ((n : Int) + 1) = ((n + 1 : Nat) : Int) := wrap_succ _ (by omega)
      have w2 : IntKind.i64.wrap (97 + (n : Int)) = ((97 + n : Nat) : Int) := by rw [IntWalk.i64_in _ (by omega)]; omega
      have w3 := wrap32 (97 + n) (by omega)
      have w4 := enc1 (97 + n) (by omega)
      obtain ⟨G2, S2, F2, e2, Z2, M2⟩ := addOne_ok Z' (cardK 97 n)
      refine ⟨_, G2, ?_, m - 1, by omega, n + 1, S2, F2, by omega, by rw [cds_succ, addAll_snoc]; exact Z2, M'.trans M2, rfl⟩
      have c1 : aConv (.toInt .i32) (.int .i64 ((97 + n : Nat) : Int)) G = some (.int .i32 ((97 + n : Nat) : Int), G) := by simp only [aConv, w3]
      have c2 : aConv .intStr (.int .i32 ((97 + n : Nat) : Int)) G = some (.str [UInt8.ofNat (97 + n)], G) := by simp only [aConv, w4]
      simp only [Cd.cells, cardK] at e2
      simp only [L9_0, List.getD_cons_zero, List.getD_cons_succ, bin_lss, i1, decide_true, Option.bind_some, cond_bool, cond_true, bin_add, w2, c1, c2]
      generalize UInt8.ofNat (97 + n) = u at e2 ⊢
      simp [e2, w1]
    · right
      obtain rfl : n = 17 := by omega
      exact ⟨0, _, G, by simp [L9_0], G, S', F', rfl, Z', M'⟩

def q17 : Q := (Q.new [4, 4, 2]).addAll (cds 97 17)
theorem q17_taken : (q17.taken 4).length = 4 ∧ ((q17.taken 4)[0]?.map Cd.i) = some [98] := by decide +kernel
theorem q17_more : (q17.take 4).lost = 2 ∧ (q17.take 4).len 4 = 12 ∧ (q17.take 4).len 2 = 16 ∧ ((q17.take 4).taken 9).length = 0 ∧ ((q17.take 4).take 9).len 9 = 0 := by decide +kernel

theorem known_ok (h : Heap) : ∃ H, E tbl 9 [] h = some (.bool true, H) ∧ Went h H := by
  have I := Ints.lit .i64 h [4, 4, 2] 3 rfl true
  have W0 := Went.alloc h ([4, 4, 2].map (.int .i64))
  obtain ⟨G1, F, ps, rs, S, e1, Z1, W1, f1⟩ := new_ok I (fun b hb => by cases hb; simp) (by simp)
  obtain ⟨G2, S2, F2, e2, Z2, M2⟩ := loop9 Z1
  obtain ⟨o, G3, S3, F3, e3, O3, Z3, M3, n3⟩ := take_ok Z2 4
  have h3 : (Q.new [4, 4, 2]).addAll (cds 97 17) = q17 := rfl
  rw [h3] at Z3 O3
  obtain ⟨t1, t2⟩ := q17_taken
  obtain ⟨m1, m2, m3, m4, m5⟩ := q17_more
  have e4 := lost_eq Z3
  have e5 := len_eq Z3 4
  have e6 := len_eq Z3 2
  obtain ⟨o2, G4, S4, F4, e7, O4, Z4, M4, n4⟩ := take_ok Z3 9
  have e8 := len_eq Z4 9
  rw [m1] at e4
  rw [m2] at e5
  rw [m3] at e6
  rw [m5] at e8
  have hln := O3.src.len
  rw [t1] at hln
  have hln2 := O4.src.len
  rw [m4] at hln2
  obtain ⟨a, a1, a2⟩ := SrcC.card O3.src 0 (by omega)
  have hid : (q17.taken 4)[0].i = [98] := by
    rw [List.getElem?_eq_getElem (by omega)] at t2
    simpa using t2
  obtain ⟨ab, ao, rfl, hab⟩ := iaddr_ptr a1
  have a3 : G3.rd ab (ao + 1) 1 = some [.str [98]] := by
    have := rd_at (h := G3) (b := ab) (off := ao) (n := 9) (cs := (q17.taken 4)[0].cells) a2 1 (by omega)
    rw [this, ← hid]; rfl
  refine ⟨G4, ?_, W0.trans (W1.then f1 (M2.trans (M3.trans M4)) |> fun W => ⟨W.next, W.old⟩)⟩
  simp only [List.map_cons, List.map_nil] at e1 e2 e3 e4 e5 e6 e7 e8
  generalize (h.alloc [.int .i64 4, .int .i64 4, .int .i64 2]).next = pq at e1 e2 e3 e4 e5 e6 e7 e8
  simp only [Int.cast_ofNat_Int] at a1
  rw [c9]
  simp [S9, e1, e2, e3, e4, hln, a1, a3, e5, e6, e7, hln2, e8, beq_dec]
end Go.Proofs.Ythnilenennobeaa.Code
