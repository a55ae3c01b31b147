/- Chapter 8: what is known; NetParts. -/
import Derived.Test.YtfdhljghamkgjaaLaw
namespace Go.Proofs.Ytfdhljghamkgjaa.Code
set_option linter.unusedSimpArgs false
set_option linter.unusedVariables false
open Go.Fw

theorem known_eq (h : Heap) : ∃ h', E tbl 10 [] h = some (.bool true, h') ∧ Went h h' := by
  obtain ⟨H1, e1, N1, x1⟩ := new_eq h 2 (by omega)
  have e2 := new_no H1
  have W2 := Went.alloc H1 [.int .u8 120]
  have S2 := (Own.lit 1 H1 [.int .u8 120] 1 rfl true).src
  have cv : aConv .slBytes (.slice H1.next 0 1 1 1 true) (H1.alloc [.int .u8 120]) = some (.slice H1.next 0 1 1 1 true, H1.alloc [.int .u8 120]) := by
    simp [aConv, blk_alloc, beq_dec]
  obtain ⟨G, hG⟩ : ∃ G, G = H1.alloc [.int .u8 120] := ⟨_, rfl⟩
  rw [← hG] at W2 S2 cv
  have nn : aBin .neq .ptr .nilPtr .nilPtr = some (.bool false) := rfl
  obtain ⟨s3, l3, H3, e3, N3, F3, _⟩ := send_ok (N1.more W2) (f := 0) (t := 1) (b := [120]) S2 (by simp) (by decide) (by decide) (by simp)
  have N3' : NetAt h h.next l3 H3 2 [⟨0, 1, s3, [120]⟩] (fun _ _ => false) := N3
  obtain ⟨s4, l4, H4, e4, N4, F4, _⟩ := send_ok N3' (f := 0) (t := 1) (b := [120]) (N3'.own ⟨0, 1, s3, [120]⟩ (by simp)).1 (by simp) (by decide) (by decide) (by simp)
  have e4' := twice_send N3' 0 (by simp) e4
  have N4' : NetAt h h.next l4 H4 2 [⟨0, 1, s3, [120]⟩, ⟨0, 1, s4, [120]⟩] (fun _ _ => false) := N4
  obtain ⟨H5, e5, N5, F5, x5⟩ := set_ok N4' 0 1 true (by decide) (by decide) (by decide)
  have e6 := deliver_cut N5 0 (by simp) (by rfl)
  obtain ⟨H7, e7, N7, F7, x7⟩ := set_ok N5 1 0 false (by decide) (by decide) (by decide)
  obtain ⟨l8, H8, e8, N8, F8, x8, _⟩ := deliver_ok N7 (by simp) 1 (by simp) (by rfl)
  have N8' : NetAt h h.next l8 H8 2 [⟨0, 1, s3, [120]⟩] _ := N8
  have O7 := N7.own ⟨0, 1, s4, [120]⟩ (by simp)
  have T8 := (F8.src O7.1 O7.2).text
  have e9 := len_eq N8'
  have e10 := set_no N8' 0 0 true (by decide)
  have e11 := drop_no N8' 9 (by rfl)
  have e12 := parted_eq N8' 0 1
  have hp : isP 2 (upd (upd (upd (upd (fun _ _ => false) (0 : Int).toNat (1 : Int).toNat true) (1 : Int).toNat (0 : Int).toNat true) (1 : Int).toNat (0 : Int).toNat false) (0 : Int).toNat (1 : Int).toNat false) 0 1 = false := by decide
  rw [hp] at e12
  simp only [List.getElem_cons_zero, List.getElem_cons_succ, Int.cast_ofNat_Int, List.length_singleton] at e4' e6 e8 e9
  refine ⟨H8, ?_, N8.went⟩
  rw [c10]
  simp [S10, e1, e2, nn, ← hG, cv, e3, e4', cut_eq, heal_eq, e5, e6, e7, e8, S2.cell, O7.1.cell, T8, e9, e10, e11, e12]
  

theorem netParts_law (h0 : Heap) (a : Int) (_ : (Lit.int .i64 a).wf = true) (b : Int) (_ : (Lit.int .i64 b).wf = true)
    {s : AVal} {l : List Int} (I : Ints .u8 s h0 l) (lt : ∀ b, slBlk s = some b → b < h0.next) (wf : ∀ x ∈ l, (Lit.int .u8 x).wf = true) (sz : l.length * 1 ≤ 140737488355328) :
    ∃ h', E tbl 4 [.int .i64 a, .int .i64 b, s] h0 = some (.bool true, h') := by
  obtain ⟨bl, hbl, S⟩ := ints_bytes I lt wf
  obtain ⟨H1, e1, N1, x1⟩ := new_eq h0 4 (by omega)
  have w1 := within_ok a 0 3 H1 (by omega) (by omega) (by omega)
  obtain ⟨g0, g1⟩ := within_in a 0 3 (by omega)
  generalize within a 0 3 = x at w1 g0 g1
  have w2 := within_ok b 0 2 H1 (by omega) (by omega) (by omega)
  obtain ⟨g2, g3⟩ := within_in b 0 2 (by omega)
  generalize within b 0 2 = z at w2 g2 g3
  have v1 : IntKind.i64.wrap (x + 1) = x + 1 := IntWalk.i64_in _ (by omega)
  have v2 : IntKind.i64.wrap (x + 1 + z) = x + 1 + z := IntWalk.i64_in _ (by omega)
  have hy0 : (x + 1 + z).tmod 4 = (x + 1 + z) % 4 := Int.tmod_eq_emod_of_nonneg (by omega)
  obtain ⟨y, hy⟩ : ∃ y, y = (x + 1 + z) % 4 := ⟨_, rfl⟩
  have y0 : 0 ≤ y ∧ y < 4 := by omega
  have xy : x ≠ y := by omega
  have hx4 : inN 4 x = true := by simp [inN]; omega
  have hy4 : inN 4 y = true := by simp [inN]; omega
  obtain ⟨H2, e2, N2, F2, x2⟩ := set_ok N1 x y true hx4 hy4 xy
  have sp : ∀ c, slBlk s = some c → c ≠ h0.next := fun c hc => by have := lt c hc; omega
  have S2 : Src 1 s H2 bl.length (byteCells bl) := N2.went.src S
  obtain ⟨s3, l3, H3, e3, N3, F3, _⟩ := send_ok N2 (f := x) (t := y) S2 (by omega) hx4 hy4 (by simp)
  have N3' : NetAt h0 h0.next l3 H3 4 [⟨x, y, s3, bl⟩] _ := N3
  obtain ⟨s4, l4, H4, e4, N4, F4, _⟩ := send_ok N3' (f := y) (t := x) (N3'.went.src S) (by omega) hy4 hx4 (by simp)
  have N4' : NetAt h0 h0.next l4 H4 4 [⟨x, y, s3, bl⟩, ⟨y, x, s4, bl⟩] _ := N4
  obtain ⟨s5, l5, H5, e5, N5, F5, _⟩ := send_ok N4' (f := x) (t := x) (N4'.went.src S) (by omega) hx4 hx4 (by simp)
  have N5' : NetAt h0 h0.next l5 H5 4 [⟨x, y, s3, bl⟩, ⟨y, x, s4, bl⟩, ⟨x, x, s5, bl⟩] _ := N5
  obtain ⟨xn, hxn⟩ : ∃ n : Nat, x.toNat = n := ⟨_, rfl⟩
  obtain ⟨yn, hyn⟩ : ∃ n : Nat, y.toNat = n := ⟨_, rfl⟩
  have nxy : xn ≠ yn := by omega
  have p1 : isP 4 (upd (upd (fun _ _ => false) x.toNat y.toNat true) y.toNat x.toNat true) x y = true := by
    simp [isP, hx4, hy4, upd, hxn, hyn]
  have p2 : isP 4 (upd (upd (fun _ _ => false) x.toNat y.toNat true) y.toNat x.toNat true) y x = true := by
    simp [isP, hx4, hy4, upd, hxn, hyn]
  have p3 : isP 4 (upd (upd (fun _ _ => false) x.toNat y.toNat true) y.toNat x.toNat true) x x = false := by
    simp only [isP, hx4, upd, hxn, hyn]; simp [nxy]
  have e6 := deliver_cut N5' 0 (by simp) p1
  have e7 := deliver_cut N5' 1 (by simp) p2
  obtain ⟨l8, H8, e8, N8, F8, x8, b8⟩ := deliver_ok N5' (by simp) 2 (by simp) p3
  have N8' : NetAt h0 h0.next l8 H8 4 [⟨x, y, s3, bl⟩, ⟨y, x, s4, bl⟩] _ := N8
  have e9 := parted_eq N8' y x
  rw [p2] at e9
  obtain ⟨H10, e10, N10, F10, x10⟩ := set_ok N8' y x false hy4 hx4 (Ne.symm xy)
  have q1 : ∀ u v, isP 4 (upd (upd (upd (upd (fun _ _ => false) x.toNat y.toNat true) y.toNat x.toNat true) y.toNat x.toNat false) x.toNat y.toNat false) u v = false := by
    intro u v
    simp only [isP, upd]
    by_cases h1 : u.toNat = x.toNat ∧ v.toNat = y.toNat
    · simp [h1]
    · by_cases h2 : u.toNat = y.toNat ∧ v.toNat = x.toNat
      · simp [h2]
      · simp [h1, h2]
  have e11 := parted_eq N10 x y
  rw [q1] at e11
  obtain ⟨l12, H12, e12, N12, F12, x12, b12⟩ := deliver_ok N10 (by simp) 0 (by simp) (q1 _ _)
  have N12' : NetAt h0 h0.next l12 H12 4 [⟨y, x, s4, bl⟩] _ := N12
  obtain ⟨l13, H13, e13, N13, F13, x13, b13⟩ := deliver_ok N12' (by simp) 0 (by simp) (q1 _ _)
  have N13' : NetAt h0 h0.next l13 H13 4 [] _ := N13
  have O10 := N10.own ⟨x, y, s3, bl⟩ (by simp)
  have O5 := N5'.own ⟨x, x, s5, bl⟩ (by simp)
  have O12 := N12'.own ⟨y, x, s4, bl⟩ (by simp)
  have T1 := (F13.src (F12.src O10.1 O10.2) (fun c hc => ⟨(O10.2 c hc).1, by rw [b12]; exact (O10.2 c hc).2⟩)).text
  have T2 := (N13.went.src S).text
  have e14 := len_eq N13'
  obtain ⟨H15, e15, _⟩ := known_eq H13
  have xne : ¬ (x = y) := xy
  have bxy : (x == y) = false := by simpa using xy
  refine ⟨H15, ?_⟩
  simp only [List.getElem_cons_zero, List.getElem_cons_succ, Int.cast_ofNat_Int, List.length_nil] at e6 e7 e8 e12 e13 e14
  rw [c4]
  simp [S4, e1, w1, w2, v1, v2, bin_rem, hy0, ← hy, cut_eq, heal_eq, e2, I.cell, e3, e4, e5, e6, e7, e8, e9, e10, e11, e12, e13, O10.1.cell, O5.1.cell, O12.1.cell, T1, T2, e14, e15]

end Go.Proofs.Ytfdhljghamkgjaa.Code
