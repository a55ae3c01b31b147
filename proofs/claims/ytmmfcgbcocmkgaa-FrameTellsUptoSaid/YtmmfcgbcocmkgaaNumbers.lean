/- Chapter 3: FrameNumbers. -/
import Derived.Test.YtmmfcgbcocmkgaaPieces
namespace Go.Proofs.Ytmmfcgbcocmkgaa.Code
set_option linter.unusedSimpArgs false
set_option linter.unusedVariables false
open Go.Fw

theorem conv_lit (h : Heap) (l : List UInt8) (n : Nat) (hn : n = l.length) (h0 : 0 < n) : aConv .slBytes (.slice h.next 0 n n 1 true) (h.alloc (byteCells l)) = some (.slice h.next 0 n n 1 true, h.alloc (byteCells l)) := by
  have hb : (h.alloc (byteCells l)).blk h.next = some ⟨byteCells l, true⟩ := alloc_same _ _
  have h1 : Nat.beq n 0 = false := by rw [beq_dec]; simp; omega
  simp only [aConv, hb, h1, cond_false]

/-- Bytes that were laid out, cut anywhere, with bytes turned. -/
theorem cut_round {h G : Heap} {o : AVal} {B : List UInt8} (F : Fresh h o G B) (hB : B.length ≤ 1000) (i : Nat) (hi : i ≤ B.length) :
    ∃ G', L3_0 (E tbl) [o, .int .i64 i] G = some (0, [o, .int .i64 ((i + 1 : Nat) : Int)], G') ∧ Went G G' := by
  have lo := F.own.src.len
  have i1 : (i : Int) ≤ (B.length : Int) := by omega
  have w1 : IntKind.i64.wrap ((i : Int) + 1) = ((i + 1 : Nat) : Int) := wrap_succ _ (by omega)
  have W1 : Went G (G.alloc (([(i : Int)] : List Int).map (.int .i64))) := Went.alloc _ _
  obtain ⟨G1, e1, V1⟩ := play_ok (W1.src F.bs) F.own.room (Ints.lit .i64 G [(i : Int)] 1 rfl true) (fun c hc => by cases hc; simp) (by omega) (by simp)
  have W2 := W1.trans V1
  have W3 : Went G (G1.alloc (([(i : Int), 1, 1] : List Int).map (.int .i64))) := W2.trans (Went.alloc _ _)
  obtain ⟨G2, e2, V2⟩ := play_ok (W3.src F.bs) F.own.room (Ints.lit .i64 G1 [(i : Int), 1, 1] 3 rfl true) (fun c hc => by cases hc; simp) (by omega) (by simp)
  have W4 := W3.trans V2
  obtain ⟨s5, e5, S5, R5, _⟩ := Bs.pre (W4.src F.bs) F.own.room i hi
  obtain ⟨G3, e6, V3⟩ := ones_ok S5 R5 (by rw [List.length_take]; omega)
  have W5 := W4.trans V3
  obtain ⟨s7, e7, S7', R7, _⟩ := Bs.post (W5.src F.bs) F.own.room i hi
  obtain ⟨G4, e8, V4⟩ := ones_ok S7' R7 (by rw [List.length_drop]; omega)
  have W6 := W5.trans V4
  simp only [List.map_cons, List.map_nil] at e1 e2
  by_cases h1 : i < B.length
  · have i2 : (i : Int) < (B.length : Int) := by omega
    obtain ⟨x, G5, e9, FX⟩ := Bs.again (W6.src F.bs) (by omega)
    obtain ⟨p, G6, q1, q2, q3, FX2, n6, f6⟩ := FX.set i h1 (B[i] ^^^ 1)
    have x1 := Go.Fw.u8_xor B[i] 1
    have x1' : aBin .xor .plain (.int .u8 (B[i].toNat : Int)) (.int .u8 1) = some (.int .u8 ((B[i] ^^^ 1).toNat : Int)) := x1
    -- the other one
    have Wa : Went G6 (G6.alloc []) := Went.alloc _ _
    have FL := Fresh.lit (G6.alloc []) [97, 108, 111, 110, 101] (n := 5) rfl true
    have cv := conv_lit (G6.alloc []) [97, 108, 111, 110, 101] 5 rfl (by omega)
    obtain ⟨f, G7, e10, F7⟩ := frame_eq FL.bs (by simp)
    have F0 : Fresh G6 (.slice G6.next 0 0 0 1 true) G7 [] := by
      have h0 := Fresh.lit G6 [] (n := 0) rfl true
      exact ⟨(FL.went.trans F7.went).own h0.own, h0.went.trans (FL.went.trans F7.went)⟩
    obtain ⟨y, G8, e11, F8⟩ := F0.app F7.bs (by rw [frameB_len]; simp)
    rw [List.nil_append] at F8
    have hy : (frameB [97, 108, 111, 110, 101]).length = 13 := by rw [frameB_len]; rfl
    have ly := F8.own.src.len
    rw [hy] at ly
    have hm : i % 13 < 13 := Nat.mod_lt _ (by omega)
    have hr : (i : Int).tmod 13 = ((i % 13 : Nat) : Int) := by rw [Int.tmod_eq_emod_of_nonneg (by omega)]; omega
    obtain ⟨p2, G9, r1, r2, r3, F9, n9, f9⟩ := F8.set (i % 13) (by omega) ((frameB [97, 108, 111, 110, 101])[i % 13]'(by omega) ^^^ 129)
    have y1 := Go.Fw.u8_xor ((frameB [97, 108, 111, 110, 101])[i % 13]'(by omega)) 129
    have y1' : aBin .xor .plain (.int .u8 (((frameB [97, 108, 111, 110, 101])[i % 13]'(by omega)).toNat : Int)) (.int .u8 129) = some (.int .u8 (((frameB [97, 108, 111, 110, 101])[i % 13]'(by omega) ^^^ 129).toNat : Int)) := y1
    have Wx : Went G6 G9 := F9.went
    have W10 : Went G9 (G9.alloc (([7, 9] : List Int).map (.int .i64))) := Went.alloc _ _
    have BX : Bs x (G9.alloc (([7, 9] : List Int).map (.int .i64))) (B.set i (B[i] ^^^ 1)) := (Wx.trans W10).src FX2.bs
    obtain ⟨G11, e12, V12⟩ := play_ok BX FX2.own.room (Ints.lit .i64 G9 [7, 9] 2 rfl true) (fun c hc => by cases hc; simp) (by rw [List.length_set]; omega) (by simp)
    obtain ⟨G13, e13, V13⟩ := ones_ok ((W10.trans V12).src F9.bs) F9.own.room (by rw [List.length_set, hy]; omega)
    have WG : Went G4 G13 := by
      refine ⟨?_, fun c hc => ?_⟩
      · have := FX2.went.next; have := Wx.next; have := W10.next; have := V12.next; have := V13.next; omega
      · rw [V13.old c (by have := FX2.went.next; have := Wx.next; have := W10.next; have := V12.next; omega), V12.old c (by have := FX2.went.next; have := Wx.next; have := W10.next; omega), W10.old c (by have := FX2.went.next; have := Wx.next; omega), Wx.old c (by have := FX2.went.next; omega), FX2.went.old c hc]
    refine ⟨G13, ?_, W6.trans WG⟩
    have hcv : ∀ y : UInt8, aCells 1 (.int .u8 (y.toNat : Int)) = some [.int .u8 (y.toNat : Int)] := fun _ => rfl
    have f0 : aFill (reps [AVal.int .u8 0] 0) [] = some [] := rfl
    have f5 : aFill (reps [.int .u8 0] 5) [(0, 1, (.int .u8 97)), (1, 1, (.int .u8 108)), (2, 1, (.int .u8 111)), (3, 1, (.int .u8 110)), (4, 1, (.int .u8 101))] = some (byteCells [97, 108, 111, 110, 101]) := rfl
    have g1 : ∀ z : AVal, aFill (reps [.int .i64 0] 1) [(0, 1, .int .i64 i)] = some [.int .i64 i] := fun _ => rfl
    have g3 : aFill (reps [.int .i64 0] 3) [(0, 1, .int .i64 i), (1, 1, (.int .i64 1)), (2, 1, (.int .i64 1))] = some [.int .i64 i, .int .i64 1, .int .i64 1] := rfl
    have g2 : aFill (reps [.int .i64 0] 2) [(0, 1, (.int .i64 7)), (1, 1, (.int .i64 9))] = some [.int .i64 7, .int .i64 9] := rfl
    simp only [List.map_cons, List.map_nil] at e12
    simp only [Int.cast_ofNat_Int] at ly
    simp only [L3_0, List.getD_cons_zero, List.getD_cons_succ, lo, bin_leq, i1, decide_true, Option.bind_some, cond_bool, cond_true, g1 .undef, e1, un_not, Bool.not_true, guard_bool, beq_self_eq_true, g3, e2, pick_bool, cond_false, e5, e6, e7, e8, bin_lss, i2, f0, e9, q1, q2, from_one, x1', hcv, q3, f5, cv, e10, e11, ly, bin_rem, show ¬ (13 : Int) = 0 by omega, if_false, hr, r1, r2, y1', r3, g2, e12, e13]
    simp [w1, beq_dec]
  · have i2 : ¬ (i : Int) < (B.length : Int) := by omega
    refine ⟨G4, ?_, W6⟩
    have g1 : aFill (reps [.int .i64 0] 1) [(0, 1, .int .i64 i)] = some [.int .i64 i] := rfl
    have g3 : aFill (reps [.int .i64 0] 3) [(0, 1, .int .i64 i), (1, 1, (.int .i64 1)), (2, 1, (.int .i64 1))] = some [.int .i64 i, .int .i64 1, .int .i64 1] := rfl
    simp only [L3_0, List.getD_cons_zero, List.getD_cons_succ, lo, bin_leq, i1, decide_true, Option.bind_some, cond_bool, cond_true, g1, e1, un_not, Bool.not_true, guard_bool, beq_self_eq_true, g3, e2, pick_bool, cond_false, e5, e6, e7, e8, bin_lss, i2, decide_false]
    simp [w1, beq_dec]
end Go.Proofs.Ytmmfcgbcocmkgaa.Code

namespace Go.Proofs.Ytmmfcgbcocmkgaa.Code
set_option linter.unusedSimpArgs false
set_option linter.unusedVariables false
open Go.Fw

def zeros (n : Nat) : List UInt8 := List.replicate n 0
@[simp] theorem zeros_len (n : Nat) : (zeros n).length = n := by simp [zeros]
theorem reps_zeros : ∀ n, reps [AVal.int .u8 0] n = byteCells (zeros n)
  | 0 => rfl
  | n + 1 => by
    rw [reps_s, reps_zeros n]
    rfl

theorem size_round {h : Heap} {s : AVal} {l : List Int} (I : Ints .i64 s h l) (i : Nat) (hi : i < l.length) (n : Nat) (hn : l.getD i 0 = (n : Int)) (hn2 : n ≤ 8193) (hl : l.length ≤ 100) :
    ∃ G', L3_1 (E tbl) [s, .int .i64 l.length, .int .i64 i] h = some (0, [s, .int .i64 l.length, .int .i64 ((i + 1 : Nat) : Int)], G') ∧ Went h G' := by
  have i1 : (i : Int) < (l.length : Int) := by omega
  have w1 : IntKind.i64.wrap ((i : Int) + 1) = ((i + 1 : Nat) : Int) := wrap_succ _ (by omega)
  obtain ⟨a, a1, a2⟩ := I.at i hi
  rw [hn] at a2
  have mk : aMkSlice 1 1 [.int .u8 0] (.int .i64 n) (.int .i64 n) h = some (.slice h.next 0 n n 1 true, h.alloc (byteCells (zeros n))) := by
    rw [← reps_zeros]
    simp only [aMkSlice]
    rw [if_pos (by omega)]
    simp
  have FX := Fresh.lit h (zeros n) (n := n) (by simp) true
  obtain ⟨x, hx⟩ : ∃ x : AVal, x = .slice h.next 0 n n 1 true := ⟨_, rfl⟩
  rw [← hx] at mk FX
  generalize h.alloc (byteCells (zeros n)) = H0 at mk FX
  have g2 : aFill (reps [.int .i64 0] 2) [(0, 1, (.int .i64 4)), (1, 1, (.int .i64 1))] = some [.int .i64 4, .int .i64 1] := rfl
  -- behind the frame that was made
  have tail : ∀ (H1 H2 : Heap), Went H0 H1 → Went (H1.res 1) H2 → ∃ H4 g2' H5 g3 H6, E tbl 13 [x] H2 = some (.int .u32 (sumB (zeros n)), H2) ∧ E tbl 14 [x] H2 = some (.int .u32 (sumB (zeros n)), H2) ∧ E tbl 11 [x] H2 = some (g2', H4) ∧ E tbl 10 [g2'] H4 = some (.bool true, H5) ∧ E tbl 11 [x] H5 = some (g3, H6) ∧
      ∃ H7, E tbl 9 [g3, .slice (H1.next + 0) 0 2 2 1 true] (H6.setBlk (H1.next + 0) (some ⟨[.int .i64 4, .int .i64 1], true⟩)) = some (.bool true, H7) ∧ Went H1 H7 := by
    intro H1 H2 V1 V2
    have VR : Went H1 (H1.res 1) := ⟨by show _ ≤ H1.next + 1; omega, fun _ _ => rfl⟩
    have hR : (H1.res 1).next = H1.next + 1 := rfl
    have V02 := (V1.trans VR).trans V2
    have B2 : Bs x H2 (zeros n) := V02.src FX.bs
    obtain ⟨g, H4, e4, F4⟩ := frame_eq B2 (by simp; omega)
    obtain ⟨H5, e5, V5⟩ := ones_ok F4.bs F4.own.room (by rw [frameB_len, zeros_len]; omega)
    obtain ⟨g3, H6, e6, F6⟩ := frame_eq ((F4.went.trans V5).src B2) (by simp; omega)
    have h2 := V2.next
    have h4 := F4.went.next
    have h5 := V5.next
    have h6 := F6.went.next
    have Bg : Bs g3 (H6.setBlk (H1.next + 0) (some ⟨[.int .i64 4, .int .i64 1], true⟩)) (frameB (zeros n)) := Fw.Src.kept F6.bs (Nat.le_refl _) fun c hc => setBlk_ne _ _ (by have := (F6.own.blk c hc).1; omega)
    have Ig : Ints .i64 (.slice (H1.next + 0) 0 2 2 1 true) (H6.setBlk (H1.next + 0) (some ⟨[.int .i64 4, .int .i64 1], true⟩)) [4, 1] := by
      refine .inr ⟨H1.next + 0, 0, 2, true, rfl, ?_⟩
      rw [rd_of (setBlk_same _ _ _) 0 _ (by simp)]
      rfl
    obtain ⟨H7, e7, V7⟩ := play_ok Bg F6.own.room Ig (fun c hc => by cases hc; show _ < H6.next; omega) (by rw [frameB_len, zeros_len]; omega) (by simp)
    refine ⟨H4, g, H5, g3, H6, sum_eq B2 (by simp; omega), rsum_eq B2 (by simp; omega), e4, e5, e6, H7, e7, ?_⟩
    refine ⟨?_, fun c hc => ?_⟩
    · have h7 := V7.next
      have h8 : (H6.setBlk (H1.next + 0) (some ⟨[.int .i64 4, .int .i64 1], true⟩)).next = H6.next := rfl
      omega
    · rw [V7.old c (by show _ < H6.next; omega), setBlk_ne _ _ (by omega), F6.went.old c (by omega), V5.old c (by omega), F4.went.old c (by omega), V2.old c (by omega)]
      rfl
  by_cases h8 : n ≤ 8192
  · have i8 : (n : Int) ≤ 8192 := by omega
    obtain ⟨f, H1, e1, F1⟩ := bytes_eq FX.bs (by simpa using h8)
    have VR : Went H1 (H1.res 1) := ⟨by show _ ≤ H1.next + 1; omega, fun _ _ => rfl⟩
    have t1 := Fw.Src.text (VR.src F1.bs)
    obtain ⟨g, H2, e2, F2⟩ := frame_eq (VR.src (F1.went.src FX.bs)) (by simp; omega)
    have t2 := Fw.Src.text F2.bs
    have cp : checkPairs [(12, some (.ef [] (H1.res 1) [] H2)), (10, logBs f)] [(10, 12)] = true := by
      obtain ⟨hcl, ⟨_, hz⟩ | ⟨b, off, cap, ex, rfl, hb, hrd⟩⟩ := (VR.src F1.bs : Bs f (H1.res 1) (frameB (zeros n)))
      · rw [frameB_len] at hz; omega
      · rw [Nat.mul_one] at hrd
        have h3 := rd_blk (F2.went.old b hb) off (frameB (zeros n)).length
        generalize (frameB (zeros n)).length = z at hrd h3
        simp [checkPairs_cons, logBs, h3, hrd]
    obtain ⟨H4, g2', H5, g3, H6, y1, y2, y3, y4, y5, H7, y6, V7⟩ := tail H1 H2 F1.went F2.went
    refine ⟨H7, ?_, FX.went.trans (F1.went.trans V7)⟩
    simp only [L3_1, List.getD_cons_zero, List.getD_cons_succ, bin_lss, i1, decide_true, Option.bind_some, cond_bool, cond_true, a1, a2, from_one, mk, e1, ext_0, ext_1, bin_eql, beq_self_eq_true, bin_leq, i8]
    simp [t1, e2, t2, cp, y1, y2, y3, y4, y5, g2, w1]
    rw [Nat.add_zero] at y6
    rw [y6]
    simp
  · have i8 : ¬ (n : Int) ≤ 8192 := by omega
    have e1 := bytes_no FX.bs (by simp; omega)
    obtain ⟨H4, g2', H5, g3, H6, y1, y2, y3, y4, y5, H7, y6, V7⟩ := tail H0 (H0.res 1) (Went.refl _) (Went.refl _)
    refine ⟨H7, ?_, FX.went.trans V7⟩
    simp only [L3_1, List.getD_cons_zero, List.getD_cons_succ, bin_lss, i1, decide_true, Option.bind_some, cond_bool, cond_true, a1, a2, from_one, mk, e1, ext_0, ext_1, bin_eql, bin_leq, i8]
    simp [y1, y2, y3, y4, y5, g2, w1]
    rw [Nat.add_zero] at y6
    rw [y6]
    simp

theorem frameNumbers_true (h0 : Heap) : ∃ h', E tbl 3 [] h0 = some (.bool true, h') := by
  have F1 := Fresh.lit h0 [102, 105, 114, 115, 116] (n := 5) rfl true
  have c1 := conv_lit h0 [102, 105, 114, 115, 116] 5 rfl (by omega)
  obtain ⟨H1, hH1⟩ : ∃ H1, H1 = h0.alloc (byteCells [102, 105, 114, 115, 116]) := ⟨_, rfl⟩
  rw [← hH1] at F1 c1
  have F2 := Fresh.lit H1 [116, 104, 101, 32, 116, 104, 105, 114, 100] (n := 9) rfl true
  have c2 := conv_lit H1 [116, 104, 101, 32, 116, 104, 105, 114, 100] 9 rfl (by omega)
  obtain ⟨H2, hH2⟩ : ∃ H2, H2 = H1.alloc (byteCells [116, 104, 101, 32, 116, 104, 105, 114, 100]) := ⟨_, rfl⟩
  rw [← hH2] at F2 c2
  have W3 : Went H2 (H2.alloc [.slice h0.next 0 5 5 1 true, .nilSlice, .slice H1.next 0 9 9 1 true]) := Went.alloc _ _
  have B : BRows (.slice H2.next 0 3 3 1 true) (H2.alloc [.slice h0.next 0 5 5 1 true, .nilSlice, .slice H1.next 0 9 9 1 true]) [(.slice h0.next 0 5 5 1 true, [102, 105, 114, 115, 116]), (.nilSlice, []), (.slice H1.next 0 9 9 1 true, [116, 104, 101, 32, 116, 104, 105, 114, 100])] := by
    refine ⟨?_, fun x hx => ?_⟩
    · have := (El.Own.lit (E := slE) H2 [.slice h0.next 0 5 5 1 true, .nilSlice, .slice H1.next 0 9 9 1 true] (n := 3) rfl true).src
      exact this
    · simp only [List.mem_cons, List.not_mem_nil, or_false] at hx
      rcases hx with rfl | rfl | rfl
      · exact ⟨(F2.went.trans W3).src F1.bs, F1.own.room⟩
      · exact ⟨Bs.nil _, Room.nil⟩
      · exact ⟨W3.src F2.bs, F2.own.room⟩
  obtain ⟨o, H4, e4, F4⟩ := row_ok B (by simp)
  have hlen := rowB_len ([(AVal.slice h0.next 0 5 5 1 true, ([102, 105, 114, 115, 116] : List UInt8)), (.nilSlice, []), (.slice H1.next 0 9 9 1 true, [116, 104, 101, 32, 116, 104, 105, 114, 100])].map (·.2))
  generalize rowB ([(AVal.slice h0.next 0 5 5 1 true, ([102, 105, 114, 115, 116] : List UInt8)), (.nilSlice, []), (.slice H1.next 0 9 9 1 true, [116, 104, 101, 32, 116, 104, 105, 114, 100])].map (·.2)) = BB at F4 hlen
  have key := loop_ok (f := L3_0 (E tbl)) (fun m xs G => ∃ i : Nat, m + i = BB.length + 1 ∧ Went H4 G ∧ xs = [o, .int .i64 i]) (fun r => ∃ G, r = (1, [], G)) ?_ (BB.length + 1) _ H4 ⟨0, rfl, Went.refl _, rfl⟩
  · obtain ⟨r, e5, G, rfl⟩ := key
    have I4 := Ints.lit .i64 G [0, 1, 8192, 8193] 4 rfl true
    have key2 := loop_ok (f := L3_1 (E tbl)) (fun m xs K => ∃ i : Nat, m + i = 4 ∧ Went (G.alloc (([0, 1, 8192, 8193] : List Int).map (.int .i64))) K ∧ xs = [.slice G.next 0 4 4 1 true, .int .i64 4, .int .i64 i]) (fun r => ∃ K, r = (1, [], K)) ?_ 4 _ _ ⟨0, rfl, Went.refl _, rfl⟩
    · obtain ⟨r, e6, K, rfl⟩ := key2
      obtain ⟨H, e7, _⟩ := known_ok K
      refine ⟨H, ?_⟩
      have f5 : aFill (reps [.int .u8 0] 5) [(0, 1, (.int .u8 102)), (1, 1, (.int .u8 105)), (2, 1, (.int .u8 114)), (3, 1, (.int .u8 115)), (4, 1, (.int .u8 116))] = some (byteCells [102, 105, 114, 115, 116]) := rfl
      have f9 : aFill (reps [.int .u8 0] 9) [(0, 1, (.int .u8 116)), (1, 1, (.int .u8 104)), (2, 1, (.int .u8 101)), (3, 1, (.int .u8 32)), (4, 1, (.int .u8 116)), (5, 1, (.int .u8 104)), (6, 1, (.int .u8 105)), (7, 1, (.int .u8 114)), (8, 1, (.int .u8 100))] = some (byteCells [116, 104, 101, 32, 116, 104, 105, 114, 100]) := rfl
      have f4 : aFill (reps [.int .i64 0] 4) [(0, 1, (.int .i64 0)), (1, 1, (.int .i64 1)), (2, 1, (.int .i64 8192)), (3, 1, (.int .i64 8193))] = some (([0, 1, 8192, 8193] : List Int).map (.int .i64)) := rfl
      have f3 : aFill (reps [.nilSlice] 3) [(0, 1, .slice h0.next 0 5 5 1 true), (1, 1, .nilSlice), (2, 1, .slice H1.next 0 9 9 1 true)] = some [.slice h0.next 0 5 5 1 true, .nilSlice, .slice H1.next 0 9 9 1 true] := rfl
      have l4 : aLen false (.slice G.next 0 4 4 1 true) = some (.int .i64 4) := rfl
      simp only [Int.cast_ofNat_Int] at e5 e6
      rw [c3]
      simp only [S3, f5, Option.bind_some, ← hH1, c1, f9, ← hH2, c2, f3, e4, e5, beq_dec, decide_true, cond_true, f4, l4, e6, e7, ans_one]
    · rintro m xs K ⟨i, m1, W, rfl⟩
      by_cases h1 : i < 4
      · left
        have IK : Ints .i64 (.slice G.next 0 4 4 1 true) K [0, 1, 8192, 8193] := I4.mono fun c hc => by cases hc; exact W.old _ (by simp)
        obtain ⟨n, hn, hn2⟩ : ∃ n : Nat, ([0, 1, 8192, 8193] : List Int).getD i 0 = (n : Int) ∧ n ≤ 8193 := by
          match i, h1 with
          | 0, _ => exact ⟨0, rfl, by omega⟩
          | 1, _ => exact ⟨1, rfl, by omega⟩
          | 2, _ => exact ⟨8192, rfl, by omega⟩
          | 3, _ => exact ⟨8193, rfl, by omega⟩
        obtain ⟨K', e, W'⟩ := size_round IK i h1 n hn hn2 (by simp)
        exact ⟨_, K', e, m - 1, by omega, i + 1, by omega, W.trans W', rfl⟩
      · right
        obtain rfl : i = 4 := by omega
        exact ⟨0, _, K, by simp [L3_1], K, rfl⟩
  · rintro m xs G ⟨i, m1, W, rfl⟩
    have FG : Fresh (H2.alloc [.slice h0.next 0 5 5 1 true, .nilSlice, .slice H1.next 0 9 9 1 true]) o G BB := ⟨W.own F4.own, F4.went.trans W⟩
    by_cases h1 : i ≤ BB.length
    · left
      obtain ⟨G', e, W'⟩ := cut_round FG (by omega) i h1
      exact ⟨_, G', e, m - 1, by omega, i + 1, by omega, W.trans W', rfl⟩
    · right
      have lo := FG.own.src.len
      have i1 : ¬ (i : Int) ≤ (BB.length : Int) := by omega
      exact ⟨0, _, G, by simp [L3_0, lo, i1], G, rfl⟩
end Go.Proofs.Ytmmfcgbcocmkgaa.Code
