/- Chapter 1: FaultNumbers. -/
import Derived.Test.YtkbchgbpglamcaaDoorNumbers
namespace Go.Proofs.YtkbchgbpglamcaaDoor.Code
set_option linter.unusedSimpArgs false
set_option linter.unusedVariables false
open Go.Fw

theorem faultNumbersL {h : Heap} (R : Rdy h) : ∃ h', E tbl 6 [] h = some (.bool true, h') := by
  obtain ⟨H0, e0, W0⟩ := grid_ok R
  have Y0 := R.went W0
  have e1 := errnew_ok [111, 116, 104, 101, 114] H0
  have W1 := Went.alloc H0 [.str [111, 116, 104, 101, 114]]
  have Y1 := Y0.went W1
  have R1 : Rep (H0.alloc [.str [111, 116, 104, 101, 114]]) (H0.alloc [.str [111, 116, 104, 101, 114]]).next (.other H0.next) (.iface 47 (.ptr H0.next 0)) := ⟨rfl, by simp⟩
  generalize H0.alloc [.str [111, 116, 104, 101, 114]] = H1 at *
  obtain ⟨w1, H2, e2, R2, W2⟩ := wrap_ok [121] R1 (Nat.le_refl _)
  have R2 : Rep H2 H2.next (.fault [121] (.other H0.next)) w1 := R2
  obtain ⟨w2, H3, e3, R3, W3⟩ := wrap_ok [120] R2 (Nat.le_refl _)
  have R3 : Rep H3 H3.next (.fault [120] (.fault [121] (.other H0.next))) w2 := R3
  have Y3 := (Y1.went W2).went W3
  have W4 := Went.alloc H3 [.str [97, 108, 111, 110, 101], .nilIface]
  have Y4 := Y3.went W4
  have hb : (H3.alloc [.str [97, 108, 111, 110, 101], .nilIface]).blk H3.next = some ⟨[.str [97, 108, 111, 110, 101], .nilIface], true⟩ := alloc_same _ _
  have hn4 : (H3.alloc [.str [97, 108, 111, 110, 101], .nilIface]).next = H3.next + 1 := rfl
  have Rn : Rep (H3.alloc [.str [97, 108, 111, 110, 101], .nilIface]) (H3.alloc [.str [97, 108, 111, 110, 101], .nilIface]).next (.fault [97, 108, 111, 110, 101] .nil) (.iface 41 (.ptr H3.next 0)) := ⟨H3.next, .nilIface, true, rfl, by omega, hb, rfl⟩
  have R14 := ((R1.went (Nat.le_refl _) W2).went W2.next W3).went (Nat.le_trans W2.next W3.next) W4
  generalize hH4 : H3.alloc [.str [97, 108, 111, 110, 101], .nilIface] = H4 at *
  obtain ⟨v, H5, e5, R5, W5⟩ := new_ok [105, 110] 26 H4
  rw [if_neg (by omega)] at R5
  obtain ⟨t5, x5, rfl⟩ := R5.iface (by simp)
  have W6 := Went.alloc H5 [.iface 47 (.ptr H0.next 0), .iface t5 x5]
  have Sj : Src 1 (.slice H5.next 0 2 2 1 true) (H5.alloc [.iface 47 (.ptr H0.next 0), .iface t5 x5]) 2 [.iface 47 (.ptr H0.next 0), .iface t5 x5] := (Own.lit 1 H5 [.iface 47 (.ptr H0.next 0), .iface t5 x5] 2 rfl true).src
  have ra := ((R14.went (Nat.le_trans (Nat.le_trans W2.next W3.next) W4.next) W5).mono (M := H5.next) (Nat.le_trans (Nat.le_trans (Nat.le_trans W2.next W3.next) W4.next) W5.next) (Nat.le_refl _) fun _ _ => rfl).went (Nat.le_refl _) W6
  have rb := R5.went (Nat.le_refl _) W6
  have hn6 := W6.next
  generalize hH6 : H5.alloc [.iface 47 (.ptr H0.next 0), .iface t5 x5] = H6 at *
  obtain ⟨vj, H7, e7, R7, W7⟩ := join_ok Sj hn6 ra rb
  obtain ⟨vb, H8, e8, R8, W8⟩ := wrap_ok [122] R7 (Nat.le_refl _)
  have R8 : Rep H8 H8.next (.fault [122] (.join (.other H0.next) (.fault [105, 110] (.code 26)))) vb := R8
  have W48 := W5.trans (W6.trans (W7.trans W8))
  have Y8 := Y4.went W48
  have W38 := W4.trans W48
  have Rw8 := R3.went (Nat.le_refl _) W38
  have Rn8 := Rn.went (Nat.le_refl _) W48
  -- Code, Path, Is of the first
  obtain ⟨H9, e9, W9⟩ := code_okW Y8 W38.next Rw8
  have Y9 := Y8.went W9
  have Rw9 := Rw8.went W38.next W9
  have n9 := Nat.le_trans W38.next W9.next
  obtain ⟨o1, H10, e10, O10, W10⟩ := path_okW Y9 n9 Rw9 (by simp [pathOf])
  have W11 := Went.alloc H10 [.str [120], .str [121]]
  have e11 := ssame_ok (W11.src O10.src) (lit_T H10 [[120], [121]] (n := 2) rfl) (by simp [pathOf])
  have W811 := W9.trans (W10.trans W11)
  have Y11 := Y8.went W811
  have Rw11 := Rw8.went W38.next W811
  have i1 := Is_ok (m := .other H0.next) (w := .iface 47 (.ptr H0.next 0)) rfl Rw11 (fun c hc => by cases hc; rfl)
  have n48 := W48.next
  have Rn11 := Rn8.went n48 W811
  generalize hH11 : H10.alloc [.str [120], .str [121]] = H11 at *
  have hb11 : H11.blk H3.next = some ⟨[.str [97, 108, 111, 110, 101], .nilIface], true⟩ := by
    rw [W811.old _ (by omega), W48.old _ (by omega)]; exact hb
  have t1 : aBin .add .plain (.str [97, 108, 111, 110, 101]) (.str [58, 32]) = some (.str [97, 108, 111, 110, 101, 58, 32]) := str_add _ _ (by simp)
  have e12 : E tbl 20 [.ptr H3.next 0] H11 = some (.str [97, 108, 111, 110, 101, 58, 32], H11) := by
    rw [c20]
    simp [S20, rd_bind, hb11, t1, beq_dec]
  have e13 := unwrap_ok hb11
  have n11 := Nat.le_trans n48 W811.next
  obtain ⟨H12, e14, W12⟩ := code_okW Y11 n11 Rn11
  have Y12 := Y11.went W12
  have Rn12 := Rn11.went n11 W12
  obtain ⟨o2, H13, e15, O13, W13⟩ := path_okW Y12 (Nat.le_trans n11 W12.next) Rn12 (by simp [pathOf])
  have W14 := Went.alloc H13 [.str [97, 108, 111, 110, 101]]
  have e16 := ssame_ok (W14.src O13.src) (lit_T H13 [[97, 108, 111, 110, 101]] (n := 1) rfl) (by simp [pathOf])
  have W1114 := W12.trans (W13.trans W14)
  have Y14 := Y11.went W1114
  have W814 := W811.trans W1114
  have Rb14 := R8.went (Nat.le_refl _) W814
  generalize hH14 : H13.alloc [.str [97, 108, 111, 110, 101]] = H14 at *
  obtain ⟨H15, e17, W15⟩ := code_okW Y14 W814.next Rb14
  have Y15 := Y14.went W15
  have Rb15 := Rb14.went W814.next W15
  obtain ⟨o3, H16, e18, O16, W16⟩ := path_okW Y15 (Nat.le_trans W814.next W15.next) Rb15 (by simp [pathOf, hasFault])
  have W17 := Went.alloc H16 [.str [122], .str [105, 110]]
  have e19 := ssame_ok (W17.src O16.src) (lit_T H16 [[122], [105, 110]] (n := 2) rfl) (by simp [pathOf, hasFault])
  have Y17 := Y15.went (W16.trans W17)
  generalize hH17 : H16.alloc [.str [122], .str [105, 110]] = H17 at *
  obtain ⟨H18, e20, W18⟩ := code_okW Y17 (Nat.zero_le _) (e := .code 24) (v := .iface 28 (.int .i64 24)) rfl
  obtain ⟨H19, e21, W19⟩ := known_ok (Y17.went W18)
  simp [codeI, codeOf] at e9 e14 e17 e20
  simp [pathOf] at e11 e16
  simp [pathOf, hasFault] at e19
  simp [isIn] at i1
  try rw [hH11] at e11
  try rw [hH14] at e16
  try rw [hH17] at e19
  obtain ⟨t3, x3, rfl⟩ := R3.iface (by simp)
  refine ⟨H19, ?_⟩
  rw [c6]
  simp [S6, e0, e1, e2, e3, hH4, e5, hH6, e7, e8, e9, e10, hH11, e11, i1, e12, e13, e14, e15, hH14, e16, e17, e18, hH17, e19, e20, e21, beq_dec]

end Go.Proofs.YtkbchgbpglamcaaDoor.Code
