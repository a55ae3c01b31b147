/- Known runs; LookNumbers. -/
import Derived.Test.YtllogmedpmanoaaSameAll
namespace Go.Proofs.Ytllogmedpmanoaa.Code
set_option linter.unusedSimpArgs false
set_option linter.unusedVariables false
open Go.Fw

def ka : Cd := ⟨[97], [120], 1, 0, 0, 0, 0, 0, false⟩
def kb : Cd := ⟨[97], [121], 1, 3, 0, 0, 0, 0, false⟩
def kc : Cd := ⟨[97], [122], 1, 0, 0, 0, 0, 0, false⟩
def kL : List Cd := [kc, kb, ka]
theorem known_facts : (findC kL [97]).length = 2 ∧ pickC (findC kL [97]) (-1) = kc ∧ (findC kL [98]).length = 0 ∧ (appsC kL).length = 1 := by decide +kernel
theorem known_count : aBin .eql (.cells [1, 1, 1, 1]) (.agg (cntV kL)) (.agg [.int .i64 0, .int .i64 2, .int .i64 0, .int .i64 1]) = some (.bool true) := by
  have h : cnt kL 0 = 0 ∧ cnt kL 1 = 2 ∧ cnt kL 2 = 0 ∧ cnt kL 3 = 1 := by decide +kernel
  obtain ⟨h0, h1, h2, h3⟩ := h
  unfold cntV
  rw [h0, h1, h2, h3]
  rfl
theorem key_built (x : Tx) : aFill [.str [], .str []] [(0, 1, .str [97]), (1, 1, .str x)] = some [.str [97], .str x] := rfl
theorem card_built (x : Tx) : aFill zCd [(0, 2, .agg [.str [97], .str x]), (2, 1, .int .i64 1)] = some [.str [97], .str x, .int .i64 1, .int .i64 0, .int .i64 0, .int .i64 0, .int .i64 0, .int .i64 0, .bool false] := rfl
theorem card_built3 (x : Tx) : aFill zCd [(0, 2, .agg [.str [97], .str x]), (2, 1, .int .i64 1), (3, 1, .int .i64 3)] = some [.str [97], .str x, .int .i64 1, .int .i64 3, .int .i64 0, .int .i64 0, .int .i64 0, .int .i64 0, .bool false] := rfl
theorem rows_built : aFill (reps zCd 3) [(0, 9, .agg kc.cells), (9, 9, .agg kb.cells), (18, 9, .agg ka.cells)] = some (cdE.rws kL) := by kernel_rfl
theorem card_self : aBin .eql (.cells [2, 2, 1, 1, 1, 1, 1, 1, 0]) (.agg kc.cells) (.agg kc.cells) = some (.bool true) := by kernel_rfl
theorem count_built : aFill [.int .i64 0, .int .i64 0, .int .i64 0, .int .i64 0] [(0, 1, .int .i64 0), (1, 1, .int .i64 2), (2, 1, .int .i64 0), (3, 1, .int .i64 1)] = some [.int .i64 0, .int .i64 2, .int .i64 0, .int .i64 1] := rfl

theorem known_ok (h : Heap) : ∃ H, E tbl 8 [] h = some (.bool true, H) ∧ Went h H := by
  obtain ⟨p1, p2, p3, p4⟩ := known_facts
  have S : SrcC (.slice h.next 0 3 3 9 true) (h.alloc (cdE.rws kL)) kL := (El.Own.lit (E := cdE) h kL (n := 3) rfl true).src
  have W0 := Went.alloc h (cdE.rws kL)
  obtain ⟨h1, e1, W1⟩ := pick_ok S (by decide) [97] (-1)
  obtain ⟨h2, e2, W2⟩ := pick_ok (W1.src S) (by decide) [98] 0
  obtain ⟨o3, h3, e3, S3, W3⟩ := find_ok ((W1.trans W2).src S) (by decide) [97]
  have W13 := (W1.trans W2).trans W3
  obtain ⟨o4, h4, e4, S4, W4⟩ := apps_ok (W13.src S) (by decide)
  have e5 := count_ok ((W13.trans W4).src S) (by decide)
  have ln3 : aLen false o3 = some (.int .i64 2) := by have := S3.len; rw [p1] at this; exact this
  have ln4 : aLen false o4 = some (.int .i64 1) := by have := S4.len; rw [p4] at this; exact this
  rw [p1, p2] at e1
  rw [p3] at e2
  have d2 : decide (0 < 2) = true := rfl
  have d0 : decide (0 < 0) = false := rfl
  rw [d2] at e1
  rw [d0] at e2
  have rb := rows_built
  have cself := card_self
  have q2 : ((2 : Int) == 2) = true := rfl
  have q1 : ((1 : Int) == 1) = true := rfl
  refine ⟨h4, ?_, W0.trans (W13.trans W4)⟩
  have kcc : kc.cells = [.str [97], .str [122], .int .i64 1, .int .i64 0, .int .i64 0, .int .i64 0, .int .i64 0, .int .i64 0, .bool false] := rfl
  have kbc : kb.cells = [.str [97], .str [121], .int .i64 1, .int .i64 3, .int .i64 0, .int .i64 0, .int .i64 0, .int .i64 0, .bool false] := rfl
  have kac : ka.cells = [.str [97], .str [120], .int .i64 1, .int .i64 0, .int .i64 0, .int .i64 0, .int .i64 0, .int .i64 0, .bool false] := rfl
  have kct := known_count
  generalize (pickC (findC kL [98]) 0) = pc at e2
  generalize cdE.rws kL = R at *
  generalize cntV kL = V at *
  rw [kcc] at e1 rb cself
  rw [kbc, kac] at rb
  rw [c8]
  simp only [S8, S8g, key_built, card_built, card_built3, Option.bind_some, aCells_agg, List.length_cons, List.length_nil, Nat.zero_add, Nat.reduceAdd, if_true, ble_dec, Nat.le_refl, decide_true, cond_true, spl_c, spl_z, rdL_t, rdL_z, Option.map_some, from_agg, rb, e1, e2, ext_0, ext_1, Cd.cells, e3, ln3, bin_eql, q2, guard_bool, BEq.rfl, List.getD_cons_zero, pick_bool, cself, un_not, Bool.not_false, e4, ln4, q1, e5, count_built, kct, ans_one]
end Go.Proofs.Ytllogmedpmanoaa.Code
