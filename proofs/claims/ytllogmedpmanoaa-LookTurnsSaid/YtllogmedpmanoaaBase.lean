/- Small facts. -/
import Derived.Test.YtllogmedpmanoaaTape
import Derived.Test.YtllogmedpmanoaaFwZm
namespace Go.Proofs.Ytllogmedpmanoaa.Code
set_option linter.unusedSimpArgs false
set_option linter.unusedVariables false
open Go.Fw

theorem fill_cons (cs : List AVal) (off n : Nat) (v : AVal) (r : List (Nat × Nat × AVal)) : aFill cs ((off, n, v) :: r) = (aCells n v).bind fun vs => bif Nat.ble (off + n) cs.length then aFill (splice cs off vs) r else none := rfl
theorem fill_nil (cs : List AVal) : aFill cs [] = some cs := rfl
theorem cell_slice : aCells 1 .nilSlice = some [.nilSlice] := rfl

theorem cell_ptr (b o : Nat) : aCells 1 (.ptr b o) = some [.ptr b o] := rfl
theorem spl_s (a : AVal) (l vs : List AVal) (n : Nat) : splice (a :: l) (n + 1) vs = a :: splice l n vs := by
  unfold splice
  rw [show n + 1 + vs.length = (n + vs.length) + 1 by omega]
  simp
theorem spl_z (l : List AVal) : splice l 0 [] = l := by simp [splice]
theorem spl_c (a v : AVal) (l vs : List AVal) : splice (a :: l) 0 (v :: vs) = v :: splice l 0 vs := by simp [splice]
theorem nat_beq0 : Nat.beq 0 0 = true := rfl
theorem nat_beq11 : Nat.beq 1 1 = true := rfl
theorem cp_cons (log : List (Nat × Option Log)) (i q : Nat) (r : List (Nat × Nat)) : checkPairs log ((i, q) :: r) = ((match lookLog log i, lookLog log q with | some a, some e => pairOk a e | _, _ => false) && checkPairs log r) := rfl
theorem g_and (b c : Bool) (h : Heap) : guardV (.bool b) true (some (0, [.bool c], h)) (some (0, [skipV], h)) = some (0, [bif b then .bool c else skipV], h) := by cases b <;> rfl
theorem p_and (b c : Bool) : aPick (.bool b) (bif b then .bool c else skipV) (.bool false) = some (.bool (b && c)) := by cases b <;> rfl
theorem g_or (b c : Bool) (h : Heap) : guardV (.bool b) false (some (0, [.bool c], h)) (some (0, [skipV], h)) = some (0, [bif b then skipV else .bool c], h) := by cases b <;> rfl
theorem p_or (b c : Bool) : aPick (.bool b) (.bool true) (bif b then skipV else .bool c) = some (.bool (b || c)) := by cases b <;> rfl

theorem nn_eq : aBin .eql (.iface true []) .nilIface .nilIface = some (.bool true) := rfl
theorem nn_ne : aBin .neq (.iface true []) .nilIface .nilIface = some (.bool false) := rfl
theorem ext_0 (a : AVal) (l : List AVal) : aExtract 0 (.tuple (a :: l)) = some a := rfl
theorem ext_1 (a b : AVal) (l : List AVal) : aExtract 1 (.tuple (a :: b :: l)) = some b := rfl
theorem card_cmp (a b : Cd) : aBin .neq (.cells [2, 2, 1, 1, 1, 1, 1, 1, 0]) (.agg a.cells) (.agg b.cells) = some (.bool (decide (¬ a = b))) := by
  obtain ⟨a1, a2, a3, a4, a5, a6, a7, a8, a9⟩ := a
  obtain ⟨b1, b2, b3, b4, b5, b6, b7, b8, b9⟩ := b
  have h : cellsEq [2, 2, 1, 1, 1, 1, 1, 1, 0] (Cd.cells ⟨a1, a2, a3, a4, a5, a6, a7, a8, a9⟩) (Cd.cells ⟨b1, b2, b3, b4, b5, b6, b7, b8, b9⟩) = some (decide ((⟨a1, a2, a3, a4, a5, a6, a7, a8, a9⟩ : Cd) = ⟨b1, b2, b3, b4, b5, b6, b7, b8, b9⟩)) := by
    simp only [cellsEq_str, cellsEq_int, cellsEq_bool, cellsEq_nil, Option.bind_some, Option.some.injEq]
    rw [Bool.eq_iff_iff]
    simp [and_assoc]
  rw [bin_cells_ne, h]
  simp

theorem same_eq {s u : AVal} {h : Heap} {l : List Cd} (S : SrcC s h l) (U : SrcC u h l) (hl : l.length ≤ 100000) : E tbl 18 [s, u] h = some (.bool true, h) := by
  have key : ∃ h', loop (L18_0 (E tbl)) ((fun j : Nat => [s, u, .int .i64 l.length, .int .i64 j]) 0) h = some (1, [], h') ∧ h' = h := by
    refine loop_up (f := L18_0 (E tbl)) l.length (fun j : Nat => [s, u, .int .i64 l.length, .int .i64 j]) _ (fun G => G = h) ?_ ?_ h rfl
    · intro j G hj hG
      rw [hG]
      have i1 : ((j : Int) < (l.length : Int)) := by omega
      obtain ⟨p, q1, q2⟩ := SrcC.card S j hj
      obtain ⟨p', q3, q4⟩ := SrcC.card U j hj
      have w1 : IntKind.i64.wrap ((j : Int) + 1) = ((j + 1 : Nat) : Int) := wrap_succ _ (by omega)
      refine ⟨h, ?_, rfl⟩
      simp only [L18_0, List.getD_cons_succ, List.getD_cons_zero, bin_lss, Option.bind_some, i1, decide_true, cond_bool, cond_true, q1, q2, q3, q4, from_agg, card_cmp, not_true, decide_false, cond_false, bin_add, w1]
    · intro G hG
      rw [hG]
      exact ⟨h, by simp [L18_0], rfl⟩
  obtain ⟨h', e, rfl⟩ := key
  simp only [Int.cast_ofNat_Int] at e
  have l1 := S.len
  have l2 := U.len
  rw [c18]
  simp [S18, l1, l2, e, beq_dec]
/-- What a card shows. -/
def Cd.shows (c : Cd) : Int := if c.g then 0 else if c.o ≠ 0 then c.o else c.s
theorem shows22 (c : Cd) (h : Heap) : E tbl 22 [.agg c.cells] h = some (.int .i64 c.shows, h) := by
  rw [c22]
  unfold Cd.shows
  simp only [S22, cellsQ_agg, Cd.cells, Option.bind_some, rdL_s, rdL_z, rdL_t, Option.map_some, from_one]
  cases hg : c.g with
  | true => rfl
  | false =>
    by_cases ho : c.o = 0
    · have e : aBin .neq .plain (.int .i64 c.o) (.int .i64 0) = some (.bool false) := by rw [ho]; rfl
      simp only [e, Option.bind_some, cond_bool, cond_false, ho]
      rfl
    · have e : aBin .neq .plain (.int .i64 c.o) (.int .i64 0) = some (.bool true) := by rw [bin_neq]; simp [ho]
      rw [if_neg (by decide), if_pos ho]
      simp only [e, Option.bind_some, cond_bool, cond_false, cond_true]
      rfl
theorem shows12 (c : Cd) (h : Heap) : E tbl 12 [.agg c.cells] h = some (.int .i64 c.shows, h) := by
  rw [c12, show S12 (E tbl) (.agg c.cells) h = S22 (E tbl) (.agg c.cells) h from rfl, ← c22]
  exact shows22 c h

/-- A row with no more room than it has. -/
theorem clip_of {es : Nat} {s : AVal} {h : Heap} {m : Nat} {cells : List AVal} (S : Fw.Src es s h m cells) (R : El.Room s) :
    ∃ s', aSliceSl es s none (some (.int .i64 m)) (some (.int .i64 m)) = some s' ∧ Fw.Src es s' h m cells ∧ El.Room s' ∧ ∀ b, slBlk s' = some b → slBlk s = some b := by
  obtain ⟨hl, ⟨rfl, h0⟩ | ⟨b, off, cap, ex, rfl, a2, a4⟩⟩ := S
  · subst h0
    exact ⟨.nilSlice, rfl, ⟨hl, .inl ⟨rfl, rfl⟩⟩, R, fun b hb => hb⟩
  · have hm : m ≤ cap := R b off m cap es ex rfl
    have h1 : (m : Int) ≤ (cap : Int) := by omega
    refine ⟨.slice b off m m es true, ?_, ⟨hl, .inr ⟨b, off, m, true, rfl, a2, a4⟩⟩, (by intro _ _ _ _ _ _ e; cases e; exact Nat.le_refl _), fun c hc => hc⟩
    simp [aSliceSl, aBound, h1]
end Go.Proofs.Ytllogmedpmanoaa.Code
