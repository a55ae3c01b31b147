/- LookTurns: one round, and all. -/
import Derived.Test.YtllogmedpmanoaaMapG
namespace Go.Fw
set_option linter.unusedSimpArgs false
set_option linter.unusedVariables false
open Go.Proofs.Ytllogmedpmanoaa.Code
open Go.ChangeMaps (setBlock)

theorem MapAt.kept {w w' : World} {r : Nat} {L : List (Tx2 × Int)} (M : MapAt w r L) (K : KeptO w w') : MapAt w' r L := K r _ M (not_cells_map _ _)
theorem turn_nat (t n : Nat) (h0 : 0 < n) (h1 : n ≤ 1000) : turnOf (t : Int) n = ((t % n : Nat) : Int) := by
  have h2 := Nat.mod_lt t h0
  unfold turnOf
  rw [← Int.ofNat_tmod, IntWalk.i64_in _ (by omega)]
  have : ((t % n : Nat) : Int) + (n : Int) = ((t % n + n : Nat) : Int) := by omega
  rw [this, ← Int.ofNat_tmod, Nat.add_mod_right, Nat.mod_mod]
def appA : Tx := [97, 112, 112]
def keyN (F : List Cd) (j : Nat) : Tx2 := (F.getD j noCd).key
theorem keyN_inj {F : List Cd} (h : (F.map Cd.key).Nodup) : ∀ i j, i < F.length → j < F.length → keyN F i = keyN F j → i = j := by
  intro i j hi hj e
  unfold keyN at e
  rw [List.getD_eq_getElem?_getD, List.getD_eq_getElem?_getD, List.getElem?_eq_getElem hi, List.getElem?_eq_getElem hj] at e
  refine (List.getElem_inj (h₀ := by simpa using hi) (h₁ := by simpa using hj) h).1 ?_
  rw [List.getElem_map, List.getElem_map]
  exact e

section
variable {N : Nat} {w0 : World} {r : Nat} {s : AVal} {lc : List Cd} {at_ : Nat}

/-- The state at a round's head. -/
def Head (N : Nat) (w0 : World) (r : Nat) (s : AVal) (lc : List Cd) (at_ : Nat) (m : Nat) (a : Act) (w : World) : Prop :=
  ∃ (i : Nat) (φ : Phi) (h : Heap), m = 3 * (findC lc appA).length - i ∧ i ≤ 3 * (findC lc appA).length ∧
    Sta N 78 w0 φ h [(4, .bool false), (5, s), (6, .int .i64 (findC lc appA).length), (7, .mapv r), (8, .int .i64 at_), (9, .int .i64 i)] a w ∧ MapAt w r (lst (findC lc appA).length (keyN (findC lc appA)) at_ i) ∧ SrcC s h lc

theorem round1 (hN : N ≤ r) (hl : lc.length ≤ 14) (hnd : ((findC lc appA).map Cd.key).Nodup) (hat : at_ ≤ 65535) {m : Nat} {a : Act} {w : World} (hI : Head N w0 r s lc at_ m a w) {Q : Exit → Act → World → Prop}
    (hQ : ∀ φ h a w, Sta N 78 w0 φ h [(6, .int .i64 (findC lc appA).length), (7, .mapv r)] a w → MapAt w r (lst (findC lc appA).length (keyN (findC lc appA)) at_ (3 * (findC lc appA).length)) → Q (.exit 0) a w) :
    loop1.wp PP (Exit.then (fun a' w' => ∃ m', m' < m ∧ Head N w0 r s lc at_ m' a' w') Q) a w := by
  obtain ⟨i, φ, h, hm, hi, S, M, R⟩ := hI
  have hn : (findC lc appA).length ≤ 14 := by
    have := List.length_filter_le (isUp appA) (sortI lessC noCd lc)
    rw [sortI_len] at this
    exact Nat.le_trans this hl
  have hup : ∀ c ∈ findC lc appA, c.a = appA ∧ c.shows = 1 := fun c hc => by
    have := (List.mem_filter.1 hc).2
    unfold isUp at this
    simpa using this
  have key := fun turn : Int => pick_ok R (by omega) appA turn
  generalize hF : findC lc appA = F at *
  have w3 : IntKind.i64.wrap (3 * (F.length : Int)) = ((3 * F.length : Nat) : Int) := by rw [IntWalk.i64_in _ (by omega)]; omega
  rw [loop1a_eq]
  by_cases hlt : i < 3 * F.length
  · have hpos : 0 < F.length := by omega
    have i1 : (i : Int) < ((3 * F.length : Nat) : Int) := by omega
    refine wp_seq (piece prog_ok ok6 (e := .normal) (fun k => by rw [Fw.run6]; simp only [look, Nat.beq, cond_true, cond_false, bin_mul, Option.bind_some, w3, bin_lss, i1, decide_true, cond_bool]; rfl) S ?_)
    intro φ1 a1 w1 S1 K1
    have S1 : Sta N 78 w0 φ1 h [(4, .bool false), (5, s), (6, .int .i64 F.length), (7, .mapv r), (8, .int .i64 at_), (9, .int .i64 i)] a1 w1 := S1.pick [4, 5, 6, 7, 8, 9] rfl
    have M1 := M.kept K1
    refine wp_seq (wp_block ?_)
    rw [in1_eq]
    obtain ⟨H, eH, WH⟩ := key ((at_ + i : Nat) : Int)
    have d0 : decide (0 < F.length) = true := decide_eq_true hpos
    have hmod := Nat.mod_lt (at_ + i) hpos
    have hpick : pickC F ((at_ + i : Nat) : Int) = F.getD ((at_ + i) % F.length) noCd := by
      unfold pickC
      rw [if_neg (by omega), turn_nat _ _ hpos (by omega), Int.toNat_natCast]
    have hmem : F.getD ((at_ + i) % F.length) noCd ∈ F := by
      rw [List.getD_eq_getElem?_getD, List.getElem?_eq_getElem hmod]
      exact List.getElem_mem hmod
    obtain ⟨ca, cs⟩ := hup _ hmem
    have hkn : (F.getD ((at_ + i) % F.length) noCd).key = keyN F ((at_ + i) % F.length) := rfl
    rw [hpick, d0, show appA = [97, 112, 112] from rfl] at eH
    generalize hc : F.getD ((at_ + i) % F.length) noCd = c at *
    have cg : c.g = false := by
      unfold Cd.shows at cs
      cases hg : c.g with
      | false => rfl
      | true => rw [hg] at cs; simp at cs
    have w8 : IntKind.i64.wrap ((at_ : Int) + (i : Int)) = ((at_ + i : Nat) : Int) := by rw [IntWalk.i64_in _ (by omega)]; omega
    have hst : aStore (H.alloc [.str [], .str [], .int .i64 0, .int .i64 0, .int .i64 0, .int .i64 0, .int .i64 0, .int .i64 0, .bool false]) (.ptr H.next 0) c.cells = some ((H.alloc zCd).setBlk H.next (some ⟨c.cells, true⟩)) := by
      rw [store_ptr, wr_of (alloc_same _ _) 0 c.cells (by simp)]
      rfl
    generalize hh2 : (H.alloc zCd).setBlk H.next (some ⟨c.cells, true⟩) = h2 at *
    have W2 : Went h h2 := by
      refine WH.trans ⟨by rw [← hh2]; simp, fun b hb => ?_⟩
      rw [← hh2, setBlk_ne _ _ (by omega), alloc_old _ _ (by omega)]
    have rd2 : h2.rd H.next 0 9 = some c.cells := by
      rw [← hh2, rd_of (setBlk_same _ _ _) 0 9 (by simp)]
      rfl
    refine wp_seq (piece prog_ok ok8 (e := .normal) (fun k => by rw [Fw.run8]; simp only [look, Nat.beq, cond_true, cond_false, bin_add, Option.bind_some, w8, eH, ext_0, ext_1, aCells_agg, List.length_cons, List.length_nil, Nat.zero_add, Nat.reduceAdd, if_true, hst]; rfl) S1 ?_)
    intro φ2 a2 w2 S2 K2
    have S2 : Sta N 78 w0 φ2 h2 [(4, .bool false), (5, s), (6, .int .i64 F.length), (7, .mapv r), (8, .int .i64 at_), (9, .int .i64 i), (10, .ptr H.next 0), (11, .bool true)] a2 w2 := S2.pick [4, 5, 6, 7, 8, 9, 10, 11] rfl
    have M2 := M1.kept K2
    obtain ⟨vs3, e3, p3⟩ := piece9 (call := E tbl) (h := h2) (b := H.next) (c := c) (v4 := .bool false) (v5 := s) (v6 := .int .i64 F.length) (v7 := .mapv r) (v8 := .int .i64 at_) (v9 := .int .i64 i) rd2 cg ca (by rw [shows12, cs])
    refine wp_seq (piece prog_ok ok9 (e := .normal) e3 S2 ?_)
    intro φ3 a3 w3' S3 K3
    have S3 : Sta N 78 w0 φ3 h2 [(4, .bool false), (5, s), (6, .int .i64 F.length), (7, .mapv r), (8, .int .i64 at_), (9, .int .i64 i), (10, .ptr H.next 0)] a3 w3' := S3.pick [4, 5, 6, 7, 8, 9, 10] p3
    have M3 := M2.kept K3
    refine count_key (k := c.key) S3 M3 hN rfl rfl (rd_part rd2 0 2 (by omega)) (fun d h1 h2 => ?_) ?_
    · have : ∀ x, 56 ≤ x → x < 63 → look [(4, AVal.bool false), (5, s), (6, .int .i64 F.length), (7, .mapv r), (8, .int .i64 at_), (9, .int .i64 i), (10, .ptr H.next 0)] x = .undef := fun x h1 h2 => by
        have : x = 56 ∨ x = 57 ∨ x = 58 ∨ x = 59 ∨ x = 60 ∨ x = 61 ∨ x = 62 := by omega
        rcases this with rfl | rfl | rfl | rfl | rfl | rfl | rfl <;> rfl
      exact this d h1 h2
    · intro a4 w4 S4 M4 _
      have S4 : Sta N 78 w0 φ3 h2 [(4, .bool false), (5, s), (6, .int .i64 F.length), (7, .mapv r), (8, .int .i64 at_), (9, .int .i64 i)] a4 w4 := S4.pick [4, 5, 6, 7, 8, 9] rfl
      have w9 : IntKind.i64.wrap ((i : Int) + 1) = ((i + 1 : Nat) : Int) := by rw [IntWalk.i64_in _ (by omega)]; omega
      refine piece prog_ok ok7 (e := .normal) (fun k => by rw [Fw.run7]; simp only [look, Nat.beq, cond_true, cond_false, bin_add, Option.bind_some, w9]; rfl) S4 ?_
      intro φ5 a5 w5 S5 K5
      rw [hkn, lst_step (keyN_inj hnd) hpos hn at_ i hlt] at M4
      exact ⟨3 * F.length - (i + 1), by omega, i + 1, φ5, h2, by rw [hF], by rw [hF]; omega, by rw [hF]; exact S5.pick [4, 5, 6, 7, 8, 9] rfl, by rw [hF]; exact M4.kept K5, W2.src R⟩
  · have : i = 3 * F.length := by omega
    subst this
    have i1 : ¬ ((3 * F.length : Nat) : Int) < ((3 * F.length : Nat) : Int) := by omega
    refine wp_seq (piece prog_ok ok6 (e := .exit 0) (fun k => by rw [Fw.run6]; simp only [look, Nat.beq, cond_true, cond_false, bin_mul, Option.bind_some, w3, bin_lss, i1, decide_false, cond_bool]; rfl) S ?_)
    intro φ1 a1 w1 S1 K1
    exact hQ φ1 h a1 w1 (S1.pick [6, 7] rfl) (M.kept K1)
end
end Go.Fw
