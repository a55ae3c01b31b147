/- LookTurns: a call of it answers true, and nothing that was there has changed. -/
import Derived.Test.YtllogmedpmanoaaMapK
namespace Go.Fw
set_option linter.unusedSimpArgs false
set_option linter.unusedVariables false
open Go.Proofs.Ytllogmedpmanoaa.Code
open Go.ChangeMaps (setBlock)

theorem ret_ok {N : Nat} {w0 : World} {φ : Phi} {h : Heap} {a : Act} {w : World} (S : Sta N 78 w0 φ h [(4, .bool true)] a w) : (results Go.Proofs.Try.f4 a.tmps).run PP w = .ok (.bool true) w := by
  obtain ⟨u, hu, hr⟩ := results_rel (P := PP) S.toIn.rel (fn := Go.Proofs.Try.f4) (ys := [.tmp 4]) (by kernel_rfl) (vs := [.bool true]) rfl
  have : u = .bool true := vrel_bool.1 hr
  rw [hu, this]

theorem lookTurns_call {φ : Phi} {h0 : Heap} {w : World} {vs : Array Value} {s : AVal} {l : List Int} {from_ : Int} (H : HRel φ h0 w) (hno : ∀ b x, h0.blk b = some x → x.rw = true → False)
    (hargs : VRels φ [s, .int .i64 from_] vs.toList) (I : Ints .i64 s h0 l) (lt0 : ∀ b, slBlk s = some b → b < h0.next) (sz : l.length * 8 ≤ 140737488355328) :
    Calls PP 4 vs w fun e w' => e = .returned (.bool true) ∧ Go.RowKit.Below w.heap.size w w' := by
  have hlen : vs.size = 2 := by have := VRels.length hargs; simpa using this.symm
  have hnt : Go.Proofs.Try.f4.ntmps = 78 := rfl
  refine calls_of_wp Go.Proofs.Try.func4 body_eq ?_
  have S0 : Sta w.heap.size 78 w φ h0 [(0, s), (1, .int .i64 from_)] { tmps := vs ++ Array.replicate (Go.Proofs.Try.f4.ntmps - vs.size) undef, defers := [] } w := by
    refine ⟨H, by simp [hnt, hlen], rfl, fun t => ?_, Nat.le_refl _, fun b x L hb hrw _ => (hno b x hb hrw).elim, Go.RowKit.Below.refl _ _⟩
    have hla := look_args [s, .int .i64 from_] 0 t
    have e : ([s, AVal.int .i64 from_].zipIdx 0).map (fun p => (p.2, p.1)) = [(0, s), (1, .int .i64 from_)] := rfl
    rw [e] at hla
    rw [hla]
    simp only [Nat.zero_le, if_true, Nat.sub_zero]
    by_cases ht : t < 2
    · obtain ⟨v, hv, hr⟩ := VRels.get hargs t ([s, AVal.int .i64 from_].getD t .undef) (by
        rw [List.getD_eq_getElem?_getD, List.getElem?_eq_getElem (by simpa using ht)]; rfl)
      rw [Array.getElem?_toList] at hv
      rw [Array.getD_eq_getD_getElem?, Array.getElem?_append_left (by omega), hv]
      exact hr
    · rw [List.getD_eq_getElem?_getD, List.getElem?_eq_none (by simpa using ht)]
      exact vrel_undef.2 trivial
  generalize ({ tmps := vs ++ Array.replicate (Go.Proofs.Try.f4.ntmps - vs.size) undef, defers := [] } : Act) = a0 at *
  refine wp_seq (piece prog_ok ok0 (e := .normal) (fun k => Fw.run0 _ _ _ k) S0 ?_)
  intro φ1 a1 w1 S1 _
  -- the cards
  have T0 : Fw.Tape h0.next s l (h0.alloc [s, .int .i64 0]) := Tape.make I lt0 (by omega)
  obtain ⟨o, lc0, H2, e2, O2, l2, _, _⟩ := cards_ok T0 14 (by omega)
  obtain ⟨o', H3, e3, R3, _⟩ := once_ok O2.src (by omega)
  have cs : aCells 1 s = some [s] := I.cell
  have ft : aFill [.nilSlice, .int .i64 0] [(0, 1, s)] = some [s, .int .i64 0] := by
    simp only [fill_cons, fill_nil, cs, Option.bind_some, List.length_cons, List.length_nil, spl_c, spl_z]
    rfl
  have hl3 : (onceC (sortI lessC noCd lc0)).length ≤ 14 := by
    have := onceC_len (sortI lessC noCd lc0)
    rw [sortI_len] at this
    omega
  have hnd := found_nodup lc0 appA
  generalize onceC (sortI lessC noCd lc0) = lc at *
  simp only [Int.cast_ofNat_Int] at e2
  refine wp_seq (piece prog_ok ok1 (e := .normal) (fun k => by rw [Fw.run1]; simp only [look, Nat.beq, cond_true, cond_false, ft, Option.bind_some, e2, e3]; rfl) S1 ?_)
  intro φ2 a2 w2 S2 _
  have S2 : Sta w.heap.size 78 w φ2 H3 [(1, .int .i64 from_), (4, .bool false), (5, o')] a2 w2 := S2.pick [1, 4, 5] rfl
  obtain ⟨u, H4, e4, R4, W4⟩ := find_ok R3 (by omega) appA
  have ln : aLen false u = some (.int .i64 (findC lc appA).length) := R4.len
  have e4' : E tbl 10 [o', .str [97, 112, 112]] H3 = some (u, H4) := e4
  refine wp_seq (piece prog_ok ok2 (e := .normal) (fun k => by rw [Fw.run2]; simp only [look, Nat.beq, cond_true, cond_false, e4', Option.bind_some, ln]; rfl) S2 ?_)
  intro φ3 a3 w3 S3 _
  have S3 : Sta w.heap.size 78 w φ3 H4 [(1, .int .i64 from_), (4, .bool false), (5, o'), (6, .int .i64 (findC lc appA).length)] a3 w3 := S3.pick [1, 4, 5, 6] rfl
  refine wp_seq (make_map S3 (fun a4 w4 S4 M4 _ => ?_) rfl)
  have hrN : w.heap.size ≤ w3.heap.size := S3.big
  generalize w3.heap.size = r at *
  obtain ⟨q, eq, q0, q1⟩ := and_eq from_ 65535 (by omega) (by omega)
  obtain ⟨at_, rfl⟩ : ∃ n : Nat, q = (n : Int) := ⟨q.toNat, by omega⟩
  refine wp_seq (piece prog_ok ok4 (e := .normal) (fun k => by rw [Fw.run4]; simp only [look, Nat.beq, cond_true, cond_false, eq, Option.bind_some]; rfl) S4 ?_)
  intro φ5 a5 w5 S5 K5
  have M5 := M4.kept K5
  show rest4.wp PP _ a5 w5
  rw [rest_eq]
  refine wp_seq (wp_seq (piece prog_ok ok5 (e := .normal) (fun k => Fw.run5 _ _ _ k) S5 ?_))
  intro φ6 a6 w6 S6 K6
  have M6 := M5.kept K6
  have S6 : Sta w.heap.size 78 w φ6 H4 [(4, .bool false), (5, o'), (6, .int .i64 (findC lc appA).length), (7, .mapv r), (8, .int .i64 at_), (9, .int .i64 (0 : Nat))] a6 w6 := S6.pick [4, 5, 6, 7, 8, 9] rfl
  refine wp_block (wp_loop_ghost (Head w.heap.size w r o' lc at_) (3 * (findC lc appA).length) ⟨0, φ6, H4, rfl, Nat.zero_le _, S6, by simpa [lst] using M6, W4.src R3⟩ fun m a w' hI => round1 hrN hl3 hnd (by omega) hI ?_)
  intro φ7 H7 a7 w7 S7 M7
  have hfin : (lst (findC lc appA).length (keyN (findC lc appA)) at_ (3 * (findC lc appA).length)).length = (findC lc appA).length ∧ ∀ e ∈ lst (findC lc appA).length (keyN (findC lc appA)) at_ (3 * (findC lc appA).length), e.2 = 3 := by
    have hn : (findC lc appA).length ≤ 14 := by
      have := List.length_filter_le (isUp appA) (sortI lessC noCd lc)
      rw [sortI_len] at this
      exact Nat.le_trans this hl3
    rcases Nat.eq_zero_or_pos (findC lc appA).length with h0 | h0
    · rw [h0]
      exact ⟨rfl, fun e he => by cases he⟩
    · exact lst_end _ h0 hn at_
  generalize lst (findC lc appA).length (keyN (findC lc appA)) at_ (3 * (findC lc appA).length) = LF at *
  generalize (findC lc appA).length = n at *
  obtain ⟨hf1, hf2⟩ := hfin
  show tail4.wp PP _ a7 w7
  rw [tail_eq]
  have hund : ∀ d, 13 ≤ d → d < 71 → look [(6, AVal.int .i64 n), (7, .mapv r)] d = .undef := fun d h1 h2 => by
    rw [look_cons, if_neg (by omega), look_cons, if_neg (by omega)]
    rfl
  refine wp_seq (wp_seq (range_map S7 M7 rfl rfl rfl fun a8 w8 S8 M8 t8 i8 => ?_))
  have hit : w.heap.size ≤ w7.heap.size := S7.big
  refine wp_block (wp_loop_ghost (Head2 w.heap.size w r LF w7.heap.size φ7 H7 [(6, .int .i64 n), (7, .mapv r)]) _ ⟨#[], rfl, S8, M8, t8, i8⟩ fun m a w' hI => round2 hund hit hf2 hI ?_)
  intro a9 w9 S9 M9
  show (Code.seq kd17 .ret).wp PP _ a9 w9
  refine wp_seq (tail17 S9 M9 hf1 fun φx hx ax wx Sx => wp_ret ?_)
  exact ⟨Sx.defers, _, ret_ok Sx, rfl, Sx.below⟩
end Go.Fw
