/- Chapter 17: any run of a queue beside the document's own. -/
import Derived.Test.YthnilenennobeaaRefQ
namespace Go.Proofs.Ythnilenennobeaa.Code
set_option linter.unusedSimpArgs false
set_option linter.unusedVariables false
open Go.Fw

theorem peer1_nodup {acc : List Int} {x : Int} (h : acc.Nodup) : (peer1 acc x).Nodup := by
  unfold peer1
  split
  · rename_i hx
    rw [List.nodup_append]
    refine ⟨h, by simp, ?_⟩
    intro a ha b hb e
    simp at hb
    subst hb e
    exact hx.2 ha
  · exact h
theorem foldl_nodup : ∀ (l : List Int) (acc : List Int), acc.Nodup → (l.foldl peer1 acc).Nodup
  | [], _, h => h
  | _ :: r, _, h => foldl_nodup r _ (peer1_nodup h)
theorem peersOf_nodup (l : List Int) : (peersOf l).Nodup := foldl_nodup l [] (by simp)

theorem addAt_P (q : Q) (i : Nat) (c : Cd) : (q.addAt i c).P = q.P := rfl
theorem addUp_P (q : Q) (c : Cd) : ∀ n, (q.addUp c n).P = q.P
  | 0 => rfl
  | n + 1 => addUp_P q c n
theorem addAll_P : ∀ (l : List Cd) (q : Q), (q.addAll l).P = q.P
  | [], _ => rfl
  | c :: r, q => (addAll_P r (q.add1 c)).trans (addUp_P q c _)
theorem take_P (q : Q) (k : Int) : (q.take k).P = q.P := by unfold Q.take; split <;> rfl

/-- How many wait for a peer, as the law looks it up. -/
theorem scan_ok {own : Bool} {p : Nat} {H : Heap} {q : Q} {F : Foot} {ps rs : AVal} {S : List AVal} (Z : QIn own p H q F ps rs S) (hd : q.P.Nodup) (k : Int) (x0 x1 x3 x4 : AVal) :
    loop (L8_2 (E tbl)) [x0, x1, .ptr p 0, x3, x4, .int .i64 k, .int .i64 0, ps, .int .i64 q.P.length, .int .i64 0] H = some (1, [x0, x1, .ptr p 0, x3, x4, .int .i64 k, .int .i64 (q.len k)], H) := by
  have hp := Z.pl
  have r1 := Z.rd1
  have key := loop_ok (f := L8_2 (E tbl)) (fun m xs G => ∃ (j : Nat) (v : Int), G = H ∧ m + j = q.P.length ∧ (((∀ i (hi : i < j) (hi2 : i < q.P.length), q.P[i] ≠ k) ∧ v = 0) ∨ ∃ (i : Nat) (hi : i < q.P.length), i < j ∧ q.P[i] = k ∧ v = (q.R.getD i []).length) ∧ xs = [x0, x1, .ptr p 0, x3, x4, .int .i64 k, .int .i64 v, ps, .int .i64 q.P.length, .int .i64 j])
    (fun r => r = (1, [x0, x1, .ptr p 0, x3, x4, .int .i64 k, .int .i64 (q.len k)], H)) ?_ q.P.length _ H ⟨0, 0, rfl, rfl, .inl ⟨fun i hi => by omega, rfl⟩, rfl⟩
  · obtain ⟨r, e, rfl⟩ := key
    simp only [Int.cast_ofNat_Int] at e
    exact e
  · rintro m xs G ⟨j, v, rfl, m1, hv, rfl⟩
    by_cases h1 : j < q.P.length
    · left
      have i1 : (j : Int) < (q.P.length : Int) := by omega
      obtain ⟨a, e1, e2⟩ := Z.ints.at j h1
      rw [List.getD_eq_getElem?_getD, List.getElem?_eq_getElem h1, Option.getD_some] at e2
      have hS : j < S.length := by rw [Z.len, Z.leq]; exact h1
      obtain ⟨b, i2, i3⟩ := Z.rowAt j hS
      have hln := (Z.row j hS).src.1.len
      have w1 : IntKind.i64.wrap ((j : Int) + 1) = ((j + 1 : Nat) : Int) := wrap_succ _ (by omega)
      by_cases hk : q.P[j] = k
      · refine ⟨_, G, ?_, m - 1, by omega, j + 1, (q.R.getD j []).length, rfl, by omega, .inr ⟨j, h1, by omega, hk, rfl⟩, rfl⟩
        generalize S.getD j .nilSlice = si at *
        generalize q.R.getD j [] = ri at *
        simp [L8_2, i1, e1, e2, hk, r1, i2, i3, hln, w1, beq_dec]
      · refine ⟨_, G, ?_, m - 1, by omega, j + 1, v, rfl, by omega, ?_, rfl⟩
        · have hk' : (q.P[j] == k) = false := by simpa using hk
          simp only [L8_2, List.getD_cons_zero, List.getD_cons_succ, bin_lss, i1, decide_true, Option.bind_some, cond_bool, cond_true, e1, e2, from_one, bin_eql, hk', cond_false, beq_dec, bin_add, w1]
        · rcases hv with ⟨h2, h3⟩ | ⟨i, hi, h2, h3, h4⟩
          · left
            refine ⟨fun i hi hi2 => ?_, h3⟩
            by_cases h : i = j
            · subst h; exact hk
            · exact h2 i (by omega) hi2
          · exact .inr ⟨i, hi, by omega, h3, h4⟩
    · right
      obtain rfl : j = q.P.length := by omega
      refine ⟨0, [x0, x1, .ptr p 0, x3, x4, .int .i64 k, .int .i64 v], G, by simp [L8_2], ?_⟩
      have : v = q.len k := by
        unfold Q.len
        rcases hv with ⟨h2, rfl⟩ | ⟨i, hi, _, h3, rfl⟩
        · rw [place_none fun hm => by
            obtain ⟨i, hi, e⟩ := List.getElem_of_mem hm
            exact h2 i hi hi e]
          rfl
        · rw [place_some hi h3 fun i' hi' e => ?_]
          exact List.pairwise_iff_getElem.1 hd i' i (by omega) hi hi' (e.trans h3.symm)
      rw [this]

structure PlayIn (h G : Heap) (pq pw pt : Nat) (q1 q2 : Q) (F : Foot) (ps rs : AVal) (S : List AVal) (F' : Foot) (ps' rs' : AVal) (S' : List AVal) (ts : AVal) (tl : List Int) : Prop where
  went : Went h G
  zq : QIn true pq G q1 F ps rs S
  zw : QIn false pw G q2 F' ps' rs' S'
  fb : ∀ b, F b → h.next ≤ b
  fb' : ∀ b, F' b → h.next ≤ b
  apart : ∀ b, F b → ¬ F' b
  tape : Fw.Tape pt ts tl G
  pt : h.next ≤ pt ∧ ¬ F pt ∧ ¬ F' pt
  ts : ∀ b, slBlk ts = some b → b < h.next

section
variable {h G : Heap} {pq pw pt : Nat} {q1 q2 : Q} {F : Foot} {ps rs : AVal} {S : List AVal} {F' : Foot} {ps' rs' : AVal} {S' : List AVal} {ts : AVal} {tl : List Int}

theorem PlayIn.stepQ (P : PlayIn h G pq pw pt q1 q2 F ps rs S F' ps' rs' S' ts tl) {G2 : Heap} {q : Q} {F2 : Foot} {S2 : List AVal} (Z : QIn true pq G2 q F2 ps rs S2) (M : Mv F F2 G G2) : PlayIn h G2 pq pw pt q q2 F2 ps rs S2 F' ps' rs' S' ts tl where
  went := P.went.then P.fb M
  zq := Z
  zw := P.zw.mono M.next fun b hb => M.old b (P.zw.flt b hb) fun hf => P.apart b hf hb
  fb := M.behind P.fb P.went.next
  fb' := P.fb'
  apart := M.apart P.zw.flt P.apart
  tape := by
    refine ⟨Nat.lt_of_lt_of_le P.tape.lt M.next, ?_, P.tape.ints.mono fun b hb => M.old b (P.tape.ne b hb).1 fun hf => by have := P.ts b hb; have := P.fb b hf; omega, fun b hb => ⟨Nat.lt_of_lt_of_le (P.tape.ne b hb).1 M.next, (P.tape.ne b hb).2⟩, P.tape.sz⟩
    obtain ⟨n, h1, h2⟩ := P.tape.pos
    exact ⟨n, h1, by rw [M.old pt P.tape.lt P.pt.2.1, h2]⟩
  pt := ⟨P.pt.1, fun hf => (M.new pt hf).elim P.pt.2.1 fun h => by have := P.tape.lt; omega, P.pt.2.2⟩
  ts := P.ts

theorem PlayIn.stepW (P : PlayIn h G pq pw pt q1 q2 F ps rs S F' ps' rs' S' ts tl) {G2 : Heap} {q : Q} {F2 : Foot} {S2 : List AVal} (Z : QIn false pw G2 q F2 ps' rs' S2) (M : Mv F' F2 G G2) : PlayIn h G2 pq pw pt q1 q F ps rs S F2 ps' rs' S2 ts tl where
  went := P.went.then P.fb' M
  zq := P.zq.mono M.next fun b hb => M.old b (P.zq.flt b hb) (P.apart b hb)
  zw := Z
  fb := P.fb
  fb' := M.behind P.fb' P.went.next
  apart := fun b hf hf' => M.apart P.zq.flt (fun b h1 h2 => P.apart b h2 h1) b hf' hf
  tape := by
    refine ⟨Nat.lt_of_lt_of_le P.tape.lt M.next, ?_, P.tape.ints.mono fun b hb => M.old b (P.tape.ne b hb).1 fun hf => by have := P.ts b hb; have := P.fb' b hf; omega, fun b hb => ⟨Nat.lt_of_lt_of_le (P.tape.ne b hb).1 M.next, (P.tape.ne b hb).2⟩, P.tape.sz⟩
    obtain ⟨n, h1, h2⟩ := P.tape.pos
    exact ⟨n, h1, by rw [M.old pt P.tape.lt P.pt.2.2, h2]⟩
  pt := ⟨P.pt.1, P.pt.2.1, fun hf => (M.new pt hf).elim P.pt.2.2 fun h => by have := P.tape.lt; omega⟩
  ts := P.ts

theorem PlayIn.stepT (P : PlayIn h G pq pw pt q1 q2 F ps rs S F' ps' rs' S' ts tl) {G2 : Heap} (T : Fw.Tape pt ts tl G2) (O : Only pt G G2) : PlayIn h G2 pq pw pt q1 q2 F ps rs S F' ps' rs' S' ts tl where
  went := ⟨Nat.le_trans P.went.next O.next, fun b hb => by rw [O.old b (Nat.lt_of_lt_of_le hb P.went.next) (by have := P.pt.1; omega), P.went.old b hb]⟩
  zq := P.zq.mono O.next fun b hb => O.old b (P.zq.flt b hb) fun e => P.pt.2.1 (e ▸ hb)
  zw := P.zw.mono O.next fun b hb => O.old b (P.zw.flt b hb) fun e => P.pt.2.2 (e ▸ hb)
  fb := P.fb
  fb' := P.fb'
  apart := P.apart
  tape := T
  pt := P.pt
  ts := P.ts
theorem PlayIn.stepK (P : PlayIn h G pq pw pt q1 q2 F ps rs S F' ps' rs' S' ts tl) {G2 : Heap} (W : Went G G2) : PlayIn h G2 pq pw pt q1 q2 F ps rs S F' ps' rs' S' ts tl :=
  P.stepT (P.tape.mono W.next W.old) ⟨W.next, fun b hb _ => W.old b hb⟩

theorem _root_.Go.Fw.Tape.stays {p : Nat} {s : AVal} {l : List Int} {h h' : Heap} (T : Fw.Tape p s l h) (hn : h.next ≤ h'.next) (hp : h'.blk p = h.blk p) (hs : ∀ b, slBlk s = some b → h'.blk b = h.blk b) : Fw.Tape p s l h' where
  lt := Nat.lt_of_lt_of_le T.lt hn
  pos := by obtain ⟨n, h1, h2⟩ := T.pos; exact ⟨n, h1, by rw [hp, h2]⟩
  ints := T.ints.mono hs
  ne := fun b hb => ⟨Nat.lt_of_lt_of_le (T.ne b hb).1 hn, (T.ne b hb).2⟩
  sz := T.sz

/-- Cards are laid into both. -/
theorem PlayIn.adds (P : PlayIn h G pq pw pt q1 q2 F ps rs S F' ps' rs' S' ts tl) {o : AVal} {l : List Cd} (L : SrcC o G l) (hl : l.length ≤ 1000) (hF : ∀ b, slBlk o = some b → ¬ F b ∧ ¬ F' b) :
    ∃ G1 G2, E tbl 13 [.ptr pq 0, o] G = some (.tuple [], G1) ∧ E tbl 20 [.ptr pw 0, o] G1 = some (.tuple [], G2) ∧ ∃ F2 S2 F2' S2', PlayIn h G2 pq pw pt (q1.addAll l) (q2.addAll l) F2 ps rs S2 F2' ps' rs' S2' ts tl := by
  obtain ⟨G1, S2, F2, e1, Z1, M1⟩ := addAll_ok P.zq L (by omega) fun b hb => (hF b hb).1
  have P1 := P.stepQ Z1 M1
  have L1 : SrcC o G1 l := Fw.Src.kept L M1.next fun b hb => M1.old b (L.blk b hb) (hF b hb).1
  obtain ⟨G2, S2', F2', e2, Z2, M2⟩ := refAddAll_ok P1.zw L1 (by omega) fun b hb => (hF b hb).2
  exact ⟨G1, G2, e1, e2, _, _, _, _, P1.stepW Z2 M2⟩

/-- What is taken from both is the same. -/
theorem PlayIn.takes (P : PlayIn h G pq pw pt q1 q1 F ps rs S F' ps' rs' S' ts tl) (k : Int) :
    ∃ o1 G1 o2 G2, E tbl 14 [.ptr pq 0, .int .i64 k] G = some (o1, G1) ∧ E tbl 21 [.ptr pw 0, .int .i64 k] G1 = some (o2, G2) ∧ E tbl 15 [o1, o2] G2 = some (.bool true, G2) ∧ ∃ F2 S2 F2' S2', PlayIn h G2 pq pw pt (q1.take k) (q1.take k) F2 ps rs S2 F2' ps' rs' S2' ts tl := by
  obtain ⟨o1, G1, S2, F2, e1, O1, Z1, M1, n1⟩ := take_ok P.zq k
  have P1 := P.stepQ Z1 M1
  obtain ⟨o2, G2, S2', F2', e2, O2, Z2, M2, n2⟩ := refTake_ok P1.zw k
  have L1 : SrcC o1 G2 (q1.taken k) := (Fw.Own.kept O1 M2.next fun b hb => M2.old b (O1.blk b hb).2 fun hf => by
    have := P.zw.flt b hf; have := (O1.blk b hb).1; omega).src
  have hlen : (q1.taken k).length ≤ 16 := by
    unfold Q.taken
    split
    · rw [List.length_take]; omega
    · simp
  exact ⟨o1, G1, o2, G2, e1, e2, same_eq L1 O2.src (by omega), _, _, _, _, P1.stepW Z2 M2⟩

/-- Each peer's number is the same. -/
theorem PlayIn.lens (P : PlayIn h G pq pw pt q1 q1 F ps rs S F' ps' rs' S' ts tl) (hd : q1.P.Nodup) (x0 x4 : AVal) :
    loop (L8_1 (E tbl)) [x0, .ptr pq 0, .ptr pw 0, .ptr pt 0, x4, .int .i64 (-1)] G = some (1, [x0, .ptr pq 0, .ptr pw 0, .ptr pt 0, x4], G) := by
  have r0 := P.zw.rd0
  have hln := P.zw.ints.len
  have key := loop_ok (f := L8_1 (E tbl)) (fun m xs H => ∃ k : Int, H = G ∧ (m : Int) + k = 8 ∧ -1 ≤ k ∧ xs = [x0, .ptr pq 0, .ptr pw 0, .ptr pt 0, x4, .int .i64 k])
    (fun r => r = (1, [x0, .ptr pq 0, .ptr pw 0, .ptr pt 0, x4], G)) ?_ 9 _ G ⟨-1, rfl, by omega, by omega, rfl⟩
  · obtain ⟨r, e, rfl⟩ := key
    exact e
  · rintro m xs H ⟨k, rfl, m1, mk, rfl⟩
    by_cases h1 : k < 8
    · left
      have w1 : IntKind.i64.wrap (k + 1) = k + 1 := IntWalk.i64_in _ (by omega)
      have e1 := scan_ok P.zw hd k x0 (.ptr pq 0) (.ptr pt 0) x4
      have e2 := len_eq P.zq k
      refine ⟨_, H, ?_, m - 1, by omega, k + 1, rfl, by omega, by omega, rfl⟩
      simp [L8_1, h1, r0, hln, e1, e2, w1, beq_dec]
    · right
      exact ⟨0, _, H, by simp [L8_1, h1], rfl⟩
end

theorem round_ok {h G : Heap} {pq pw pt : Nat} {q : Q} {F : Foot} {ps rs : AVal} {S : List AVal} {F' : Foot} {ps' rs' : AVal} {S' : List AVal} {ts : AVal} {tl : List Int}
    (P : PlayIn h G pq pw pt q q F ps rs S F' ps' rs' S' ts tl) (hd : q.P.Nodup) {raw : AVal} {lr : List Cd} (R : SrcC raw h lr) (i : Nat) (hi : i < 40) :
    ∃ G2 q2 F2 S2 F2' S2', L8_0 (E tbl) [raw, .ptr pq 0, .ptr pw 0, .ptr pt 0, .int .i64 i] G = some (0, [raw, .ptr pq 0, .ptr pw 0, .ptr pt 0, .int .i64 ((i + 1 : Nat) : Int)], G2) ∧ PlayIn h G2 pq pw pt q2 q2 F2 ps rs S2 F2' ps' rs' S2' ts tl ∧ q2.P.Nodup := by
  have i1 : (i : Int) < 40 := by omega
  have w1 : IntKind.i64.wrap ((i : Int) + 1) = ((i + 1 : Nat) : Int) := wrap_succ _ (by omega)
  obtain ⟨k, G1, e1, k0, k1, T1, O1, n1⟩ := next_ok P.tape 10 (by omega)
  have P1 := P.stepT T1 O1
  -- the last part of a round
  have last : ∀ {G2 : Heap} {q2 : Q} {F2 : Foot} {S2 : List AVal} {F2' : Foot} {S2' : List AVal}, PlayIn h G2 pq pw pt q2 q2 F2 ps rs S2 F2' ps' rs' S2' ts tl → q2.P.Nodup →
      loop (L8_1 (E tbl)) [raw, .ptr pq 0, .ptr pw 0, .ptr pt 0, .int .i64 i, .int .i64 (-1)] G2 = some (1, [raw, .ptr pq 0, .ptr pw 0, .ptr pt 0, .int .i64 i], G2) ∧ E tbl 16 [.ptr pq 0] G2 = some (.int .i64 q2.lost, G2) ∧ G2.rd pw 2 1 = some [.int .i64 q2.lost] :=
    fun P2 hd2 => ⟨P2.lens hd2 _ _, lost_eq P2.zq, P2.zw.rd2⟩
  by_cases hk : k < 6
  · obtain ⟨o, l, G2, e2, O2, hl, T2, On2⟩ := cards_ok P1.tape 6 (by omega)
    have P2 := P1.stepT T2 On2
    simp only [Int.cast_ofNat_Int] at e2
    have hln := R.len
    have new : ∀ b, slBlk o = some b → ¬ F b ∧ ¬ F' b := fun b hb => by
      have := (O2.blk b hb).1
      exact ⟨fun hf => by have := P1.zq.flt b hf; omega, fun hf => by have := P1.zw.flt b hf; omega⟩
    -- behind the choice whether a card of the law's own is added
    have fin : ∀ {G3 : Heap} {o' : AVal} {l' : List Cd}, PlayIn h G3 pq pw pt q q F ps rs S F' ps' rs' S' ts tl → SrcC o' G3 l' → l'.length ≤ 1000 → (∀ b, slBlk o' = some b → ¬ F b ∧ ¬ F' b) →
        ∃ G2 q2 F2 S2 F2' S2', ((E tbl 13 [.ptr pq 0, o'] G3).bind fun r19 => (E tbl 20 [.ptr pw 0, o'] r19.2).bind fun r20 => (loop (L8_1 (E tbl)) [raw, .ptr pq 0, .ptr pw 0, .ptr pt 0, .int .i64 i, .int .i64 (-1)] r20.2).bind fun x53 => some (x53, r20.2)) = some ((1, [raw, .ptr pq 0, .ptr pw 0, .ptr pt 0, .int .i64 i], G2), G2) ∧ E tbl 16 [.ptr pq 0] G2 = some (.int .i64 q2.lost, G2) ∧ G2.rd pw 2 1 = some [.int .i64 q2.lost] ∧ PlayIn h G2 pq pw pt q2 q2 F2 ps rs S2 F2' ps' rs' S2' ts tl ∧ q2.P.Nodup := by
      intro G3 o' l' P3 L3 hl3 hn3
      obtain ⟨G4, G5, e4, e5, F2, S2, F2', S2', P5⟩ := P3.adds L3 hl3 hn3
      have hd5 : (q.addAll l').P.Nodup := by rw [addAll_P]; exact hd
      obtain ⟨a1, a2, a3⟩ := last P5 hd5
      exact ⟨G5, _, F2, S2, F2', S2', by simp [e4, e5, a1], a2, a3, P5, hd5⟩
    by_cases hr : i < lr.length
    · have i2 : (i : Int) < (lr.length : Int) := by omega
      obtain ⟨a, a1, a2⟩ := SrcC.card (P2.went.src R) i hr
      obtain ⟨o', G3, e3, O3, K3⟩ := O2.snoc lr[i] On2.next (by omega)
      have ob : ∀ b, slBlk o = some b → G1.next ≤ b := fun b hb => (O2.blk b hb).1
      have lt1 := P1.tape.lt
      have P3 : PlayIn h G3 pq pw pt q q F ps rs S F' ps' rs' S' ts tl := P1.stepT
        (T2.stays K3.next (K3.old pt T2.lt fun e => by have := ob _ e; omega) fun b hb => K3.old b (T2.ne b hb).1 fun e => by have := ob _ e; have := (P1.tape.ne b hb).1; omega)
        ⟨Nat.le_trans On2.next K3.next, fun b hb hp => by rw [K3.old b (Nat.lt_of_lt_of_le hb On2.next) fun e => by have := ob _ e; omega, On2.old b hb hp]⟩
      obtain ⟨G5, q5, F2, S2, F2', S2', x1, x2, x3, P5, hd5⟩ := fin P3 O3.src (by rw [List.length_append, List.length_singleton]; omega) fun b hb => by
        have := (O3.blk b hb).1
        exact ⟨fun hf => by have := P1.zq.flt b hf; omega, fun hf => by have := P1.zw.flt b hf; omega⟩
      refine ⟨G5, q5, F2, S2, F2', S2', ?_, P5, hd5⟩
      simp only [Option.bind_eq_some_iff] at x1
      obtain ⟨⟨r1, G4⟩, y1, ⟨r2, G6⟩, y2, x53, y3, y4⟩ := x1
      simp only [Option.some.injEq, Prod.mk.injEq] at y4
      obtain ⟨rfl, rfl⟩ := y4
      simp only [Cd.cells] at a2 e3
      simp [L8_0, i1, e1, hk, e2, hln, i2, a1, a2, e3, y1, y2, y3, x2, x3, checkPairs_cons, w1, beq_dec]
    · have i2 : ¬ (i : Int) < (lr.length : Int) := by omega
      obtain ⟨G5, q5, F2, S2, F2', S2', x1, x2, x3, P5, hd5⟩ := fin P2 O2.src (by omega) new
      refine ⟨G5, q5, F2, S2, F2', S2', ?_, P5, hd5⟩
      simp only [Option.bind_eq_some_iff] at x1
      obtain ⟨⟨r1, G4⟩, y1, ⟨r2, G6⟩, y2, x53, y3, y4⟩ := x1
      simp only [Option.some.injEq, Prod.mk.injEq] at y4
      obtain ⟨rfl, rfl⟩ := y4
      simp [L8_0, i1, e1, hk, e2, hln, i2, y1, y2, y3, x2, x3, checkPairs_cons, w1, beq_dec]
  · have w6 : IntKind.i64.wrap (k - 6) = k - 6 := IntWalk.i64_in _ (by omega)
    obtain ⟨o1, G2, o2, G3, e2, e3, e4, F2, S2, F2', S2', P3⟩ := P1.takes (k - 6)
    have hd3 : (q.take (k - 6)).P.Nodup := by rw [take_P]; exact hd
    obtain ⟨a1, a2, a3⟩ := last P3 hd3
    refine ⟨G3, _, F2, S2, F2', S2', ?_, P3, hd3⟩
    simp [L8_0, i1, e1, hk, w6, e2, e3, e4, a1, a2, a3, checkPairs_cons, w1, beq_dec]

theorem play_ok {h : Heap} {s0 s1 s2 : AVal} {lp lt : List Int} {lr : List Cd} (I : Ints .i64 s0 h lp) (hs : ∀ b, slBlk s0 = some b → b < h.next) (hl : lp.length ≤ 20000000000000)
    (I1 : Ints .i64 s1 h lt) (hs1 : ∀ b, slBlk s1 = some b → b < h.next) (hl1 : lt.length < 4611686018427387904) (R : SrcC s2 h lr) :
    ∃ H, E tbl 8 [s0, s1, s2] h = some (.bool true, H) ∧ Went h H := by
  obtain ⟨G1, F, ps, rs, S, e1, Z1, W1, f1⟩ := new_ok I hs hl
  obtain ⟨G2, F', ps', rs', S', e2, Z2, W2, f2⟩ := refNew_ok (I.mono fun b hb => W1.old b (hs b hb)) (fun b hb => Nat.lt_of_lt_of_le (hs b hb) W1.next) hl
  have W12 := W1.trans W2
  have W3 : Went h (G2.alloc [s1, .int .i64 0]) := W12.trans (Went.alloc _ _)
  have hn1 := W1.next
  have hn2 := W2.next
  have P : PlayIn h (G2.alloc [s1, .int .i64 0]) h.next G1.next G2.next (Q.new lp) (Q.new lp) F ps rs S F' ps' rs' S' s1 lt := {
    went := W3
    zq := (Z1.mono W2.next fun b hb => W2.old b (Z1.flt b hb)).mono (by simp) fun b hb => alloc_old _ _ (by have := Z1.flt b hb; omega)
    zw := Z2.mono (by simp) fun b hb => alloc_old _ _ (by have := Z2.flt b hb; omega)
    fb := f1
    fb' := fun b hb => by have := f2 b hb; omega
    apart := fun b hb hb' => by have := Z1.flt b hb; have := f2 b hb'; omega
    tape := Tape.make (I1.mono fun b hb => W12.old b (hs1 b hb)) (fun b hb => Nat.lt_of_lt_of_le (hs1 b hb) W12.next) hl1
    pt := ⟨W12.next, fun hf => by have := Z1.flt _ hf; omega, fun hf => by have := Z2.flt _ hf; omega⟩
    ts := hs1 }
  have key := loop_ok (f := L8_0 (E tbl)) (fun m xs G => ∃ (i : Nat) (q : Q) (F : Foot) (S : List AVal) (F' : Foot) (S' : List AVal), m + i = 40 ∧ PlayIn h G h.next G1.next G2.next q q F ps rs S F' ps' rs' S' s1 lt ∧ q.P.Nodup ∧ xs = [s2, .ptr h.next 0, .ptr G1.next 0, .ptr G2.next 0, .int .i64 i])
    (fun r => ∃ G, r = (1, [], G) ∧ Went h G) ?_ 40 _ _ ⟨0, Q.new lp, F, S, F', S', rfl, P, peersOf_nodup lp, rfl⟩
  · obtain ⟨r, e, G, rfl, W⟩ := key
    simp only [Int.cast_ofNat_Int] at e
    refine ⟨G, ?_, W⟩
    rw [c8]
    have hc : aCells 1 s1 = some [s1] := I1.cell
    simp [S8, e1, e2, hc, e, beq_dec]
  · rintro m xs G ⟨i, q, F, S, F', S', m1, P, hd, rfl⟩
    by_cases h1 : i < 40
    · left
      obtain ⟨G2, q2, F2, S2, F2', S2', e, P2, hd2⟩ := round_ok P hd R i h1
      exact ⟨_, G2, e, m - 1, by omega, i + 1, q2, F2, S2, F2', S2', by omega, P2, hd2, rfl⟩
    · right
      obtain rfl : i = 40 := by omega
      exact ⟨0, _, G, by simp [L8_0], G, rfl, P.went⟩
end Go.Proofs.Ythnilenennobeaa.Code
