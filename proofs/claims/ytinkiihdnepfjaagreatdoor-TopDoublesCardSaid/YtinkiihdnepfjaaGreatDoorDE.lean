/- TopDoubles -/
import Derived.Test.YtinkiihdnepfjaaGreatDoorDA
set_option linter.unusedSimpArgs false
set_option linter.unusedVariables false
namespace Go.Proofs.YtinkiihdnepfjaaGreatDoor.Code
open Go.Fw
def posK (k : Key) : List Cd → Nat
  | [] => 0
  | c :: l => if lessK c.key k then posK k l + 1 else 0
theorem posK_le (k : Key) : ∀ l : List Cd, posK k l ≤ l.length
  | [] => Nat.le_refl _
  | c :: l => by
    unfold posK
    split
    · have := posK_le k l; simp only [List.length_cons]; omega
    · exact Nat.zero_le _
theorem posK_pre (k : Key) : ∀ (l : List Cd) (i : Nat) (hi : i < l.length), i < posK k l → lessK l[i].key k = true
  | [], i, hi, _ => by cases hi
  | c :: l, i, hi, h => by
    unfold posK at h
    split at h
    · rename_i hc
      cases i with
      | zero => exact hc
      | succ i => exact posK_pre k l i (by simpa using hi) (by omega)
    · omega
theorem posK_at (k : Key) : ∀ (l : List Cd) (hi : posK k l < l.length), lessK l[posK k l].key k = false
  | [], hi => by cases hi
  | c :: l, hi => by
    by_cases hc : lessK c.key k = true
    · have e : posK k (c :: l) = posK k l + 1 := by rw [posK, if_pos hc]
      have := posK_at k l (by rw [e] at hi; simpa using hi)
      simp only [e, List.getElem_cons_succ]
      exact this
    · have e : posK k (c :: l) = 0 := by rw [posK, if_neg hc]
      simp only [e, List.getElem_cons_zero]
      simpa using hc
def Sorted (l : List Cd) : Prop := l.Pairwise fun x y => lessK x.key y.key = true
def inK (k : Key) (l : List Cd) : Bool := if h : posK k l < l.length then decide (l[posK k l].key = k) else false
def into1 (most : Nat) (l : List Cd) (c : Cd) : List Cd :=
  if h : posK c.key l < l.length then
    if l[posK c.key l].key = c.key then (if lessT l[posK c.key l] c then l.set (posK c.key l) c else l)
    else if most ≤ l.length then l else l.take (posK c.key l) ++ c :: l.drop (posK c.key l)
  else if most ≤ l.length then l else l.take (posK c.key l) ++ c :: l.drop (posK c.key l)
theorem sorted_at {l : List Cd} (S : Sorted l) {i j : Nat} (hj : j < l.length) (h : i < j) : lessK (l[i]'(by omega)).key l[j].key = true := List.pairwise_iff_getElem.1 S i j (by omega) hj h
theorem key_at {l : List Cd} (S : Sorted l) {k : Key} {i : Nat} (hi : i < l.length) (hk : l[i].key = k) : posK k l = i := by
  rcases Nat.lt_trichotomy (posK k l) i with h | h | h
  · have h1 := posK_at k l (by omega)
    have h2 := sorted_at S hi h
    rw [hk, h1] at h2
    cases h2
  · exact h
  · have := posK_pre k l i hi h
    rw [hk, lessK_irrefl] at this
    cases this
def Settled (most : Nat) (l : List Cd) (c : Cd) : Prop := (∃ e ∈ l, e.key = c.key ∧ lessT e c = false) ∨ (∀ e ∈ l, e.key ≠ c.key) ∧ most ≤ l.length
inductive Into (most : Nat) (l : List Cd) (c : Cd) : List Cd → Prop
  | stay : Settled most l c → Into most l c l
  | over (i : Nat) (hi : i < l.length) : l[i].key = c.key → lessT l[i] c = true → Into most l c (l.set i c)
  | new : (∀ e ∈ l, e.key ≠ c.key) → l.length < most → Into most l c (l.take (posK c.key l) ++ c :: l.drop (posK c.key l))
theorem no_key {l : List Cd} (S : Sorted l) {k : Key} (h : ∀ h : posK k l < l.length, l[posK k l].key ≠ k) : ∀ e ∈ l, e.key ≠ k := by
  intro e he hk
  obtain ⟨i, hi, rfl⟩ := List.getElem_of_mem he
  have := key_at S hi hk
  subst this
  exact h hi hk
theorem into1_cases {most : Nat} {l : List Cd} (S : Sorted l) (c : Cd) : Into most l c (into1 most l c) := by
  unfold into1
  split
  · rename_i h
    split
    · rename_i hk
      split
      · rename_i ht
        exact .over _ h hk ht
      · rename_i ht
        exact .stay (.inl ⟨_, List.getElem_mem h, hk, by simpa using ht⟩)
    · rename_i hk
      have nk := no_key S (k := c.key) fun h' => hk
      split
      · rename_i hm
        exact .stay (.inr ⟨nk, hm⟩)
      · rename_i hm
        exact .new nk (by omega)
  · rename_i h
    have nk := no_key S (k := c.key) fun h' => (h h').elim
    split
    · rename_i hm
      exact .stay (.inr ⟨nk, hm⟩)
    · rename_i hm
      exact .new nk (by omega)
theorem settled_stays {most : Nat} {l : List Cd} (S : Sorted l) {c : Cd} (h : Settled most l c) : into1 most l c = l := by
  unfold into1
  rcases h with ⟨e, he, hk, ht⟩ | ⟨hn, hm⟩
  · obtain ⟨i, hi, rfl⟩ := List.getElem_of_mem he
    have hp := key_at S hi hk
    have h1 : posK c.key l < l.length := by rw [hp]; exact hi
    rw [dif_pos h1]
    simp only [hp]
    rw [if_pos hk, if_neg (by rw [ht]; simp)]
  · split
    · rename_i h1
      rw [if_neg (hn _ (List.getElem_mem h1))]
    · rfl
theorem into1_sorted {most : Nat} {l : List Cd} (S : Sorted l) (c : Cd) : Sorted (into1 most l c) := by
  have I := into1_cases (most := most) S c
  generalize into1 most l c = l' at I
  cases I with
  | stay _ => exact S
  | over i hi hk ht =>
    rw [Sorted, List.pairwise_iff_getElem] at S ⊢
    intro a b ha hb hab
    simp only [List.length_set] at ha hb
    have := S a b ha hb hab
    rw [List.getElem_set, List.getElem_set]
    by_cases h1 : i = a
    · subst h1
      rw [if_pos rfl, if_neg (by omega), ← hk]
      exact this
    · rw [if_neg h1]
      by_cases h2 : i = b
      · subst h2
        rw [if_pos rfl, ← hk]
        exact this
      · rw [if_neg h2]; exact this
  | new hn hm =>
    have hp := posK_le c.key l
    have pre : ∀ e ∈ l.take (posK c.key l), lessK e.key c.key = true := by
      intro e he
      obtain ⟨i, hi, rfl⟩ := List.getElem_of_mem he
      rw [List.getElem_take]
      exact posK_pre c.key l i (by simp at hi; omega) (by simp at hi; omega)
    have post : ∀ e ∈ l.drop (posK c.key l), lessK c.key e.key = true := by
      intro e he
      obtain ⟨i, hi, rfl⟩ := List.getElem_of_mem he
      simp only [List.length_drop] at hi
      have h0 : posK c.key l < l.length := by omega
      have a0 := posK_at c.key l h0
      have b0 : lessK c.key l[posK c.key l].key = true := by
        cases hq : lessK c.key l[posK c.key l].key with
        | true => rfl
        | false => exact (hn _ (List.getElem_mem h0) (lessK_total a0 hq)).elim
      rw [List.getElem_drop]
      cases i with
      | zero => exact b0
      | succ i => exact lessK_trans b0 (sorted_at S (by omega) (by omega))
    rw [Sorted, List.pairwise_append]
    refine ⟨S.sublist (List.take_sublist _ _), List.pairwise_cons.2 ⟨post, S.sublist (List.drop_sublist _ _)⟩, ?_⟩
    intro a ha b hb
    rcases List.mem_cons.1 hb with rfl | hb
    · exact pre a ha
    · exact lessK_trans (pre a ha) (post b hb)
theorem into1_settled {most : Nat} {l : List Cd} (S : Sorted l) (c : Cd) : Settled most (into1 most l c) c := by
  have I := into1_cases (most := most) S c
  generalize into1 most l c = l' at I
  cases I with
  | stay h => exact h
  | over i hi hk ht => exact .inl ⟨c, List.mem_set hi c, rfl, lessT_irrefl c⟩
  | new hn hm => exact .inl ⟨c, by simp, rfl, lessT_irrefl c⟩
theorem settled_into1 {most : Nat} {l : List Cd} (S : Sorted l) {c : Cd} (h : Settled most l c) (d : Cd) : Settled most (into1 most l d) c := by
  have I := into1_cases (most := most) S d
  generalize into1 most l d = l' at I
  cases I with
  | stay _ => exact h
  | over i hi hk ht =>
    rcases h with ⟨e, he, hek, het⟩ | ⟨hn, hm⟩
    · by_cases hd : d.key = c.key
      · refine .inl ⟨d, List.mem_set hi d, hd, ?_⟩
        obtain ⟨j, hj, rfl⟩ := List.getElem_of_mem he
        have p1 := key_at S hj hek
        have p2 := key_at S hi (hk.trans hd)
        obtain rfl : i = j := by rw [← p1, ← p2]
        cases hq : lessT d c with
        | false => rfl
        | true => rw [lessT_trans ht hq] at het; cases het
      · refine .inl ⟨e, ?_, hek, het⟩
        obtain ⟨j, hj, rfl⟩ := List.getElem_of_mem he
        have hne : i ≠ j := by
          rintro rfl
          exact hd (hk.symm.trans hek)
        rw [List.mem_iff_getElem]
        exact ⟨j, by simpa using hj, by rw [List.getElem_set, if_neg hne]⟩
    · refine .inr ⟨fun e he => ?_, by simpa using hm⟩
      rcases List.mem_or_eq_of_mem_set he with he | rfl
      · exact hn e he
      · rw [← hk]; exact hn _ (List.getElem_mem hi)
  | new hn hm =>
    rcases h with ⟨e, he, hek, het⟩ | ⟨_, hm'⟩
    · refine .inl ⟨e, ?_, hek, het⟩
      rw [← List.take_append_drop (posK d.key l) l, List.mem_append] at he
      rw [List.mem_append, List.mem_cons]
      rcases he with he | he
      · exact .inl he
      · exact .inr (.inr he)
    · omega
def intoAll (most : Nat) (l : List Cd) (cs : List Cd) : List Cd := cs.foldl (into1 most) l
theorem intoAll_sorted {most : Nat} : ∀ (cs l : List Cd), Sorted l → Sorted (intoAll most l cs)
  | [], _, S => S
  | c :: cs, l, S => intoAll_sorted cs _ (into1_sorted S c)
theorem settled_intoAll {most : Nat} {c : Cd} : ∀ (cs l : List Cd), Sorted l → Settled most l c → Settled most (intoAll most l cs) c
  | [], _, _, h => h
  | d :: cs, l, S, h => settled_intoAll cs _ (into1_sorted S d) (settled_into1 S h d)
theorem all_settled {most : Nat} : ∀ (cs l : List Cd), Sorted l → ∀ c ∈ cs, Settled most (intoAll most l cs) c
  | [], _, _, c, hc => by cases hc
  | d :: cs, l, S, c, hc => by
    rcases List.mem_cons.1 hc with rfl | hc
    · exact settled_intoAll cs _ (into1_sorted S c) (into1_settled S c)
    · exact all_settled cs _ (into1_sorted S d) c hc
theorem into_settled {most : Nat} : ∀ (cs l : List Cd), Sorted l → (∀ c ∈ cs, Settled most l c) → intoAll most l cs = l
  | [], _, _, _ => rfl
  | d :: cs, l, S, h => by
    show intoAll most (into1 most l d) cs = l
    rw [settled_stays S (h d (by simp))]
    exact into_settled cs l S fun c hc => h c (by simp [hc])
theorem into_twice {most : Nat} {l : List Cd} (S : Sorted l) (cs : List Cd) : intoAll most (intoAll most l cs) cs = intoAll most l cs :=
  into_settled cs _ (intoAll_sorted cs l S) (all_settled cs l S)
end Go.Proofs.YtinkiihdnepfjaaGreatDoor.Code
set_option maxRecDepth 100000
namespace Go.Proofs.YtinkiihdnepfjaaGreatDoor.Code
open Go.Fw
abbrev Cd.ent (c : Cd) : List AVal := [.str c.a, .str c.i, .int .i64 c.s, .int .i64 c.o, .int .i64 c.l, .int .i64 c.t, .int .i64 c.k, .int .i64 c.n, .bool c.g, .int .i64 0]
def enE : El Cd 10 := ⟨Cd.ent, fun _ => rfl, by omega⟩
@[simp] theorem enE_f (c : Cd) : enE.f c = c.ent := rfl
structure Sh (f : Nat) (sl : AVal) (h : Heap) (l : List Cd) : Prop where
  lt : f < h.next
  at' : h.blk f = some ⟨[.int .i64 32, sl], true⟩
  own : enE.Own sl h 0 l
  ne : slBlk sl ≠ some f
  len : l.length ≤ 32
structure Kp (f : Nat) (h : Heap) (sl : AVal) (H : Heap) (sl' : AVal) : Prop where
  next : h.next ≤ H.next
  old : ∀ b, b < h.next → b ≠ f → slBlk sl ≠ some b → H.blk b = h.blk b
  blk : ∀ b, slBlk sl' = some b → slBlk sl = some b ∨ h.next ≤ b
theorem Kp.refl (f : Nat) (h : Heap) (sl : AVal) : Kp f h sl h sl := ⟨Nat.le_refl _, fun _ _ _ _ => rfl, fun _ hb => .inl hb⟩
theorem Kp.trans {f : Nat} {a b c : Heap} {x y z : AVal} (p : Kp f a x b y) (q : Kp f b y c z) : Kp f a x c z :=
  ⟨Nat.le_trans p.next q.next, fun i hi h1 h2 => by
    rw [q.old i (Nat.lt_of_lt_of_le hi p.next) h1 (fun e => (p.blk i e).elim h2 fun h => by omega), p.old i hi h1 h2],
   fun i e => (q.blk i e).elim (p.blk i) fun h => .inr (Nat.le_trans p.next h)⟩
theorem Kp.of_went {f : Nat} {a b : Heap} {x : AVal} (W : Went a b) : Kp f a x b x := ⟨W.next, fun i hi _ _ => W.old i hi, fun _ h => .inl h⟩
theorem Sh.went {f : Nat} {sl : AVal} {h H : Heap} {l : List Cd} (S : Sh f sl h l) (W : Went h H) : Sh f sl H l :=
  ⟨Nat.lt_of_lt_of_le S.lt W.next, by rw [W.old f S.lt, S.at'], W.own S.own, S.ne, S.len⟩
theorem el_at {sl : AVal} {h : Heap} {n0 : Nat} {l : List Cd} (O : enE.Own sl h n0 l) (i : Nat) (hi : i < l.length) :
    ∃ b, slBlk sl = some b ∧ aIaddr 10 sl (.int .i64 i) = some (.ptr b (i * 10)) ∧ h.rd b (i * 10) 10 = some l[i].ent ∧ h.rd b (i * 10) 2 = some [.str l[i].a, .str l[i].i] := by
  obtain ⟨hl, ⟨rfl, h0⟩ | ⟨b, ex, rfl, a1, a2, a3⟩⟩ := O
  · omega
  · have i1 : (i : Int) < (l.length : Int) := by omega
    have e := enE.rws_at l i hi
    refine ⟨b, rfl, by simp [aIaddr, aIdx, i1], ?_, ?_⟩
    · rw [rd_of a3 _ _ (by rw [hl]; omega), e]; rfl
    · rw [rd_of a3 _ _ (by rw [hl]; omega)]
      have : ((enE.rws l).drop (i * 10)).take 2 = (((enE.rws l).drop (i * 10)).take 10).take 2 := by rw [List.take_take]; rfl
      rw [this, e]
      rfl
theorem Sh.l1 {f : Nat} {sl : AVal} {h : Heap} {l : List Cd} (S : Sh f sl h l) : h.rd f 1 1 = some [sl] := rd_of S.at' 1 1 (by simp)
theorem Sh.l0 {f : Nat} {sl : AVal} {h : Heap} {l : List Cd} (S : Sh f sl h l) : h.rd f 0 1 = some [.int .i64 32] := rd_of S.at' 0 1 (by simp)
theorem find_ok {f : Nat} {sl : AVal} {h : Heap} {l : List Cd} (S : Sh f sl h l) (k : Key) :
    ∃ H, E tbl 123 [.ptr f 0, .agg [.str k.1, .str k.2]] h = some (.tuple [.int .i64 (posK k l : Nat), .bool (inK k l)], H) ∧ Went h H := by
  have key : ∃ res, loop (L123_0 (E tbl)) [.ptr f 0, .int .i64 0, .agg [.str k.1, .str k.2]] h = some res ∧ ∃ H, res = (1, [.ptr f 0, .int .i64 (posK k l : Nat), .agg [.str k.1, .str k.2]], H) ∧ Went h H := by
    refine loop_ok (fun n xs G => ∃ i, n + i = posK k l ∧ Went h G ∧ xs = [.ptr f 0, .int .i64 (i : Nat), .agg [.str k.1, .str k.2]]) _ ?_ (posK k l) _ _ ⟨0, rfl, Went.refl _, rfl⟩
    rintro n xs G ⟨i, hi, W, rfl⟩
    have SG := S.went W
    have ln := Fw.Src.len SG.own.src
    have r1 := SG.l1
    have ple := posK_le k l
    by_cases hl : i < l.length
    · have i1 : (i : Int) < (l.length : Int) := by omega
      obtain ⟨b, _, q1, _, q3⟩ := el_at SG.own i hl
      obtain ⟨H, e, W2⟩ := kless_ok l[i].key k G
      have w1 : IntKind.i64.wrap ((i : Int) + 1) = ((i + 1 : Nat) : Int) := by
        have := S.len
        rw [IntWalk.i64_in _ (by omega)]; omega
      by_cases hn : n = 0
      · right
        subst hn
        obtain rfl : i = posK k l := by omega
        have hq := posK_at k l hl
        rw [hq] at e
        exact ⟨0, _, H, by simp [L123_0, r1, ln, i1, q1, q3, rdL_z, rdL_t, e], H, rfl, W.trans W2⟩
      · left
        have hq := posK_pre k l i hl (by omega)
        rw [hq] at e
        exact ⟨_, H, by simp [L123_0, r1, ln, i1, q1, q3, rdL_z, rdL_t, e, w1], n - 1, by omega, i + 1, by omega, W.trans W2, rfl⟩
    · right
      obtain rfl : i = posK k l := by omega
      have i1 : ¬ ((posK k l : Nat) : Int) < (l.length : Int) := by omega
      exact ⟨0, _, G, by simp [L123_0, r1, ln, i1], G, rfl, W⟩
  obtain ⟨_, e1, H, rfl, W⟩ := key
  have SG := S.went W
  have ln := Fw.Src.len SG.own.src
  have r1 := SG.l1
  refine ⟨H, ?_, W⟩
  rw [c123]
  unfold inK
  by_cases hl : posK k l < l.length
  · have i1 : ((posK k l : Nat) : Int) < (l.length : Int) := by omega
    obtain ⟨b, _, q1, _, q3⟩ := el_at SG.own _ hl
    have ce : (l[posK k l].a == k.1 && l[posK k l].i == k.2) = decide (l[posK k l].key = k) := by
      rw [Bool.eq_iff_iff]
      simp [Prod.ext_iff]
    rw [dif_pos hl]
    simp [S123, e1, r1, ln, i1, q1, q3, rdL_z, rdL_t, ce]
  · have i1 : ¬ ((posK k l : Nat) : Int) < (l.length : Int) := by omega
    rw [dif_neg hl]
    simp [S123, e1, r1, ln, i1]
theorem el_set {sl : AVal} {h : Heap} {n0 : Nat} {l : List Cd} (O : enE.Own sl h n0 l) (i : Nat) (hi : i < l.length) (c : Cd) :
    ∃ b H, slBlk sl = some b ∧ aIaddr 10 sl (.int .i64 i) = some (.ptr b (i * 10)) ∧ h.wr b (i * 10) c.ent = some H ∧ enE.Own sl H n0 (l.set i c) ∧ H.next = h.next ∧ ∀ b', b' ≠ b → H.blk b' = h.blk b' := by
  obtain ⟨hl, ⟨rfl, h0⟩ | ⟨b, ex, rfl, a1, a2, a3⟩⟩ := O
  · omega
  · have i1 : (i : Int) < (l.length : Int) := by omega
    have hw : h.wr b (i * 10) c.ent = some (h.setBlk b (some ⟨splice (enE.rws l) (i * 10) c.ent, true⟩)) := wr_of a3 _ _ (by rw [hl]; show i * 10 + 10 ≤ _; omega)
    refine ⟨b, _, rfl, by simp [aIaddr, aIdx, i1], hw, ⟨by simp, .inr ⟨b, ex, by simp, a1, a2, ?_⟩⟩, rfl, fun b' hb => setBlk_ne _ _ hb⟩
    rw [setBlk_same, ← enE.rws_set l i hi]
    rfl
abbrev zEn : List AVal := [.str [], .str [], .int .i64 0, .int .i64 0, .int .i64 0, .int .i64 0, .int .i64 0, .int .i64 0, .bool false, .int .i64 0]
theorem inK_in {k : Key} {l : List Cd} (hl : posK k l < l.length) (hk : l[posK k l].key = k) : inK k l = true := by
  unfold inK; rw [dif_pos hl, decide_eq_true hk]
theorem inK_ne {k : Key} {l : List Cd} (hl : posK k l < l.length) (hk : ¬ l[posK k l].key = k) : inK k l = false := by
  unfold inK; rw [dif_pos hl, decide_eq_false hk]
theorem inK_no {k : Key} {l : List Cd} (hl : ¬ posK k l < l.length) : inK k l = false := by
  unfold inK; rw [dif_neg hl]
theorem inK_cases (k : Key) (l : List Cd) : (∃ hl : posK k l < l.length, l[posK k l].key = k ∧ inK k l = true) ∨ ((∀ hl : posK k l < l.length, l[posK k l].key ≠ k) ∧ inK k l = false) := by
  by_cases hl : posK k l < l.length
  · by_cases hk : l[posK k l].key = k
    · exact .inl ⟨hl, hk, inK_in hl hk⟩
    · exact .inr ⟨fun _ => hk, inK_ne hl hk⟩
  · exact .inr ⟨fun h => (hl h).elim, inK_no hl⟩
theorem get_in {f : Nat} {sl : AVal} {h : Heap} {l : List Cd} (S : Sh f sl h l) {k : Key} (hl : posK k l < l.length) (hk : l[posK k l].key = k) :
    ∃ H, E tbl 85 [.ptr f 0, .agg [.str k.1, .str k.2]] h = some (.tuple [.agg l[posK k l].ent, .bool true], H) ∧ Went h H := by
  obtain ⟨H, e, W⟩ := find_ok S k
  rw [inK_in hl hk] at e
  refine ⟨H, ?_, W⟩
  have SG := S.went W
  have r1 := SG.l1
  obtain ⟨b, _, q1, q2, _⟩ := el_at SG.own _ hl
  rw [c85]
  simp [S85, e, r1, q1, q2, rdL_z, rdL_t, rdL_s]
theorem get_no {f : Nat} {sl : AVal} {h : Heap} {l : List Cd} (S : Sh f sl h l) {k : Key} (hn : inK k l = false) :
    ∃ H, E tbl 85 [.ptr f 0, .agg [.str k.1, .str k.2]] h = some (.tuple [.agg zEn, .bool false], H) ∧ Went h H := by
  obtain ⟨H, e, W⟩ := find_ok S k
  rw [hn] at e
  refine ⟨H, ?_, W⟩
  rw [c85]
  simp [S85, e, rdL_z, rdL_t, rdL_s, aFill]
theorem put_in {f : Nat} {sl : AVal} {h : Heap} {l : List Cd} (S : Sh f sl h l) (c : Cd) (hl : posK c.key l < l.length) (hk : l[posK c.key l].key = c.key) :
    ∃ H, E tbl 88 [.ptr f 0, .agg c.ent] h = some (.int .i64 0, H) ∧ Sh f sl H (l.set (posK c.key l) c) ∧ Kp f h sl H sl := by
  obtain ⟨G, e, W⟩ := find_ok S c.key
  rw [inK_in hl hk] at e
  have SG := S.went W
  have r1 := SG.l1
  obtain ⟨b, H, hb, q1, q2, O, hn, ho⟩ := el_set SG.own _ hl c
  have hbf : b ≠ f := fun e => S.ne (by rw [hb, e])
  refine ⟨H, ?_, ⟨by rw [hn]; exact SG.lt, by rw [ho f (fun e => hbf e.symm), SG.at'], O, S.ne, by rw [List.length_set]; exact S.len⟩, (Kp.of_went W).trans ⟨by omega, fun b' _ _ h2 => ho b' fun e => h2 (by rw [hb, e]), fun _ h => .inl h⟩⟩
  rw [c88]
  simp [S88, e, r1, q1, q2, rdL_z, rdL_t, rdL_s]
theorem put_full {f : Nat} {sl : AVal} {h : Heap} {l : List Cd} (S : Sh f sl h l) (c : Cd) (hi : inK c.key l = false) (hf : 32 ≤ l.length) :
    ∃ H, E tbl 88 [.ptr f 0, .agg c.ent] h = some (.int .i64 24, H) ∧ Went h H := by
  obtain ⟨G, e, W⟩ := find_ok S c.key
  rw [hi] at e
  have SG := S.went W
  have r1 := SG.l1
  have r0 := SG.l0
  have ln := Fw.Src.len SG.own.src
  have q : (32 : Int) ≤ (l.length : Int) := by omega
  refine ⟨G, ?_, W⟩
  rw [c88]
  simp [S88, e, r1, r0, ln, q, rdL_z, rdL_t, rdL_s, beq_dec]
theorem leafs (c : Cd) : c.ent.all leafB = true := rfl
theorem leaf_rows : ∀ l : List Cd, (enE.rws l).all leafB = true
  | [] => rfl
  | c :: l => by rw [El.rws_cons, List.all_append, leaf_rows l]; rfl
theorem put_new {f : Nat} {sl : AVal} {h : Heap} {l : List Cd} (S : Sh f sl h l) (c : Cd) (hi : inK c.key l = false) (hf : l.length < 32) :
    ∃ sl' H, E tbl 88 [.ptr f 0, .agg c.ent] h = some (.int .i64 0, H) ∧ Sh f sl' H (l.take (posK c.key l) ++ c :: l.drop (posK c.key l)) ∧ Kp f h sl H sl' := by
  obtain ⟨G, e, W⟩ := find_ok S c.key
  rw [hi] at e
  have SG := S.went W
  have ple := posK_le c.key l
  have r1 : (G.alloc c.ent).rd f 1 1 = some [sl] := by rw [rd_blk (alloc_old _ _ (by have := SG.lt; omega)), SG.l1]
  have r0 := SG.l0
  have r1' := SG.l1
  have ln := Fw.Src.len SG.own.src
  have q : ¬ (32 : Int) ≤ (l.length : Int) := by omega
  have hrd : (G.alloc c.ent).rd G.next 0 10 = some c.ent := alloc_rd0 G c.ent 10 rfl
  have hlen : (l.take (posK c.key l) ++ c :: l.drop (posK c.key l)).length = l.length + 1 := by simp; omega
  have hrw : enE.rws (l.take (posK c.key l) ++ c :: l.drop (posK c.key l)) = (enE.rws l).take (posK c.key l * 10) ++ c.ent ++ (enE.rws l).drop (posK c.key l * 10) := by
    rw [El.rws_app, El.rws_cons, enE.rws_take, enE.rws_drop, List.append_assoc]
    rfl
  obtain ⟨X, hins, OX, KX⟩ : ∃ X, E tbl 128 [sl, .int .i64 (posK c.key l : Nat), .slice G.next 0 1 1 10 true] (G.alloc c.ent) = some (.slice (G.next + 1) 0 (l.length + 1) (l.length + 1) 10 false, X) ∧
      (X.next = G.next + 2 ∧ X.blk (G.next + 1) = some ⟨enE.rws (l.take (posK c.key l) ++ c :: l.drop (posK c.key l)), true⟩) ∧ ∀ b, b < G.next → slBlk sl ≠ some b → X.blk b = G.blk b := by
    obtain ⟨hl, ⟨rfl, h0⟩ | ⟨b, ex, rfl, a1, a2, a3⟩⟩ := SG.own
    · have p0 : posK c.key l = 0 := by omega
      refine ⟨(G.alloc c.ent).alloc c.ent, ?_, ⟨rfl, ?_⟩, fun b hb _ => ?_⟩
      · rw [c128, p0, h0]
        unfold Ins.sem
        simp only [Int.ofNat_eq_natCast, Int.cast_ofNat_Int, if_true, hrd, Option.bind_some, Nat.zero_add]
        rfl
      · rw [hrw]
        have l0 : l = [] := List.length_eq_zero_iff.1 h0
        subst l0
        rw [show G.next + 1 = (G.alloc c.ent).next from rfl, alloc_same]
        rfl
      · rw [alloc_old _ _ (by show b ≠ G.next + 1; omega), alloc_old _ _ (by omega)]
    · have hne : b ≠ G.next := by omega
      have b1 : (G.alloc c.ent).blk b = some ⟨enE.rws l, true⟩ := by rw [alloc_old _ _ hne, a3]
      have b2 : (G.alloc c.ent).blk G.next = some ⟨c.ent, true⟩ := alloc_same _ _
      have rdo : (G.alloc c.ent).rd b 0 (l.length * 10) = some (enE.rws l) := by
        rw [rd_of b1 0 _ (by rw [hl]; omega)]
        simp only [List.drop_zero]
        rw [List.take_of_length_le (by rw [hl]; omega)]
      refine ⟨((G.alloc c.ent).alloc ((enE.rws l).take (posK c.key l * 10) ++ c.ent ++ (enE.rws l).drop (posK c.key l * 10))).setBlk b none, ?_, ⟨rfl, ?_⟩, fun b' hb h2 => ?_⟩
      · rw [c128]
        unfold Ins.sem
        simp only [b1, b2]
        rw [if_pos ⟨hne, by omega, by omega, by omega⟩, rdo, hrd]
        simp only [Option.bind_some]
        rw [if_pos (by rw [List.all_append, leaf_rows, leafs]; rfl)]
        simp only [Int.toNat_natCast]
        rfl
      · rw [setBlk_ne _ _ (by omega), show G.next + 1 = (G.alloc c.ent).next from rfl, alloc_same, hrw]
      · have : b' ≠ b := fun e => h2 (by rw [e]; rfl)
        rw [setBlk_ne _ _ this, alloc_old _ _ (by show b' ≠ G.next + 1; omega), alloc_old _ _ (by omega)]
  have hfb : X.blk f = some ⟨[.int .i64 32, sl], true⟩ := by rw [KX f SG.lt SG.ne, SG.at']
  have hw : X.wr f 1 [.slice (G.next + 1) 0 (l.length + 1) (l.length + 1) 10 false] = some (X.setBlk f (some ⟨[.int .i64 32, .slice (G.next + 1) 0 (l.length + 1) (l.length + 1) 10 false], true⟩)) := wr_of hfb 1 _ (by simp)
  have lf := SG.lt
  have hc : aCells 1 (.slice (G.next + 1) 0 (l.length + 1) (l.length + 1) 10 false) = some [.slice (G.next + 1) 0 (l.length + 1) (l.length + 1) 10 false] := rfl
  have hs : stays (.rd f 1 1) (.al G.next) = true := by simp [stays, beq_dec]; omega
  refine ⟨.slice (G.next + 1) 0 (l.length + 1) (l.length + 1) 10 false, X.setBlk f (some ⟨[.int .i64 32, .slice (G.next + 1) 0 (l.length + 1) (l.length + 1) 10 false], true⟩), ?_, ⟨by show f < X.next; omega, setBlk_same _ _ _, ?_, fun e => by cases e; omega, by omega⟩, (Kp.of_went W).trans ⟨by show G.next ≤ X.next; omega, fun b hb h1 h2 => by rw [setBlk_ne _ _ h1, KX b hb h2], fun b e => by cases e; exact .inr (by omega)⟩⟩
  · rw [c88]
    simp [S88, e, r1, r1', r0, ln, q, rdL_z, rdL_t, rdL_s, hins, hw, checkPairs, hc, hs]
  · refine ⟨by rw [El.rws_len], .inr ⟨G.next + 1, false, by rw [hlen], by omega, by show G.next + 1 < X.next; omega, ?_⟩⟩
    rw [setBlk_ne _ _ (by omega), OX.2]
end Go.Proofs.YtinkiihdnepfjaaGreatDoor.Code
set_option maxRecDepth 100000
namespace Go.Proofs.YtinkiihdnepfjaaGreatDoor.Code
open Go.Fw
structure Rw (r : Nat) (rl : AVal) (h : Heap) (ks : List Ky) : Prop where
  lt : r < h.next
  at' : ∃ q : Int, h.blk r = some ⟨[.int .i64 q, rl], true⟩
  own : kyE.Own rl h 0 ks
  ne : slBlk rl ≠ some r
  len : ks.length ≤ 16
theorem Rw.went {r : Nat} {rl : AVal} {h H : Heap} {ks : List Ky} (R : Rw r rl h ks) (W : Went h H) : Rw r rl H ks :=
  ⟨Nat.lt_of_lt_of_le R.lt W.next, by obtain ⟨q, e⟩ := R.at'; exact ⟨q, by rw [W.old r R.lt, e]⟩, W.own R.own, R.ne, R.len⟩
theorem add_ok {r : Nat} {rl : AVal} {h : Heap} {ks : List Ky} (R : Rw r rl h ks) (k : Key) :
    ∃ v rl' H ks', E tbl 127 [.ptr r 0, .agg [.str k.1, .str k.2]] h = some (v, H) ∧ Rw r rl' H ks' ∧ Kp r h rl H rl' := by
  obtain ⟨q, hq⟩ := R.at'
  have hl := R.len
  have lt := R.lt
  have w0 : h.rd r 0 1 = some [.int .i64 q] := rd_of hq 0 1 (by simp)
  -- the number
  let q' := IntKind.i64.wrap (q + 1)
  have e1 : h.wr r 0 [.int .i64 q'] = some (h.setBlk r (some ⟨[.int .i64 q', rl], true⟩)) := wr_of hq 0 _ (by simp)
  let h1 := h.setBlk r (some ⟨[.int .i64 q', rl], true⟩)
  have b1 : h1.blk r = some ⟨[.int .i64 q', rl], true⟩ := setBlk_same _ _ _
  have O1 : kyE.Own rl h1 0 ks := Fw.Own.kept R.own (Nat.le_refl _) fun b hb => setBlk_ne _ _ fun e => R.ne (by rw [hb, e])
  obtain ⟨s2, h2, e2, O2, K2⟩ := El.Own.snoc (bytes := 32) (zero := [.str [], .str []]) O1 (k.1, k.2) (Nat.zero_le _) (by omega) (by omega)
  rw [kyE_f] at e2
  have n2 := K2.next
  have hn1 : h1.next = h.next := rfl
  have b2 : h2.blk r = some ⟨[.int .i64 q', rl], true⟩ := by rw [K2.old r (by omega) R.ne, b1]
  have l2 : (h1.alloc [.str k.1, .str k.2]).rd r 1 1 = some [rl] := by rw [rd_blk (alloc_old _ _ (by omega)), rd_of b1 1 1 (by simp)]; rfl
  have l1 : h1.rd r 1 1 = some [rl] := by rw [rd_of b1 1 1 (by simp)]; rfl
  have e3 : h2.wr r 1 [s2] = some (h2.setBlk r (some ⟨[.int .i64 q', s2], true⟩)) := wr_of b2 1 _ (by simp)
  have sr2 : slBlk s2 ≠ some r := fun e => (K2.blk r e).elim R.ne fun h => by omega
  let h3 := h2.setBlk r (some ⟨[.int .i64 q', s2], true⟩)
  have b3 : h3.blk r = some ⟨[.int .i64 q', s2], true⟩ := setBlk_same _ _ _
  have O3 : kyE.Own s2 h3 0 (ks ++ [(k.1, k.2)]) := Fw.Own.kept O2 (Nat.le_refl _) fun b hb => setBlk_ne _ _ fun e => sr2 (by rw [hb, e])
  have l3 : h3.rd r 1 1 = some [s2] := by rw [rd_of b3 1 1 (by simp)]; rfl
  have ln3 := Fw.Src.len O3.src
  have hlen : (ks ++ [(k.1, k.2)]).length = ks.length + 1 := by simp
  obtain ⟨s4, e4, S4, R4, B4⟩ := El.Src.part O3.src O3.room (some (ks.length + 1 - 16)) none (ks.length + 1 - 16) (ks.length + 1) rfl (by simp) (by omega) (by omega)
  obtain ⟨s5, h5, e5, O5, W5⟩ := El.Src.clone (bytes := 32) (zero := [.str [], .str []]) S4 (by simp; omega) (by simp; omega)
  have n5 := W5.next
  have hn3 : h3.next = h2.next := rfl
  have b5 : h5.blk r = some ⟨[.int .i64 q', s2], true⟩ := by rw [W5.old r (by omega), b3]
  have e6 : h5.wr r 1 [s5] = some (h5.setBlk r (some ⟨[.int .i64 q', s5], true⟩)) := wr_of b5 1 _ (by simp)
  have sr5 : slBlk s5 ≠ some r := fun e => by have := (Fw.Own.blk O5 r e).1; omega
  let h6 := h5.setBlk r (some ⟨[.int .i64 q', s5], true⟩)
  have b6 : h6.blk r = some ⟨[.int .i64 q', s5], true⟩ := setBlk_same _ _ _
  have l6 : h6.rd r 0 1 = some [.int .i64 q'] := by rw [rd_of b6 0 1 (by simp)]; rfl
  have O6 : kyE.Own s5 h6 0 (((ks ++ [(k.1, k.2)]).drop (ks.length + 1 - 16)).take (ks.length + 1 - (ks.length + 1 - 16))) := Fw.Own.base (Fw.Own.kept O5 (h' := h6) (Nat.le_refl _) fun b hb => setBlk_ne h5 _ fun e => sr5 (by rw [hb, e])) (Nat.zero_le _)
  have w16 : IntKind.i64.wrap (((ks ++ [(k.1, k.2)]).length : Int) - 16) = ((ks.length : Int) + 1 - 16) := by rw [IntWalk.i64_in _ (by omega)]; omega
  have mx : max (0 : Int) ((ks.length : Int) + 1 - 16) = ((ks.length + 1 - 16 : Nat) : Int) := by omega
  have e4' : aSliceSl 2 s2 (some (.int .i64 ((ks.length + 1 - 16 : Nat) : Int))) none none = some s4 := e4
  have c5 : E tbl 158 [s4] h3 = some (s5, h5) := by
    rw [c158, show S158 (E tbl) s4 h3 = cloneS 2 32 [.str [], .str []] s4 h3 from rfl, e5]
    rfl
  have hs : stays (.rd r 1 1) (.al h.next) = true := by simp [stays, beq_dec]; omega
  have a1 : aCells 1 s2 = some [s2] := by
    obtain ⟨_, ⟨rfl, _⟩ | ⟨b, ex, rfl, _⟩⟩ := O2 <;> rfl
  have a5 : aCells 1 s5 = some [s5] := by
    obtain ⟨_, ⟨rfl, _⟩ | ⟨b, ex, rfl, _⟩⟩ := O5 <;> rfl
  refine ⟨.int .i64 q', s5, h6, _, ?_, ⟨by show r < h5.next; omega, ⟨q', b6⟩, O6, sr5, ?_⟩, ⟨by show h.next ≤ h5.next; omega, fun b hb h1' h2' => ?_, fun b hb => .inr ?_⟩⟩
  · rw [c127]
    have e1' : h.wr r 0 [.int .i64 (IntKind.i64.wrap (q + 1))] = some h1 := e1
    have e3' : h2.wr r 1 [s2] = some h3 := e3
    have e6' : h5.wr r 1 [s5] = some h6 := e6
    have e2' : aAppend 2 32 [.str [], .str []] false rl (.slice h1.next 0 1 1 2 true) (h1.alloc [.str k.1, .str k.2]) = some (s2, h2) := e2
    have ln3' : aLen false s2 = some (.int .i64 ((ks.length : Int) + 1)) := by rw [ln3, hlen]; rfl
    have w16' : IntKind.i64.wrap ((ks.length : Int) + 1 - 16) = (ks.length : Int) + 1 - 16 := by rw [IntWalk.i64_in _ (by omega)]
    rw [show ks.length + 1 - 16 = ks.length - 15 by omega] at e4' mx
    have hs' : stays (.rd r 1 1) (.al h1.next) = true := hs
    simp [S127, w0, e1', l1, rdL_z, rdL_t, rdL_s, e2', a1, e3', hs', l3, ln3', w16', mx, e4', c5, a5, e6', l6, checkPairs]
  · simp; omega
  · show (h5.setBlk r _).blk b = _
    rw [setBlk_ne _ _ h1', W5.old b (by omega), show h3.blk b = h2.blk b from setBlk_ne _ _ h1', K2.old b (by omega) h2']
    exact setBlk_ne _ _ h1'
  · have := (Fw.Own.blk O5 b hb).1
    omega
end Go.Proofs.YtinkiihdnepfjaaGreatDoor.Code
set_option maxRecDepth 100000
namespace Go.Proofs.YtinkiihdnepfjaaGreatDoor.Code
open Go.Fw
structure At where
  s : Nat
  d : Nat
  f : Nat
  r : Nat
structure Sv (a : At) (sl rl : AVal) (h : Heap) (l : List Cd) : Prop where
  slt : a.s < h.next
  dlt : a.d < h.next
  s' : ∃ c1 c2 c3 c5, h.blk a.s = some ⟨[.int .i64 0, c1, c2, c3, .ptr a.d 0, c5], true⟩
  d' : ∃ c0 c1 c2 c3 c5, h.blk a.d = some ⟨[c0, c1, c2, c3, .ptr a.f 0, c5, .ptr a.r 0], true⟩
  sh : Sh a.f sl h l
  row : ∃ ks, Rw a.r rl h ks
  ne : a.f ≠ a.r ∧ a.f ≠ a.d ∧ a.f ≠ a.s ∧ a.r ≠ a.d ∧ a.r ≠ a.s
  sln : ∀ b, slBlk sl = some b → b ≠ a.s ∧ b ≠ a.d ∧ b ≠ a.r
  rln : ∀ b, slBlk rl = some b → b ≠ a.s ∧ b ≠ a.d ∧ b ≠ a.f
  ap : ∀ b, slBlk sl = some b → slBlk rl ≠ some b
  sorted : Sorted l
structure Off (a : At) (sl rl : AVal) (h : Heap) (b : Nat) : Prop where
  lt : b < h.next
  f : b ≠ a.f
  r : b ≠ a.r
  sl : slBlk sl ≠ some b
  rl : slBlk rl ≠ some b
structure Kv (a : At) (h : Heap) (sl rl : AVal) (H : Heap) (sl' rl' : AVal) : Prop where
  next : h.next ≤ H.next
  old : ∀ b, Off a sl rl h b → H.blk b = h.blk b
  bs : ∀ b, slBlk sl' = some b → slBlk sl = some b ∨ h.next ≤ b
  br : ∀ b, slBlk rl' = some b → slBlk rl = some b ∨ h.next ≤ b
theorem Kv.of_went {a : At} {h H : Heap} {sl rl : AVal} (W : Went h H) : Kv a h sl rl H sl rl := ⟨W.next, fun b hb => W.old b hb.lt, fun _ h => .inl h, fun _ h => .inl h⟩
theorem Kv.off {a : At} {h H : Heap} {sl rl sl' rl' : AVal} (K : Kv a h sl rl H sl' rl') {b : Nat} (O : Off a sl rl h b) : Off a sl' rl' H b :=
  ⟨Nat.lt_of_lt_of_le O.lt K.next, O.f, O.r, fun e => (K.bs b e).elim O.sl fun h => by have := O.lt; omega, fun e => (K.br b e).elim O.rl fun h => by have := O.lt; omega⟩
theorem Kv.trans {a : At} {x y z : Heap} {s1 r1 s2 r2 s3 r3 : AVal} (p : Kv a x s1 r1 y s2 r2) (q : Kv a y s2 r2 z s3 r3) : Kv a x s1 r1 z s3 r3 :=
  ⟨Nat.le_trans p.next q.next, fun b O => by rw [q.old b (p.off O), p.old b O], fun b e => (q.bs b e).elim (p.bs b) fun h => .inr (Nat.le_trans p.next h), fun b e => (q.br b e).elim (p.br b) fun h => .inr (Nat.le_trans p.next h)⟩
theorem Sv.same {a : At} {sl rl : AVal} {h H : Heap} {l : List Cd} (S : Sv a sl rl h l) (hn : h.next ≤ H.next) (hb : ∀ b, b < h.next → (b = a.s ∨ b = a.d ∨ b = a.f ∨ b = a.r ∨ slBlk sl = some b ∨ slBlk rl = some b) → H.blk b = h.blk b) : Sv a sl rl H l where
  slt := Nat.lt_of_lt_of_le S.slt hn
  dlt := Nat.lt_of_lt_of_le S.dlt hn
  s' := by rw [hb _ S.slt (.inl rfl)]; exact S.s'
  d' := by rw [hb _ S.dlt (.inr (.inl rfl))]; exact S.d'
  sh := ⟨Nat.lt_of_lt_of_le S.sh.lt hn, by rw [hb _ S.sh.lt (.inr (.inr (.inl rfl))), S.sh.at'], Fw.Own.kept S.sh.own hn fun b e => hb b (Fw.Own.blk S.sh.own b e).2 (.inr (.inr (.inr (.inr (.inl e))))), S.sh.ne, S.sh.len⟩
  row := by
    obtain ⟨ks, R⟩ := S.row
    obtain ⟨q, e⟩ := R.at'
    exact ⟨ks, Nat.lt_of_lt_of_le R.lt hn, ⟨q, by rw [hb _ R.lt (.inr (.inr (.inr (.inl rfl)))), e]⟩, Fw.Own.kept R.own hn fun b e => hb b (Fw.Own.blk R.own b e).2 (.inr (.inr (.inr (.inr (.inr e))))), R.ne, R.len⟩
  ne := S.ne
  sln := S.sln
  rln := S.rln
  ap := S.ap
  sorted := S.sorted
theorem Sv.went {a : At} {sl rl : AVal} {h H : Heap} {l : List Cd} (S : Sv a sl rl h l) (W : Went h H) : Sv a sl rl H l := S.same W.next fun b hb _ => W.old b hb
theorem Sv.shelf {a : At} {sl rl sl' : AVal} {h H : Heap} {l l' : List Cd} (S : Sv a sl rl h l) (T : Sh a.f sl' H l') (K : Kp a.f h sl H sl') (s : Sorted l') : Sv a sl' rl H l' ∧ Kv a h sl rl H sl' rl := by
  obtain ⟨ks, R⟩ := S.row
  obtain ⟨q, e⟩ := R.at'
  obtain ⟨n1, n2, n3, n4, n5⟩ := S.ne
  have bl := fun b e => (Fw.Own.blk R.own b e).2
  refine ⟨⟨Nat.lt_of_lt_of_le S.slt K.next, Nat.lt_of_lt_of_le S.dlt K.next, ?_, ?_, T, ⟨ks, Nat.lt_of_lt_of_le R.lt K.next, ⟨q, ?_⟩, ?_, R.ne, R.len⟩, S.ne, ?_, S.rln, ?_, s⟩, ⟨K.next, fun b O => K.old b O.lt O.f O.sl, K.blk, fun b h => .inl h⟩⟩
  · rw [K.old _ S.slt (fun e => n3 e.symm) fun e => (S.sln _ e).1 rfl]; exact S.s'
  · rw [K.old _ S.dlt (fun e => n2 e.symm) fun e => (S.sln _ e).2.1 rfl]; exact S.d'
  · rw [K.old _ R.lt (fun e => n1 e.symm) (fun e => (S.sln _ e).2.2 rfl), e]
  · exact Fw.Own.kept R.own K.next fun b hb => K.old b (bl b hb) (S.rln b hb).2.2 fun e => S.ap b e hb
  · intro b hb
    rcases K.blk b hb with h1 | h1
    · exact S.sln b h1
    · have := S.slt; have := S.dlt; have := R.lt
      exact ⟨by omega, by omega, by omega⟩
  · intro b hb hr
    rcases K.blk b hb with h1 | h1
    · exact S.ap b h1 hr
    · have := bl b hr; omega
theorem Sv.rows {a : At} {sl rl rl' : AVal} {h H : Heap} {l : List Cd} {ks : List Ky} (S : Sv a sl rl h l) (T : Rw a.r rl' H ks) (K : Kp a.r h rl H rl') : Sv a sl rl' H l ∧ Kv a h sl rl H sl rl' := by
  obtain ⟨n1, n2, n3, n4, n5⟩ := S.ne
  have bl := fun b e => (Fw.Own.blk S.sh.own b e).2
  refine ⟨⟨Nat.lt_of_lt_of_le S.slt K.next, Nat.lt_of_lt_of_le S.dlt K.next, ?_, ?_, ⟨Nat.lt_of_lt_of_le S.sh.lt K.next, ?_, ?_, S.sh.ne, S.sh.len⟩, ⟨ks, T⟩, S.ne, S.sln, ?_, ?_, S.sorted⟩, ⟨K.next, fun b O => K.old b O.lt O.r O.rl, fun b h => .inl h, K.blk⟩⟩
  · rw [K.old _ S.slt (fun e => n5 e.symm) fun e => (S.rln _ e).1 rfl]; exact S.s'
  · rw [K.old _ S.dlt (fun e => n4 e.symm) fun e => (S.rln _ e).2.1 rfl]; exact S.d'
  · rw [K.old _ S.sh.lt n1 (fun e => (S.rln _ e).2.2 rfl), S.sh.at']
  · exact Fw.Own.kept S.sh.own K.next fun b hb => K.old b (bl b hb) (S.sln b hb).2.2 fun e => S.ap b hb e
  · intro b hb
    rcases K.blk b hb with h1 | h1
    · exact S.rln b h1
    · have := S.slt; have := S.dlt; have := S.sh.lt
      exact ⟨by omega, by omega, by omega⟩
  · intro b hb hr
    rcases K.blk b hr with h1 | h1
    · exact S.ap b hb h1
    · have := bl b hb; omega
theorem Sv.d4 {a : At} {sl rl : AVal} {h : Heap} {l : List Cd} (S : Sv a sl rl h l) : h.rd a.d 4 1 = some [.ptr a.f 0] := by obtain ⟨_, _, _, _, _, e⟩ := S.d'; exact rd_of e 4 1 (by simp)
theorem Sv.d6 {a : At} {sl rl : AVal} {h : Heap} {l : List Cd} (S : Sv a sl rl h l) : h.rd a.d 6 1 = some [.ptr a.r 0] := by obtain ⟨_, _, _, _, _, e⟩ := S.d'; exact rd_of e 6 1 (by simp)
theorem Sv.s4 {a : At} {sl rl : AVal} {h : Heap} {l : List Cd} (S : Sv a sl rl h l) : h.rd a.s 4 1 = some [.ptr a.d 0] := by obtain ⟨_, _, _, _, e⟩ := S.s'; exact rd_of e 4 1 (by simp)
theorem Sv.s0 {a : At} {sl rl : AVal} {h : Heap} {l : List Cd} (S : Sv a sl rl h l) : h.rd a.s 0 1 = some [.int .i64 0] := by obtain ⟨_, _, _, _, e⟩ := S.s'; exact rd_of e 0 1 (by simp)
theorem set_put {a : At} {sl rl sl' : AVal} {h H : Heap} {l l' : List Cd} (S : Sv a sl rl h l) (c : Cd) (e : E tbl 88 [.ptr a.f 0, .agg c.ent] h = some (.int .i64 0, H)) (T : Sh a.f sl' H l') (K : Kp a.f h sl H sl') (s : Sorted l') :
    ∃ rl' G, E tbl 87 [.ptr a.d 0, .agg c.ent] h = some (.int .i64 0, G) ∧ Sv a sl' rl' G l' ∧ Kv a h sl rl G sl' rl' := by
  obtain ⟨S1, K1⟩ := S.shelf T K s
  obtain ⟨ks, R⟩ := S1.row
  obtain ⟨v, rl', G, ks', e2, R2, K2⟩ := add_ok R (c.a, c.i)
  obtain ⟨S2, K3⟩ := S1.rows R2 K2
  refine ⟨rl', G, ?_, S2, K1.trans K3⟩
  have r4 := S.d4
  have r6 := S1.d6
  have e2' : E tbl 127 [.ptr a.r 0, .agg [.str c.a, .str c.i]] H = some (v, G) := e2
  rw [c87]
  simp [S87, r4, r6, e, e2', rdL_z, rdL_t, rdL_s]
theorem set_full {a : At} {sl rl : AVal} {h : Heap} {l : List Cd} (S : Sv a sl rl h l) (c : Cd) (hi : inK c.key l = false) (hf : 32 ≤ l.length) :
    ∃ G, E tbl 87 [.ptr a.d 0, .agg c.ent] h = some (.int .i64 24, G) ∧ Went h G := by
  obtain ⟨G, e, W⟩ := put_full S.sh c hi hf
  refine ⟨G, ?_, W⟩
  have r4 := S.d4
  rw [c87]
  simp [S87, r4, e, rdL_z, rdL_t, rdL_s]
end Go.Proofs.YtinkiihdnepfjaaGreatDoor.Code
