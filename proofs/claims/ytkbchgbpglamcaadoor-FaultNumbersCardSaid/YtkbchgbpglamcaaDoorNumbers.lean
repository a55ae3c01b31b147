/- Chapter 1: errors.Join; FaultNumbers. -/
import Derived.Test.YtkbchgbpglamcaaDoorFin
namespace Go.Proofs.YtkbchgbpglamcaaDoor.Code
set_option linter.unusedSimpArgs false
set_option linter.unusedVariables false
open Go.Fw

@[simp] theorem aCells_iface (t : Nat) (v : AVal) : aCells 1 (.iface t v) = some [.iface t v] := rfl
@[simp] theorem aCells_slice (b o n c e : Nat) (x : Bool) : aCells 1 (.slice b o n c e x) = some [.slice b o n c e x] := rfl

section
variable {h : Heap} {s : AVal} {l : List AVal}
theorem elem1 (S : Src 1 s h 2 l) (i : Nat) (hi : i < 2) {v : AVal} (hv : l[i]? = some v) : ∃ p, aIaddr 1 s (.int .i64 i) = some p ∧ aLoad h 1 p = some [v] := by
  obtain ⟨p, e1, e2⟩ := S.at i hi
  refine ⟨p, e1, ?_⟩
  rw [e2, Nat.mul_one, List.drop_eq_getElem_cons (by have := S.1; omega)]
  have : l[i]'(by have := S.1; omega) = v := by rw [List.getElem?_eq_getElem (by have := S.1; omega)] at hv; simpa using hv
  simp [this]

/-- One round of the count. -/
theorem count_step (S : Src 1 s h 2 l) (i : Nat) (hi : i < 2) {t : Nat} {x : AVal} (hv : l[i]? = some (.iface t x)) :
    L18_0 (E tbl) [s, .int .i64 i, s, .int .i64 2, .int .i64 i] h = some (0, [s, .int .i64 ((i + 1 : Nat) : Int), s, .int .i64 2, .int .i64 ((i + 1 : Nat) : Int)], h) := by
  obtain ⟨p, e1, e2⟩ := elem1 S i hi hv
  have i1 : (i : Int) < 2 := by omega
  have w1 : IntKind.i64.wrap ((i : Int) + 1) = (i : Int) + 1 := by rw [IntWalk.i64_in _ (by omega)]
  simp [L18_0, i1, e1, e2, w1]
theorem count_end : L18_0 (E tbl) [s, .int .i64 2, s, .int .i64 2, .int .i64 2] h = some (1, [s, .int .i64 2], h) := by
  simp [L18_0]

/-- One round of the filling. -/
theorem fill_step {b n0 m : Nat} {o : AVal} {done : List AVal} (S : Src 1 s h 2 l) (i : Nat) (hi : i < 2) {t : Nat} {x : AVal} (hv : l[i]? = some (.iface t x)) (O : Buf 1 o h n0 m done) (hm : m ≤ 10) (hn : n0 ≤ h.next)
    (hb : h.blk b = some ⟨[o], true⟩) (hlt : b < h.next) (hnb : ∀ c, slBlk o = some c → c ≠ b) :
    ∃ o' H, L18_1 (E tbl) [.ptr b 0, s, .int .i64 2, .int .i64 i] h = some (0, [.ptr b 0, s, .int .i64 2, .int .i64 ((i + 1 : Nat) : Int)], H) ∧ Buf 1 o' H n0 (m + 1) (done ++ [.iface t x]) ∧ H.blk b = some ⟨[o'], true⟩ ∧ h.next ≤ H.next ∧
      (∀ c, c < h.next → c ≠ b → slBlk o ≠ some c → H.blk c = h.blk c) ∧ (∀ c, slBlk o' = some c → c ≠ b) := by
  obtain ⟨p, e1, e2⟩ := elem1 S i hi hv
  have i1 : (i : Int) < 2 := by omega
  have w1 : IntKind.i64.wrap ((i : Int) + 1) = (i : Int) + 1 := by rw [IntWalk.i64_in _ (by omega)]
  obtain ⟨o', G, e3, O2, K⟩ := Buf.snoc (bytes := 16) (zero := [.nilIface]) (news := [.iface t x]) O (by omega) rfl hn (by omega) (by omega)
  have hbG : G.blk b = some ⟨[o], true⟩ := by
    rw [K.old b hlt fun hh => hnb b hh rfl]; exact hb
  have hc : aCells 1 o' = some [o'] := O2.cell
  have hno : ∀ c, slBlk o' = some c → c ≠ b := fun c hh => by
    rcases K.blk c hh with h1 | h1
    · exact hnb c h1
    · omega
  refine ⟨o', G.setBlk b (some ⟨[o'], true⟩), ?_, O2.kept (by simp) fun c hc => Heap.setBlk_other _ _ (hno c hc), by simp, by simpa using K.next, fun c h1 h2 h3 => ?_, hno⟩
  · simp [L18_1, i1, e1, e2, w1, rd_bind, hb, e3, hc, wr_bind, hbG, beq_dec]
  · rw [Heap.setBlk_other _ _ h2, K.old c h1 h3]
theorem fill_end {b : Nat} : L18_1 (E tbl) [.ptr b 0, s, .int .i64 2, .int .i64 2] h = some (1, [.ptr b 0], h) := by
  simp [L18_1]
end

theorem join_ok {h : Heap} {N : Nat} {s : AVal} {t1 t2 : Nat} {x1 x2 : AVal} {a b : Er} (S : Src 1 s h 2 [.iface t1 x1, .iface t2 x2]) (hN : N ≤ h.next) (ra : Rep h N a (.iface t1 x1)) (rb : Rep h N b (.iface t2 x2)) :
    ∃ v H, E tbl 18 [s] h = some (v, H) ∧ Rep H H.next (.join a b) v ∧ Went h H := by
  have el := S.len
  have e1 : loop (L18_0 (E tbl)) [s, .int .i64 0, s, .int .i64 2, .int .i64 0] h = some (1, [s, .int .i64 2], h) :=
    (loop_more (count_step S 0 (by omega) rfl)).trans ((loop_more (count_step S 1 (by omega) rfl)).trans (loop_done count_end))
  have e2 : aMkSlice 1 16 [.nilIface] (.int .i64 0) (.int .i64 2) h = some (.slice h.next 0 0 2 1 true, h.alloc [.nilIface, .nilIface]) := by
    simp [aMkSlice, reps]
  have W0 : Went h ((h.alloc [.nilIface, .nilIface]).alloc [.slice h.next 0 0 2 1 true]) := (Went.alloc _ _).trans (Went.alloc _ _)
  have hx : ((h.alloc [.nilIface, .nilIface]).alloc [.slice h.next 0 0 2 1 true]).next = h.next + 2 := rfl
  have hb0 : ((h.alloc [.nilIface, .nilIface]).alloc [.slice h.next 0 0 2 1 true]).blk (h.next + 1) = some ⟨[.slice h.next 0 0 2 1 true], true⟩ := alloc_same (h.alloc [.nilIface, .nilIface]) _
  have hb1 : ((h.alloc [.nilIface, .nilIface]).alloc [.slice h.next 0 0 2 1 true]).blk h.next = some ⟨[.nilIface, .nilIface], true⟩ := by
    rw [Heap.alloc_other _ _ (by simp)]; exact alloc_same _ _
  generalize hG : (h.alloc [.nilIface, .nilIface]).alloc [.slice h.next 0 0 2 1 true] = G0 at *
  have O0 : Buf 1 (.slice h.next 0 0 2 1 true) G0 h.next 0 [] := ⟨rfl, .inr ⟨h.next, true, 2, [.nilIface, .nilIface], rfl, Nat.le_refl _, by omega, rfl, hb1⟩⟩
  obtain ⟨o1, G1, f1, O1, g1, n1, k1, q1⟩ := fill_step (l := [.iface t1 x1, .iface t2 x2]) (W0.src S) 0 (by omega) rfl O0 (by omega) (by omega) hb0 (by omega) (fun c hc => by cases hc; omega)
  have W1 : Went h G1 := ⟨by omega, fun c hc => by rw [k1 c (by omega) (by omega) (fun hh => by cases hh; omega), W0.old c hc]⟩
  obtain ⟨o2, G2, f2, O2, g2, n2, k2, q2⟩ := fill_step (l := [.iface t1 x1, .iface t2 x2]) (W1.src S) 1 (by omega) rfl O1 (by omega) (by omega) g1 (by omega) q1
  have W2 : Went h G2 := ⟨by omega, fun c hc => by rw [k2 c (by omega) (by omega) (fun hh => by have := (O1.blk c hh).1; omega), W1.old c hc]⟩
  have e3 : loop (L18_1 (E tbl)) [.ptr (h.next + 1) 0, s, .int .i64 2, .int .i64 0] G0 = some (1, [.ptr (h.next + 1) 0], G2) :=
    (loop_more f1).trans ((loop_more f2).trans (loop_done fill_end))
  refine ⟨.iface 61 (.ptr (h.next + 1) 0), G2, ?_, ?_, W2⟩
  · have el' : aLen false s = some (.int .i64 2) := el
    rw [c18]
    simp [S18, el', e1, e2, hG, e3, beq_dec]
  · exact ⟨h.next + 1, o2, _, _, true, rfl, by omega, g2, O2.src, fun c hc => (O2.blk c hc).2, ra.mono (by omega) W2.next fun c hc => W2.old c (by omega), rb.mono (by omega) W2.next fun c hc => W2.old c (by omega)⟩

theorem enc_len (r : Int) : (Utf8.encode r).data.toList.length ≤ 4 := by
  unfold Utf8.encode
  generalize (if Utf8.valid r = true then r.toNat else Utf8.runeError) = c
  dsimp only
  split
  · simp
  · split
    · simp
    · split <;> simp

theorem codes_ok {G : Heap} (Y : Rdy G) {o : AVal} {l : List (List UInt8)} (S : SrcT o G l) (hl : l.length ≤ 20) (hlt : ∀ t ∈ l, t.length ≤ 281474976710656) (v : AVal) :
    ∃ H, loop (L6_1 (E tbl)) [o, v, .int .i64 (-1)] G = some (1, [o, v], H) ∧ Went G H := by
  have inner : ∃ res, loop (L6_1 (E tbl)) [o, v, .int .i64 (-1)] G = some res ∧ ∃ H, res = (1, [o, v], H) ∧ Went G H := by
    refine loop_ok (fun m xs K => ∃ c : Int, -1 ≤ c ∧ c + (m : Int) = 30 ∧ Went G K ∧ xs = [o, v, .int .i64 c]) _ ?_ 31 _ _ ⟨-1, by omega, by omega, Went.refl _, rfl⟩
    rintro m xs K ⟨c, hc1, hc2, WK, rfl⟩
    by_cases hc : c < 30
    · left
      obtain ⟨H, e1, WH⟩ := same_ok (WK.src S) (by omega) hlt c (by omega) (by omega) (Y.went WK)
      have w1 : IntKind.i64.wrap (c + 1) = c + 1 := by rw [IntWalk.i64_in _ (by omega)]
      refine ⟨_, H, ?_, m - 1, by omega, c + 1, by omega, by omega, WK.trans WH, rfl⟩
      simp [L6_1, hc, e1, w1]
    · right
      exact ⟨0, _, K, by simp [L6_1, hc], K, rfl, WK⟩
  obtain ⟨res, e1, H, rfl, WH⟩ := inner
  exact ⟨H, e1, WH⟩

theorem conv_rune (k : IntKind) (n : Int) (G : Heap) : aConv .intStr (.int k n) G = some (.str (Utf8.encode n).data.toList, G) := rfl

/-- Faults of each code, as deep as twenty. -/
theorem grid_ok {h : Heap} (R : Rdy h) : ∃ H, loop (L6_0 (E tbl)) [.nilSlice, .int .i64 0] h = some (1, [], H) ∧ Went h H := by
  have key : ∃ res, loop (L6_0 (E tbl)) [.nilSlice, .int .i64 0] h = some res ∧ ∃ H, res = (1, [], H) ∧ Went h H := by
    refine loop_ok (fun m xs G => ∃ (i : Nat) (o : AVal) (l : List (List UInt8)), m + i = 20 ∧ OwnT o G h.next l ∧ l.length = i ∧ (∀ t ∈ l, t.length ≤ 281474976710656) ∧ Went h G ∧ xs = [o, .int .i64 (i : Int)]) _ ?_ 20 _ _
      ⟨0, .nilSlice, [], rfl, Own.nil _ _ _, rfl, fun t ht => (by cases ht), Went.refl _, rfl⟩
    rintro m xs G ⟨i, o, l, hm, O, hl, hlt, W, rfl⟩
    by_cases hi : i < 20
    · left
      obtain ⟨H, e1, WH⟩ := codes_ok (R.went W) O.src (by omega) hlt (.int .i64 (i : Int))
      have i1 : (i : Int) < 20 := by omega
      obtain ⟨z, hz⟩ : ∃ z : Int, 97 + (i : Int) = z := ⟨_, rfl⟩
      have wa : IntKind.i64.wrap (97 + (i : Int)) = z := by rw [IntWalk.i64_in _ (by omega), hz]
      have wb : IntKind.i32.wrap z = z := by
        simp [IntKind.wrap, IntKind.bits, IntKind.signed]
        omega
      have wc : IntKind.i64.wrap ((i : Int) + 1) = (i : Int) + 1 := by rw [IntWalk.i64_in _ (by omega)]
      have he := enc_len z
      obtain ⟨en, hen⟩ : ∃ en, (Utf8.encode z).data.toList = en := ⟨_, rfl⟩
      rw [hen] at he
      have ha : aBin .add .plain (.str [111, 112]) (.str en) = some (.str ([111, 112] ++ en)) := str_add _ _ (by simp; omega)
      obtain ⟨o', H2, e2, O2, K2⟩ := Own.snoc (bytes := 16) (zero := [.str []]) (news := [.str ([111, 112] ++ en)]) (WH.own O) (by omega) rfl (by have := W.next; have := WH.next; omega) (by omega) (by omega)
      have ec : ∀ G : Heap, aConv .intStr (.int .i32 z) G = some (.str en, G) := fun G => by rw [conv_rune, hen]
      refine ⟨[o', .int .i64 ((i + 1 : Nat) : Int)], H2, ?_, m - 1, by omega, i + 1, o', l ++ [[111, 112] ++ en], by omega, ?_, by simp [hl], ?_, K2.went (W.trans WH) fun b hb => (O.blk b hb).1, rfl⟩
      · simp only [List.cons_append, List.nil_append] at ha e2
        simp [L6_0, i1, e1, wa, wb, ec, ha, e2, wc, beq_dec]
      · rw [OwnT, List.length_append, List.map_append]; exact O2
      · intro t ht
        rcases List.mem_append.1 ht with h1 | h1
        · exact hlt t h1
        · rw [List.mem_singleton] at h1; subst h1; simp; omega
    · right
      have i1 : ¬ (i : Int) < 20 := by omega
      exact ⟨0, [], G, by simp [L6_0, i1], G, rfl, W⟩
  obtain ⟨res, e, H, rfl, W⟩ := key
  exact ⟨H, e, W⟩

end Go.Proofs.YtkbchgbpglamcaaDoor.Code
