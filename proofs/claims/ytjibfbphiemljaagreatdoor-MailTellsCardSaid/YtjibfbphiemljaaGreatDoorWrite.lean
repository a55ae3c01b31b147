/- YtjibfbphiemljaaGreatDoorWrite -/
import Derived.Test.YtjibfbphiemljaaGreatDoorMail
set_option linter.unusedSimpArgs false
set_option linter.unusedVariables false
namespace Go.Proofs.YtjibfbphiemljaaGreatDoor.Code
open Go.Fw
theorem _root_.Go.Fw.Fresh.thenF {h h1 h2 : Heap} {s1 s2 : AVal} {l1 l2 : List UInt8} (F1 : Fresh h s1 h1 l1) (F2 : Fresh h1 s2 h2 l2) : Fresh h s2 h2 l2 := ⟨F2.own.base F1.went.next, F1.went.trans F2.went⟩
theorem bit_ok (b : Bool) (h : Heap) : E tbl 41 [.bool b] h = some (.int .i64 (bitI b), h) := by
  rw [c41]; cases b <;> rfl
theorem packText_len (s : List UInt8) : (packText s).length ≤ 256 := by simp [packText]; omega
theorem keyBs_len (k : Ky) : (keyBs k).length ≤ 512 := by
  have := packText_len k.1; have := packText_len k.2; simp [keyBs]; omega
theorem cardBs_len (c : Cd) : (cardBs c).length ≤ 600 := by
  have := keyBs_len (c.a, c.i); simp [cardBs]; omega
theorem wkey_ok {a : AVal} {h : Heap} {l : List UInt8} (S : Go.Fw.Bs a h l) (k : Ky) (hb : l.length + 1000 ≤ 140737488355328) : ∃ s h', E tbl 39 [a, .agg [.str k.1, .str k.2]] h = some (s, h') ∧ Fresh h s h' (l ++ keyBs k) := by
  obtain ⟨s1, h1, e1, F1⟩ := text_eq S k.1 (by omega)
  have := packText_len k.1
  obtain ⟨s2, h2, e2, F2⟩ := text_eq F1.bs k.2 (by simp; omega)
  refine ⟨s2, h2, ?_, ?_⟩
  · rw [c39]
    simp [S39, rdL_z, rdL_t, rdL_s, e1, e2, checkPairs, AVal.beqL, AVal.beq]
  · have := F1.thenF F2
    rw [List.append_assoc] at this
    exact this
theorem wcards_ok {a : AVal} {h : Heap} {l : List UInt8} (S : Go.Fw.Bs a h l) {sc : AVal} {cs : List Cd} (C : SrcC sc h cs) (hc : cs.length ≤ 255) (hb : l.length ≤ 100000) : ∃ s h', E tbl 42 [a, sc] h = some (s, h') ∧ Fresh h s h' (l ++ cardsBs cs) := by
  have lc := Fw.Src.len C
  obtain ⟨s1, h1, e1, F1⟩ := byte_eq S (by omega) (cs.length : Int)
  have fl : ∀ i, ((cs.take i).map cardBs).flatten.length ≤ 600 * i := by
    have : ∀ (l : List Cd), (l.map cardBs).flatten.length ≤ 600 * l.length := by
      intro l
      induction l with
      | nil => simp
      | cons x l ih => have := cardBs_len x; simp only [List.map_cons, List.flatten_cons, List.length_append, List.length_cons]; omega
    intro i
    have := this (cs.take i)
    simp only [List.length_take] at this
    omega
  obtain ⟨r, e2, s2, h2, hr, F2⟩ := loop_ok (f := L42_0 (E tbl)) (fun m xs G => ∃ (i : Nat) (s : AVal), i + m = cs.length ∧ Fresh h s G (l ++ [bU8 cs.length] ++ ((cs.take i).map cardBs).flatten) ∧ xs = [s, sc, .int .i64 cs.length, .int .i64 i])
      (fun r => ∃ (s : AVal) (G : Heap), r = (1, [s], G) ∧ Fresh h s G (l ++ cardsBs cs)) (by
    rintro m xs G ⟨i, s, hi, F, rfl⟩
    by_cases q : i < cs.length
    · left
      have i1 : (i : Int) < (cs.length : Int) := by omega
      obtain ⟨p, p1, p2⟩ := El.Src.el (F.went.src C) i q
      have ws := wrap_succ i (by omega)
      have hl := fl i
      have hsn : ((cs.take (i + 1)).map cardBs).flatten = ((cs.take i).map cardBs).flatten ++ cardBs cs[i] := by
        rw [List.take_add_one, List.getElem?_eq_getElem q, List.map_append, List.flatten_append]; simp
      generalize hx : cs[i] = c at *
      generalize hfr : ((cs.take i).map cardBs).flatten = fr at *
      obtain ⟨b1, g1, w1, W1⟩ := wkey_ok F.bs (c.a, c.i) (by simp; omega)
      have k1 := keyBs_len (c.a, c.i)
      obtain ⟨b2, g2, w2, W2⟩ := byte_eq W1.bs (by simp; omega) c.s
      obtain ⟨b3, g3, w3, W3⟩ := byte_eq W2.bs (by simp; omega) c.o
      obtain ⟨b4, g4, w4, W4⟩ := int_eq W3.bs c.l (by simp; omega)
      obtain ⟨b5, g5, w5, W5⟩ := int_eq W4.bs c.t (by simp; omega)
      obtain ⟨b6, g6, w6, W6⟩ := byte_eq W5.bs (by simp; omega) c.k
      obtain ⟨b7, g7, w7, W7⟩ := int_eq W6.bs c.n (by simp; omega)
      obtain ⟨b8, g8, w8, W8⟩ := byte_eq W7.bs (by simp; omega) (bitI c.g)
      have W := ((((((((F.thenF W1).thenF W2).thenF W3).thenF W4).thenF W5).thenF W6).thenF W7).thenF W8)
      refine ⟨[b8, sc, .int .i64 cs.length, .int .i64 ((i + 1 : Nat) : Int)], g8, ?_, m - 1, by omega, i + 1, b8, by omega, ?_, rfl⟩
      · have bt := bit_ok c.g g7
        rw [cdE_f] at p2
        simp [L42_0, i1, p1, p2, aCells, AVal.cells?, splice, rdL_z, rdL_t, rdL_s, w1, w2, w3, w4, w5, w6, w7, bt, w8, ws, checkPairs, AVal.beqL, AVal.beq]
      · rw [hsn]
        have : l ++ [bU8 cs.length] ++ (fr ++ cardBs c) = l ++ [bU8 cs.length] ++ fr ++ keyBs (c.a, c.i) ++ [bU8 c.s] ++ [bU8 c.o] ++ be8 c.l ++ be8 c.t ++ [bU8 c.k] ++ be8 c.n ++ [bU8 (bitI c.g)] := by simp [cardBs]
        rw [this]
        exact W
    · right
      have hi' : i = cs.length := by omega
      subst hi'
      refine ⟨0, [s], G, ?_, s, G, rfl, ?_⟩
      · simp [L42_0]
      · rw [List.take_length] at F
        unfold cardsBs
        rw [← List.append_assoc]
        exact F) cs.length _ h1 ⟨0, s1, by omega, by simpa using F1, rfl⟩
  subst hr
  refine ⟨s2, h2, ?_, F2⟩
  rw [c42]
  simp only [Int.cast_ofNat_Int] at e2
  simp [S42, lc, e1, e2]
theorem wkeys_ok {a : AVal} {h : Heap} {l : List UInt8} (S : Go.Fw.Bs a h l) {sc : AVal} {cs : List Ky} (C : SrcK sc h cs) (hc : cs.length ≤ 255) (hb : l.length ≤ 100000) : ∃ s h', E tbl 43 [a, sc] h = some (s, h') ∧ Fresh h s h' (l ++ keysBs cs) := by
  have lc := Fw.Src.len C
  obtain ⟨s1, h1, e1, F1⟩ := byte_eq S (by omega) (cs.length : Int)
  have fl : ∀ i, ((cs.take i).map keyBs).flatten.length ≤ 600 * i := by
    have : ∀ (l : List Ky), (l.map keyBs).flatten.length ≤ 600 * l.length := by
      intro l
      induction l with
      | nil => simp
      | cons x l ih => have := keyBs_len x; simp only [List.map_cons, List.flatten_cons, List.length_append, List.length_cons]; omega
    intro i
    have := this (cs.take i)
    simp only [List.length_take] at this
    omega
  obtain ⟨r, e2, s2, h2, hr, F2⟩ := loop_ok (f := L43_0 (E tbl)) (fun m xs G => ∃ (i : Nat) (s : AVal), i + m = cs.length ∧ Fresh h s G (l ++ [bU8 cs.length] ++ ((cs.take i).map keyBs).flatten) ∧ xs = [s, sc, .int .i64 cs.length, .int .i64 i])
      (fun r => ∃ (s : AVal) (G : Heap), r = (1, [s], G) ∧ Fresh h s G (l ++ keysBs cs)) (by
    rintro m xs G ⟨i, s, hi, F, rfl⟩
    by_cases q : i < cs.length
    · left
      have i1 : (i : Int) < (cs.length : Int) := by omega
      obtain ⟨p, p1, p2⟩ := El.Src.el (F.went.src C) i q
      have ws := wrap_succ i (by omega)
      have hl := fl i
      have hsn : ((cs.take (i + 1)).map keyBs).flatten = ((cs.take i).map keyBs).flatten ++ keyBs cs[i] := by
        rw [List.take_add_one, List.getElem?_eq_getElem q, List.map_append, List.flatten_append]; simp
      generalize hx : cs[i] = c at *
      generalize hfr : ((cs.take i).map keyBs).flatten = fr at *
      obtain ⟨b1, g1, w1, W1⟩ := wkey_ok F.bs c (by simp; omega)
      have W := F.thenF W1
      refine ⟨[b1, sc, .int .i64 cs.length, .int .i64 ((i + 1 : Nat) : Int)], g1, ?_, m - 1, by omega, i + 1, b1, by omega, ?_, rfl⟩
      · rw [kyE_f] at p2
        simp [L43_0, i1, p1, p2, aCells, AVal.cells?, splice, rdL_z, rdL_t, w1, ws]
      · rw [hsn, ← List.append_assoc]
        exact W
    · right
      have hi' : i = cs.length := by omega
      subst hi'
      refine ⟨0, [s], G, ?_, s, G, rfl, ?_⟩
      · simp [L43_0]
      · rw [List.take_length] at F
        unfold keysBs
        rw [← List.append_assoc]
        exact F) cs.length _ h1 ⟨0, s1, by omega, by simpa using F1, rfl⟩
  subst hr
  refine ⟨s2, h2, ?_, F2⟩
  rw [c43]
  simp only [Int.cast_ofNat_Int] at e2
  simp [S43, lc, e1, e2]
abbrev tWrite : List UInt8 := [119, 114, 105, 116, 101]
theorem erW_ok {p : List UInt8 × Int} (h : p.2 = 0) : erW p = .nil := by rw [erW, if_pos h]
theorem erW_no {p : List UInt8 × Int} (h : p.2 ≠ 0) : erW p = .fault p.1 (.code p.2) := by rw [erW, if_neg h]
theorem sum_conv {n : Int} (h : U32 n) (H : Heap) : aConv (.toInt .i64) (.int .u32 n) H = some (.int .i64 n, H) := by
  unfold U32 at h
  rw [conv_int, IntWalk.i64_in _ (by omega)]
theorem bytes_ok {h : Heap} {m : Ms} {sc sk : AVal} (A : MsAt h m sc sk) (hu : U32 m.sum) :
    ∃ v e H, E tbl 20 [.agg (m.cells sc sk)] h = some (.tuple [v, e], H) ∧ Went h H ∧ Rep H H.next (wrapE tWrite (erW (whyM m))) e ∧
      ((whyM m).2 = 0 → e = .nilIface ∧ Own 1 v H h.next (bytesM m).length (byteCells (bytesM m))) ∧ ((whyM m).2 ≠ 0 → v = .nilSlice) := by
  obtain ⟨e0, H0, r0, R0, W0⟩ := right_ok A
  by_cases hw : (whyM m).2 = 0
  · have en : e0 = .nilIface := by rw [erW_ok hw] at R0; exact R0
    subst en
    obtain ⟨hk, _, _, _, ⟨l1, l2⟩, _⟩ := right_of hw
    rw [erW_ok hw]
    have A0 := A.went W0
    obtain ⟨b1, h1, e1, F1⟩ := byte_eq (Bs.nil H0) (by simp) m.kind
    rw [List.nil_append] at F1
    suffices key : ∃ v H, E tbl 20 [.agg (m.cells sc sk)] h = some (.tuple [v, .nilIface], H) ∧ Fresh H0 v H (bytesM m) by
      obtain ⟨v, H, e, F⟩ := key
      exact ⟨v, .nilIface, H, e, W0.trans F.went, rfl, fun _ => ⟨rfl, F.own.base W0.next⟩, fun h => (h hw).elim⟩
    obtain ⟨kind, op, st, code, tag, n, seq, ka, ki, full, sum, cards, keys⟩ := m
    simp only at hk l1 l2 hu e1 F1
    have ek : kind = 1 ∨ kind = 2 ∨ kind = 3 ∨ kind = 4 ∨ kind = 5 := by omega
    have k1 := keyBs_len (ka, ki)
    have sc0 := sum_conv hu
    simp only [Ms.cells] at r0
    rcases ek with rfl | rfl | rfl | rfl | rfl
    · obtain ⟨b2, h2, e2, F2⟩ := int_eq F1.bs tag (by simp)
      obtain ⟨b3, h3, e3, F3⟩ := byte_eq F2.bs (by simp) op
      obtain ⟨b4, h4, e4, F4⟩ := wkey_ok F3.bs (ka, ki) (by simp)
      obtain ⟨b5, h5, e5, F5⟩ := int_eq F4.bs n (by simp; omega)
      obtain ⟨b6, h6, e6, F6⟩ := byte_eq F5.bs (by simp; omega) st
      obtain ⟨b7, h7, e7, F7⟩ := int_eq F6.bs seq (by simp; omega)
      obtain ⟨b8, e8, F8⟩ := clip_eq (((((F1.thenF F2).thenF F3).thenF F4).thenF F5).thenF F6 |>.thenF F7)
      refine ⟨b8, h7, ?_, by simpa [bytesM, bodyBs, askBs] using F8⟩
      rw [c20]
      simp [S20, rdL_z, rdL_t, rdL_s, r0, e1, e2, e3, e4, e5, e6, e7, e8, checkPairs, AVal.beqL, AVal.beq]
    · obtain ⟨b2, h2, e2, F2⟩ := int_eq F1.bs tag (by simp)
      obtain ⟨b3, h3, e3, F3⟩ := byte_eq F2.bs (by simp) op
      obtain ⟨b4, h4, e4, F4⟩ := wkey_ok F3.bs (ka, ki) (by simp)
      obtain ⟨b5, h5, e5, F5⟩ := byte_eq F4.bs (by simp; omega) code
      obtain ⟨b6, h6, e6, F6⟩ := byte_eq F5.bs (by simp; omega) (bitI full)
      obtain ⟨b7, h7, e7, F7⟩ := int_eq F6.bs seq (by simp; omega)
      obtain ⟨b8, h8, e8, F8⟩ := int_eq F7.bs sum (by simp; omega)
      have W := ((((((F1.thenF F2).thenF F3).thenF F4).thenF F5).thenF F6).thenF F7).thenF F8
      obtain ⟨b9, h9, e9, F9⟩ := wcards_ok F8.bs (W.went.src A0.cards) (by simp only; omega) (by simp; omega)
      obtain ⟨b10, e10, F10⟩ := clip_eq (W.thenF F9)
      have bt := bit_ok full h5
      refine ⟨b10, h9, ?_, by simpa [bytesM, bodyBs, ansBs] using F10⟩
      rw [c20]
      simp [S20, rdL_z, rdL_t, rdL_s, r0, e1, e2, e3, e4, e5, bt, e6, e7, sc0, -conv_int, e8, e9, e10, checkPairs, AVal.beqL, AVal.beq]
    · obtain ⟨b9, h9, e9, F9⟩ := wcards_ok F1.bs (F1.went.src A0.cards) (by simp only; omega) (by simp)
      obtain ⟨b10, e10, F10⟩ := clip_eq (F1.thenF F9)
      refine ⟨b10, h9, ?_, by simpa [bytesM, bodyBs] using F10⟩
      rw [c20]
      simp [S20, rdL_z, rdL_t, rdL_s, r0, e1, e9, e10]
    · obtain ⟨b9, h9, e9, F9⟩ := wcards_ok F1.bs (F1.went.src A0.cards) (by simp only; omega) (by simp)
      obtain ⟨b10, e10, F10⟩ := clip_eq (F1.thenF F9)
      refine ⟨b10, h9, ?_, by simpa [bytesM, bodyBs] using F10⟩
      rw [c20]
      simp [S20, rdL_z, rdL_t, rdL_s, r0, e1, e9, e10]
    · obtain ⟨b9, h9, e9, F9⟩ := wkeys_ok F1.bs (F1.went.src A0.keys) (by simp only; omega) (by simp)
      obtain ⟨b10, e10, F10⟩ := clip_eq (F1.thenF F9)
      refine ⟨b10, h9, ?_, by simpa [bytesM, bodyBs] using F10⟩
      rw [c20]
      simp [S20, rdL_z, rdL_t, rdL_s, r0, e1, e9, e10]
  · obtain ⟨v, H, e1, R1, W1⟩ := wrap_ok tWrite R0 (Nat.le_refl _)
    have hi : ∃ s x, e0 = .iface s x := by
      have := R0.iface (by rw [erW_no hw]; simp)
      exact this
    obtain ⟨s, x, rfl⟩ := hi
    refine ⟨.nilSlice, v, H, ?_, W0.trans W1, R1, fun h => (hw h).elim, fun _ => rfl⟩
    rw [c20]
    simp only [Ms.cells] at r0
    simp [S20, rdL_z, rdL_t, rdL_s, r0, e1]
end Go.Proofs.YtjibfbphiemljaaGreatDoor.Code
