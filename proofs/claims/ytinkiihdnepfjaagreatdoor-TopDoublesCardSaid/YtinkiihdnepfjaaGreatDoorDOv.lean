/- slices.Insert -/
import Derived.Test.YtinkiihdnepfjaaGreatDoorDFwZc
import GoSem.Extern.SlicesOverlaps
import Derived.Laws.Externs
set_option linter.unusedSimpArgs false
set_option linter.unusedVariables false
namespace Go.Fw
open Go.Extern
theorem free_of {φ : Phi} {h : Heap} {w : World} (H : HRel φ h w) {b : Nat} {cs : List AVal} {L : Loc} (hb : h.blk b = some ⟨cs, true⟩) (hφ : φ b = some L) :
    ∃ c e fz, w.heap[L.blk]? = some (.cells c e fz) ∧ c.size = L.size ∧ fz.1 = fz.2 := by
  obtain ⟨c, e, fz, h1, h2, h3, h4, h5⟩ := H.blk b _ L hb hφ
  exact ⟨c, e, fz, h1, h2, h4 rfl⟩
noncomputable def semOv : List AVal → Heap → Option (AVal × Heap) := fun args h =>
  match args with
  | [.slice b _ _ _ _ _, .slice b2 _ _ _ _ _] =>
    (match h.blk b, h.blk b2 with
     | some ⟨_, true⟩, some ⟨_, true⟩ => bif Nat.beq b b2 then none else some (.bool false, h)
     | _, _ => none)
  | _ => none
theorem overlaps_run {P : Program} {w : World} {params res : Array TypeId} {t e : TypeId} {es : Nat} (hp : params[0]? = some t) (ht : P.underlying t = some (.slice e)) (hs : (P.info? e).map (·.size) = some es)
    {a b : Addr} {la ca lb cb : Nat} (hne : a.block ≠ b.block) {c1 c2 : Array Value} {e1 e2 : TypeId} {f1 f2 : Nat × Nat} (h1 : w.heap[a.block]? = some (.cells c1 e1 f1)) (h2 : w.heap[b.block]? = some (.cells c2 e2 f2)) (z1 : f1.1 = f1.2) (z2 : f2.1 = f2.2) :
    (SlicesOverlaps.overlaps params res #[.slice (some a) la ca, .slice (some b) lb cb]).run P w = .ok (.bool false) w := by
  obtain ⟨lo1, hi1⟩ := f1
  obtain ⟨lo2, hi2⟩ := f2
  have z1 : lo1 = hi1 := z1
  have z2 : lo2 = hi2 := z2
  subst z1; subst z2
  have hs' := run_sizeOf' (P := P) w hs
  have n1 : ∀ o, w.frozen? ⟨a.block, o, none⟩ = false := fun o => by unfold World.frozen?; rw [h1]; simp
  have n2 : ∀ o, w.frozen? ⟨b.block, o, none⟩ = false := fun o => by unfold World.frozen?; rw [h2]; simp
  have m1 : w.frozen? a = false := by unfold World.frozen?; rw [h1]; simp
  have m2 : w.frozen? b = false := by unfold World.frozen?; rw [h2]; simp
  have s1 : w.shape? a.block = some (e1, c1.size) := by unfold World.shape?; rw [h1]
  have s2 : w.shape? b.block = some (e2, c2.size) := by unfold World.shape?; rw [h2]
  have rf : ∀ x : Addr, (frozen x).run P w = .ok (w.frozen? x) w := fun x => rfl
  have rs : ∀ r : Nat, (shape r).run P w = .ok (w.shape? r) w := fun r => rfl
  have v1 : (noView a).run P w = .ok () w := by simp [noView, viewAt, Sem.run_bind, rs, s1]
  have v2 : (noView b).run P w = .ok () w := by simp [noView, viewAt, Sem.run_bind, rs, s2]
  have q1 : (stringish a).run P w = .ok false w := by simp [stringish, Sem.run_bind, rf, s1, m1, n1]
  have q2 : (stringish b).run P w = .ok false w := by simp [stringish, Sem.run_bind, rf, s2, m2, n2]
  have k : (mayBeOne a b).run P w = .ok false w := by simp [mayBeOne, Sem.run_bind, q1, q2]
  have hne' : (a.block != b.block) = true := by simp [hne]
  have hne2 : (a.block == b.block) = false := by simp [hne]
  conv => lhs; arg 2; whnf
  simp only [hp, Sem.run_bind, run_underlying ht, Result.andThen_ok, hs']
  by_cases hz : la = 0 ∨ lb = 0 ∨ es = 0
  · simp [hz]
  · simp [hz, rf, m1, m2, hne, hne', hne2, Sem.run_bind, v1, v2, k]
theorem ov_prim {P : Program} {f : Nat} {fn : Func} {t e : TypeId} {es : Nat} (hf : P.funcs[f]? = some fn) (hname : (fn.name == "runtime.NumGoroutine") = false) (hb : fn.body.isNone = true) (hn : Extern.findNext fn = none)
    (he : Extern.find fn = some (SlicesOverlaps.overlaps fn.params fn.resultTypes)) (hp : fn.params[0]? = some t) (ht : P.underlying t = some (.slice e)) (hs : (P.info? e).map (·.size) = some es) : PrimOk P f semOv := by
  intro args h r h' hr φ w vs H ha
  unfold semOv at hr
  split at hr
  · rename_i b o l c ez q b2 o2 l2 c2 ez2 q2
    split at hr
    · rename_i cs cs2 hb1 hb2
      cases hbb : Nat.beq b b2 with
      | true => rw [hbb] at hr; cases hr
      | false =>
        rw [hbb] at hr
        cases hr
        obtain ⟨l0⟩ := vs
        match l0, ha with
        | [u, v], ha =>
          simp only [VRels] at ha
          obtain ⟨L1, a1, k1, p1, rfl, _, _, _, r1⟩ := vrel_slice.1 ha.1
          obtain ⟨L2, a2, k2, p2, rfl, _, _, _, r2⟩ := vrel_slice.1 ha.2.1
          refine .inr ⟨φ, .bool false, w, ?_, vrel_bool.2 rfl, H, Step.refl _ _ _⟩
          rw [run_callFunc_extern hf hname hb hn he]
          obtain ⟨cc1, e1, f1, g1, _, z1⟩ := free_of H hb1 p1
          obtain ⟨cc2, e2, f2, g2, _, z2⟩ := free_of H hb2 p2
          have hne : L1.blk ≠ L2.blk := H.apart b b2 _ _ L1 L2 (Nat.ne_of_beq_eq_false hbb) hb1 hb2 rfl p1 p2
          by_cases h0 : l = 0 ∨ l2 = 0
          · have hs' := run_sizeOf' (P := P) w hs
            have : (SlicesOverlaps.overlaps fn.params fn.resultTypes #[.slice (some a1) l k1, .slice (some a2) l2 k2]).run P w = .ok (.bool false) w := by
              conv => lhs; arg 2; whnf
              simp only [hp, Sem.run_bind, run_underlying ht, Result.andThen_ok, hs']
              have : l = 0 ∨ l2 = 0 ∨ es = 0 := by omega
              simp [this]
            rw [this]; rfl
          · obtain ⟨rfl, _⟩ := r1 (by omega)
            obtain ⟨rfl, _⟩ := r2 (by omega)
            rw [overlaps_run hp ht hs hne g1 g2 z1 z2]
            rfl
        | [], ha => simp [VRels] at ha
        | [_], ha => simp [VRels] at ha
        | _ :: _ :: _ :: _, ha => simp [VRels] at ha
    · cases hr
  · cases hr
def leafB : AVal → Bool
  | .int _ _ | .str _ | .bool _ => true
  | _ => false
theorem leafB_any {φ φ' : Phi} {v : AVal} (h : leafB v = true) {u : Value} (r : VRel φ v u) : VRel φ' v u := by
  cases v <;> first | (cases h; done) | (unfold VRel at r ⊢; exact r)
mutual
theorem VRel.move {φ φ1 φ2 : Phi} (e1 : Ext φ φ1) (e2 : Ext φ φ2) : ∀ (a : AVal) {u v : Value}, VRel φ a u → VRel φ1 a v → VRel φ2 a v
  | .undef, _, _, _, _ => by unfold VRel; trivial
  | .bool b, _, _, _, r => by unfold VRel at r ⊢; exact r
  | .int k n, _, _, _, r => by unfold VRel at r ⊢; exact r
  | .str l, _, _, _, r => by unfold VRel at r ⊢; exact r
  | .nilPtr, _, _, _, r => by unfold VRel at r ⊢; exact r
  | .ptr b o, _, _, q, r => by
    unfold VRel at q r ⊢
    obtain ⟨L, h1, _⟩ := q
    obtain ⟨L', h2, e⟩ := r
    rw [e1 b L h1] at h2
    cases h2
    exact ⟨L, e2 b L h1, e⟩
  | .nilSlice, _, _, _, r => by unfold VRel at r ⊢; exact r
  | .slice b o l c e x, _, _, q, r => by
    unfold VRel at q r ⊢
    obtain ⟨L, _, _, h1, _⟩ := q
    obtain ⟨L', a, c', h2, r⟩ := r
    rw [e1 b L h1] at h2
    cases h2
    exact ⟨L, a, c', e2 b L h1, r⟩
  | .func f cs, _, _, q, r => by
    unfold VRel at q r ⊢
    obtain ⟨us, _, q⟩ := q
    obtain ⟨vs, e, r⟩ := r
    exact ⟨vs, e, VRels.move e1 e2 cs q r⟩
  | .nilFunc, _, _, _, r => by unfold VRel at r ⊢; exact r
  | .iface t x, _, _, q, r => by
    unfold VRel at q r ⊢
    obtain ⟨y, _, q⟩ := q
    obtain ⟨z, e, r⟩ := r
    exact ⟨z, e, VRel.move e1 e2 x q r⟩
  | .nilIface, _, _, _, r => by unfold VRel at r ⊢; exact r
  | .agg cs, _, _, q, r => by
    unfold VRel at q r ⊢
    obtain ⟨us, _, q, _⟩ := q
    obtain ⟨vs, e, r, o⟩ := r
    exact ⟨vs, e, VRels.move e1 e2 cs q r, o⟩
  | .tuple cs, _, _, q, r => by
    unfold VRel at q r ⊢
    obtain ⟨us, _, q⟩ := q
    obtain ⟨vs, e, r⟩ := r
    exact ⟨vs, e, VRels.move e1 e2 cs q r⟩
theorem VRels.move {φ φ1 φ2 : Phi} (e1 : Ext φ φ1) (e2 : Ext φ φ2) : ∀ (as : List AVal) {us vs : List Value}, VRels φ as us → VRels φ1 as vs → VRels φ2 as vs
  | [], _, [], _, _ => by simp [VRels]
  | [], _, _ :: _, _, r => by simp [VRels] at r
  | a :: as, [], _, q, _ => by simp [VRels] at q
  | a :: as, _ :: _, [], _, r => by simp [VRels] at r
  | a :: as, u :: us, v :: vs, q, r => by
    simp only [VRels] at q r ⊢
    exact ⟨VRel.move e1 e2 a q.1 r.1, VRels.move e1 e2 as q.2 r.2⟩
end
theorem renamed {φ φ1 : Phi} {h h1 : Heap} {w w' : World} (H : HRel φ h w) (H1 : HRel φ1 h1 w') (S1 : Step φ h w φ1 h1 w') {b : Nat} {Lb : Loc} (hb : φ b = some Lb) {xb : Blk} (hxb : h.blk b = some xb) (hxw : xb.rw = true)
    {q o m c' es : Nat} {ex : Bool} {cq news : List AVal} (hq : h1.blk q = some ⟨cq, true⟩) (hqb : q = b ∨ h.next ≤ q) (hkeep : ∀ x, x < h.next → x ≠ b → h1.blk x = h.blk x)
    (hnews : ∀ i v, news[i]? = some v → cq[o + i]? = some v ∧ leafB v = true) (hlen : o + news.length ≤ cq.length) {v : Value} (hv : VRel φ1 (.slice q o m c' es ex) v) :
    ∃ φ2, VRel φ2 (.slice h.next 0 m m es false) v ∧ HRel φ2 ((h.alloc news).setBlk b none) w' ∧ Step φ h w φ2 ((h.alloc news).setBlk b none) w' := by
  obtain ⟨Lq, a, c, hLq, rfl, hm1, hm2, hex, hpos⟩ := vrel_slice.1 hv
  have hbn : b < h.next := (H.dom b Lb hb).1
  obtain ⟨φ2, hφ2⟩ : ∃ φ2 : Phi, φ2 = fun x => if x = h.next then some ⟨Lq.blk, Lq.base + o, Lq.size⟩ else φ x := ⟨_, rfl⟩
  have p2n : φ2 h.next = some ⟨Lq.blk, Lq.base + o, Lq.size⟩ := by rw [hφ2]; simp
  have p2o : ∀ x, x ≠ h.next → φ2 x = φ x := fun x hx => by rw [hφ2]; simp [hx]
  have hext : Ext φ φ2 := fun x L hx => by
    have := (H.dom x L hx).1
    rw [p2o x (by omega)]; exact hx
  have blk2 : ∀ x y, ((h.alloc news).setBlk b none).blk x = some y → (x = h.next ∧ y = ⟨news, true⟩) ∨ (x < h.next ∧ x ≠ b ∧ h.blk x = some y) := by
    intro x y e
    by_cases hxb : x = b
    · rw [hxb, setBlk_same] at e; cases e
    · rw [setBlk_ne _ _ hxb] at e
      by_cases hxn : x = h.next
      · rw [hxn, alloc_same] at e; cases e; exact .inl ⟨hxn, rfl⟩
      · rw [alloc_old _ _ hxn] at e
        exact .inr ⟨H.live x y e, hxb, e⟩
  have blk1 : ∀ x y, x < h.next → x ≠ b → h.blk x = some y → h1.blk x = some y := fun x y h1' h2 h3 => by rw [hkeep x h1' h2]; exact h3
  refine ⟨φ2, ?_, ⟨?_, ?_, ?_, ?_, fun x hx => ?_⟩, ⟨hext, by show h.next ≤ h.next + 1; omega, ?_, ?_, S1.size, ?_, S1.frame, S1.os, S1.tape, S1.output⟩⟩
  · refine vrel_slice.2 ⟨_, a, c, p2n, rfl, Nat.le_refl _, by omega, fun h => (by cases h), fun hc => ?_⟩
    obtain ⟨h1, h2⟩ := hpos hc
    exact ⟨by rw [h1]; simp, by simp only; omega⟩
  · intro x L hx
    by_cases hxn : x = h.next
    · rw [hxn, p2n] at hx
      cases hx
      exact ⟨by show x < h.next + 1; omega, (H1.dom q Lq hLq).2⟩
    · rw [p2o x hxn] at hx
      have := H.dom x L hx
      exact ⟨by show x < h.next + 1; omega, Nat.lt_of_lt_of_le this.2 S1.size⟩
  · intro x y hx
    show x < h.next + 1
    rcases blk2 x y hx with ⟨h1, _⟩ | ⟨h1, _⟩ <;> omega
  · intro x y L hx hL
    rcases blk2 x y hx with ⟨rfl, rfl⟩ | ⟨h2, h3, h4⟩
    · rw [p2n] at hL
      cases hL
      obtain ⟨cc, e, fz, g1, g2, g3, g4, g5⟩ := H1.blk q _ Lq hq hLq
      refine ⟨cc, e, fz, g1, g2, by simp only at g3 ⊢; omega, g4, fun i v hi => ?_⟩
      obtain ⟨k1, k2⟩ := hnews i v hi
      obtain ⟨u, u1, u2, u3⟩ := g5 (o + i) v k1
      exact ⟨u, by rw [← u1]; congr 1; simp only; omega, leafB_any k2 u2, u3⟩
    · rw [p2o x (by omega)] at hL
      obtain ⟨cc, e, fz, g1, g2, g3, g4, g5⟩ := H1.blk x y L (blk1 x y h2 h3 h4) (S1.ext x L hL)
      obtain ⟨cc0, e0, fz0, f1, f2, f3, f4, f5⟩ := H.blk x y L h4 hL
      refine ⟨cc, e, fz, g1, g2, g3, g4, fun i v hi => ?_⟩
      obtain ⟨u, u1, u2, u3⟩ := g5 i v hi
      obtain ⟨u0, _, v2, _⟩ := f5 i v hi
      exact ⟨u, u1, VRel.move S1.ext hext v v2 u2, u3⟩
  · have nq : ∀ y Ly yb, y < h.next → y ≠ b → h.blk y = some yb → φ y = some Ly → Ly.blk ≠ Lq.blk := by
      intro y Ly yb h2 h3 h4 h5 e
      have hqy : q ≠ y := by rcases hqb with rfl | h6 <;> omega
      exact H1.apart q y _ yb Lq Ly hqy hq (blk1 y yb h2 h3 h4) rfl hLq (S1.ext y Ly h5) e.symm
    intro x y xx yy Lx Ly hne hx hy hrw hLx hLy
    rcases blk2 x xx hx with ⟨rfl, rfl⟩ | ⟨x2, x3, x4⟩
    · rcases blk2 y yy hy with ⟨rfl, rfl⟩ | ⟨y2, y3, y4⟩
      · exact (hne rfl).elim
      · rw [p2n] at hLx
        cases hLx
        rw [p2o y (by omega)] at hLy
        exact fun e => nq y Ly yy y2 y3 y4 hLy e.symm
    · rw [p2o x (by omega)] at hLx
      rcases blk2 y yy hy with ⟨rfl, rfl⟩ | ⟨y2, y3, y4⟩
      · rw [p2n] at hLy
        cases hLy
        exact nq x Lx xx x2 x3 x4 hLx
      · rw [p2o y (by omega)] at hLy
        exact H.apart x y xx yy Lx Ly hne x4 y4 hrw hLx hLy
  · obtain ⟨m, hm⟩ := H.pin x hx
    exact ⟨m, hext x _ hm⟩
  · intro x y hx hy
    rcases blk2 x y hy with ⟨h1, _⟩ | ⟨_, _, h3⟩
    · omega
    · exact ⟨y, h3, rfl⟩
  · intro x L h2 h3
    by_cases hxn : x = h.next
    · rw [hxn, p2n] at h3
      cases h3
      refine ⟨by omega, ?_⟩
      cases hφq : φ q with
      | none => exact (S1.new q Lq hφq hLq).2
      | some L0 =>
        have := S1.ext q L0 hφq
        rw [hLq] at this
        cases this
        have : q = b := by
          rcases hqb with h | h
          · exact h
          · have := (H.dom q _ hφq).1; omega
        subst this
        rw [hb] at hφq
        cases hφq
        exact .inr ⟨q, xb, _, hxb, hxw, hb, rfl⟩
    · rw [p2o x hxn, h2] at h3; cases h3
  · intro x hx hn
    have hxb : x ≠ b := fun e => by rw [e, hb] at hn; cases hn
    rw [setBlk_ne _ _ hxb, alloc_old _ _ (by omega)]
end Go.Fw
namespace Go.Fw.Ins
open Go.Fw
noncomputable def S128 (call : Go.Fw.Call) (a0 a1 a2 : AVal) (h : Heap) : Option J :=
 (aSliceSl 10 a0 (some a1) none none).bind fun v1 =>
 (aLen false a2).bind fun v2 =>
 (aBin .eql .plain v2 (.int .i64 0)).bind fun v3 =>
 condV v3
 (some (0, [a0], h))
 ((aLen false a0).bind fun v4 =>
 (aBin .eql .plain a1 v4).bind fun v5 =>
 condV v5
 ((aAppend 10 96 [.str [], .str [], .int .i64 0, .int .i64 0, .int .i64 0, .int .i64 0, .int .i64 0, .int .i64 0, .bool false, .int .i64 0] false a0 a2 h).bind fun r6 =>
 some (0, [r6.1], r6.2))
 ((aBin .add .plain v4 v2).bind fun v7 =>
 (aCap a0).bind fun v8 =>
 (aBin .gtr .plain v7 v8).bind fun v9 =>
 condV v9
 ((aSliceSl 10 a0 none (some a1) none).bind fun v10 =>
 (aBin .add .plain v4 v2).bind fun v11 =>
 (aBin .sub .plain v11 a1).bind fun v12 =>
 (aAppend 10 96 [.str [], .str [], .int .i64 0, .int .i64 0, .int .i64 0, .int .i64 0, .int .i64 0, .int .i64 0, .bool false, .int .i64 0] true v10 v12 h).bind fun r13 =>
 (aSliceSl 10 r13.1 (some a1) none none).bind fun v14 =>
 (aCopy 10 v14 a2 r13.2).bind fun r15 =>
 (aBin .add .plain a1 v2).bind fun v16 =>
 (aSliceSl 10 r13.1 (some v16) none none).bind fun v17 =>
 (aSliceSl 10 a0 (some a1) none none).bind fun v18 =>
 (aCopy 10 v17 v18 r15.2).bind fun r19 =>
 some (0, [r13.1], r19.2))
 ((aBin .add .plain v4 v2).bind fun v20 =>
 (aSliceSl 10 a0 none (some v20) none).bind fun v21 =>
 (aBin .add .plain a1 v2).bind fun v22 =>
 (aSliceSl 10 v21 (some v22) none none).bind fun v23 =>
 (call 159 [a2, v23] h).bind fun r24 =>
 (aUn .not r24.1).bind fun v25 =>
 condV v25
 ((aBin .add .plain a1 v2).bind fun v26 =>
 (aSliceSl 10 v21 (some v26) none none).bind fun v27 =>
 (aSliceSl 10 v21 (some a1) none none).bind fun v28 =>
 (aCopy 10 v27 v28 r24.2).bind fun r29 =>
 (aSliceSl 10 v21 (some a1) none none).bind fun v30 =>
 (aCopy 10 v30 a2 r29.2).bind fun r31 =>
 some (0, [v21], r31.2))
 ((aSliceSl 10 v21 (some v4) none none).bind fun v32 =>
 (aCopy 10 v32 a2 r24.2).bind fun r33 =>
 (aSliceSl 10 v21 (some a1) none none).bind fun v34 =>
 (call 160 [v34, v2] r33.2).bind fun r35 =>
 some (0, [v21], r35.2)))))
theorem rd_inv' {h : Heap} {b off n : Nat} {cs : List AVal} (e : h.rd b off n = some cs) : ∃ x, h.blk b = some x ∧ off + n ≤ x.cells.length ∧ cs = (x.cells.drop off).take n := by
  unfold Heap.rd at e
  split at e
  · rename_i x hx
    cases hq : Nat.ble (off + n) x.cells.length with
    | false => rw [hq] at e; cases e
    | true => rw [hq] at e; cases e; exact ⟨x, hx, Nat.le_of_ble_eq_true hq, rfl⟩
  · cases e
theorem wrap_nat (n : Nat) (h : n ≤ 4611686018427387904) : IntKind.i64.wrap (n : Int) = n := by
  simp only [IntKind.wrap, IntKind.bits, IntKind.signed, Bool.true_and, decide_eq_true_eq, ge_iff_le]
  omega
theorem sl_lo {b off n c es i : Nat} {ex : Bool} (hi : i ≤ n) (hn : n ≤ c) : aSliceSl es (.slice b off n c es ex) (some (.int .i64 (i : Int))) none none = some (.slice b (off + i * es) (n - i) (c - i) es ex) := by
  simp only [aSliceSl, aBound, Nat.beq_refl, cond_true, Option.bind_some, Option.isSome_none, Bool.or_false]
  rw [if_pos ⟨by omega, by omega⟩]
  simp
theorem sl_hi {b off n c es k : Nat} {ex : Bool} (hk : k ≤ c) : aSliceSl es (.slice b off n c es ex) none (some (.int .i64 (k : Int))) none = some (.slice b off k c es ex) := by
  simp only [aSliceSl, aBound, Nat.beq_refl, cond_true, Option.bind_some, Option.isSome_none, Bool.or_false]
  rw [if_pos ⟨by omega, by omega⟩]
  simp
theorem len_sl (b off n c es : Nat) (ex : Bool) : aLen false (.slice b off n c es ex) = some (.int .i64 (n : Int)) := rfl
theorem wrS_of {h : Heap} {b : Nat} {cs : List AVal} (hb : h.blk b = some ⟨cs, true⟩) (off : Nat) (vs : List AVal) (hn : off ≤ cs.length) : h.wrS b off vs = some (h.setBlk b (some ⟨splice cs off vs, true⟩)) := by
  unfold Heap.wrS
  rw [hb]
  simp [Nat.ble_eq_true_of_le hn]
theorem cp {h : Heap} {b off n c b2 off2 n2 c2 es : Nat} {e e2 : Bool} {cs mid : List AVal} (hm : Nat.min n2 n ≠ 0) (hr : h.rd b2 off2 (Nat.min n2 n * es) = some mid) (hb : h.blk b = some ⟨cs, true⟩) (ho : off ≤ cs.length) :
    aCopy es (.slice b off n c es e) (.slice b2 off2 n2 c2 es e2) h = some (.int .i64 (Nat.min n2 n : Nat), h.setBlk b (some ⟨splice cs off mid, true⟩)) := by
  have : Nat.beq (Nat.min n2 n) 0 = false := by
    cases hq : Nat.beq (Nat.min n2 n) 0 with
    | false => rfl
    | true => exact (hm (Nat.eq_of_beq_eq_true hq)).elim
  simp only [aCopy, Nat.beq_refl, cond_true, this, cond_false, hr, Option.bind_some, wrS_of hb off mid ho]
section
variable {call : Call} {h : Heap} {b off n c i bv ov cv : Nat} {ev : Bool} {cells vc : List AVal} {xv : Blk}
theorem room (hb : h.blk b = some ⟨cells, true⟩) (hl : off + n * 10 ≤ cells.length) (hi : i < n) (hc : n + 1 ≤ c) (hn : n ≤ 1000000) (hbv : bv ≠ b) (hv : h.rd bv ov 10 = some vc)
    (hov : call 159 [.slice bv ov 1 cv 10 ev, .slice b (off + (i + 1) * 10) (n + 1 - (i + 1)) (c - (i + 1)) 10 true] h = some (.bool false, h)) :
    ∃ cells2, S128 call (.slice b off n c 10 true) (.int .i64 (i : Int)) (.slice bv ov 1 cv 10 ev) h = some (0, [.slice b off (n + 1) c 10 true], (h.setBlk b (some ⟨splice cells (off + (i + 1) * 10) (((cells.drop (off + i * 10)).take ((n - i) * 10))), true⟩)).setBlk b (some ⟨cells2, true⟩)) ∧
      cells2 = splice (splice cells (off + (i + 1) * 10) (((cells.drop (off + i * 10)).take ((n - i) * 10)))) (off + i * 10) vc := by
  refine ⟨_, ?_, rfl⟩
  have hc' : ¬ (c : Int) < (n : Int) + 1 := by omega
  have e1 : IntKind.i64.wrap ((n : Int) + 1) = ((n + 1 : Nat) : Int) := by have := wrap_nat (n + 1) (by omega); simpa using this
  have e2 : IntKind.i64.wrap ((i : Int) + 1) = ((i + 1 : Nat) : Int) := by have := wrap_nat (i + 1) (by omega); simpa using this
  have r1 : h.rd b (off + i * 10) ((n - i) * 10) = some ((cells.drop (off + i * 10)).take ((n - i) * 10)) := rd_of hb _ _ (by show off + i * 10 + (n - i) * 10 ≤ cells.length; omega)
  have hmin : Nat.min (n + 1 - i) (n + 1 - (i + 1)) = n - i := by show min _ _ = _; omega
  obtain ⟨h1, hh1⟩ : ∃ h1, h1 = h.setBlk b (some ⟨splice cells (off + (i + 1) * 10) ((cells.drop (off + i * 10)).take ((n - i) * 10)), true⟩) := ⟨_, rfl⟩
  have c1 : aCopy 10 (.slice b (off + (i + 1) * 10) (n + 1 - (i + 1)) (c - (i + 1)) 10 true) (.slice b (off + i * 10) (n + 1 - i) (c - i) 10 true) h = some (.int .i64 (n - i : Nat), h1) := by
    have := cp (h := h) (b := b) (off := off + (i + 1) * 10) (n := n + 1 - (i + 1)) (c := c - (i + 1)) (b2 := b) (off2 := off + i * 10) (n2 := n + 1 - i) (c2 := c - i) (es := 10) (e := true) (e2 := true) (by rw [hmin]; omega) (by rw [hmin]; exact r1) hb (by omega)
    rw [this, hmin, hh1]
  have hmin2 : Nat.min 1 (n + 1 - i) = 1 := by show min _ _ = _; omega
  have hb1 : h1.blk b = some ⟨splice cells (off + (i + 1) * 10) ((cells.drop (off + i * 10)).take ((n - i) * 10)), true⟩ := by rw [hh1]; simp
  have hv1 : h1.rd bv ov 10 = some vc := by
    rw [← hv]
    unfold Heap.rd
    rw [hh1, setBlk_ne _ _ hbv]
  have c2 : aCopy 10 (.slice b (off + i * 10) (n + 1 - i) (c - i) 10 true) (.slice bv ov 1 cv 10 ev) h1 = some (.int .i64 (1 : Nat), h1.setBlk b (some ⟨splice (splice cells (off + (i + 1) * 10) ((cells.drop (off + i * 10)).take ((n - i) * 10))) (off + i * 10) vc, true⟩)) := by
    have := cp (h := h1) (b := b) (off := off + i * 10) (n := n + 1 - i) (c := c - i) (b2 := bv) (off2 := ov) (n2 := 1) (c2 := cv) (es := 10) (e := true) (e2 := ev) (by rw [hmin2]; omega) (by rw [hmin2]; exact hv1) hb1 (by simp only [splice, List.length_append, List.length_take, List.length_drop]; omega)
    rw [this, hmin2]
  unfold S128
  simp only [sl_lo (show i ≤ n by omega) (show n ≤ c by omega), len_sl, Option.bind_some, bin_eql, cond_bool, show ((1 : Nat) : Int) = 1 from rfl, show ((1 : Int) == 0) = false from rfl, cond_false, show ((i : Int) == (n : Int)) = false by simp; omega, bin_add, e1, aCap, bin_gtr,
    show decide (((n + 1 : Nat) : Int) > (c : Int)) = false by simp; omega, sl_hi (show n + 1 ≤ c from hc), e2, sl_lo (show i + 1 ≤ n + 1 by omega) (show n + 1 ≤ c from hc), hov, un_not, Bool.not_false, cond_true, sl_lo (show i ≤ n + 1 by omega) (show n + 1 ≤ c from hc), c1, c2]
  rw [hh1]
def zero : List AVal := [.str [], .str [], .int .i64 0, .int .i64 0, .int .i64 0, .int .i64 0, .int .i64 0, .int .i64 0, .bool false, .int .i64 0]
theorem reps_len (n : Nat) : (reps zero n).length = n * 10 := by induction n with | zero => rfl | succ n ih => simp only [reps, List.length_append, ih]; simp [zero]; omega
theorem grow (hb : h.blk b = some ⟨cells, true⟩) (hl : off + n * 10 ≤ cells.length) (hi : i < n) (hn : n ≤ 1000000) (hbn : b < h.next) (hbv : bv < h.next) (hv : h.rd bv ov 10 = some vc) :
    ∃ C0 C1 C2, S128 call (.slice b off n n 10 true) (.int .i64 (i : Int)) (.slice bv ov 1 cv 10 ev) h = some (0, [.slice h.next 0 (n + 1) (n + 1) 10 false], ((h.alloc C0).setBlk h.next (some ⟨C1, true⟩)).setBlk h.next (some ⟨C2, true⟩)) ∧
      C2 = splice (splice ((cells.drop off).take (i * 10) ++ reps zero (n + 1 - i)) (i * 10) vc) ((i + 1) * 10) ((cells.drop (off + i * 10)).take ((n - i) * 10)) := by
  obtain ⟨C0, hC0⟩ : ∃ C0, C0 = (cells.drop off).take (i * 10) ++ reps zero (n + 1 - i) := ⟨_, rfl⟩
  have hC0l : C0.length = (n + 1) * 10 := by rw [hC0, List.length_append, reps_len, List.length_take, List.length_drop]; omega
  have hvl : vc.length = 10 := by
    unfold Heap.rd at hv
    split at hv
    · rename_i x _
      cases hq : Nat.ble (ov + 10) x.cells.length with
      | false => rw [hq] at hv; cases hv
      | true =>
        rw [hq] at hv
        cases hv
        have := Nat.le_of_ble_eq_true hq
        simp only [List.length_take, List.length_drop]
        omega
    · cases hv
  refine ⟨C0, splice C0 (i * 10) vc, splice (splice C0 (i * 10) vc) ((i + 1) * 10) ((cells.drop (off + i * 10)).take ((n - i) * 10)), ?_, by rw [hC0]⟩
  have e1 : IntKind.i64.wrap ((n : Int) + 1) = ((n + 1 : Nat) : Int) := by have := wrap_nat (n + 1) (by omega); simpa using this
  have e2 : IntKind.i64.wrap ((i : Int) + 1) = ((i + 1 : Nat) : Int) := by have := wrap_nat (i + 1) (by omega); simpa using this
  have e3 : IntKind.i64.wrap (((n + 1 : Nat) : Int) - (i : Int)) = ((n + 1 - i : Nat) : Int) := by
    rw [show ((n + 1 : Nat) : Int) - (i : Int) = ((n + 1 - i : Nat) : Int) by omega]
    exact wrap_nat _ (by omega)
  have r0 : h.rd b off (i * 10) = some ((cells.drop off).take (i * 10)) := rd_of hb _ _ (by show off + i * 10 ≤ cells.length; omega)
  have ap : aAppend 10 96 [.str [], .str [], .int .i64 0, .int .i64 0, .int .i64 0, .int .i64 0, .int .i64 0, .int .i64 0, .bool false, .int .i64 0] true (.slice b off i n 10 true) (.int .i64 ((n + 1 - i : Nat) : Int)) h = some (.slice h.next 0 (n + 1) (n + 1) 10 false, h.alloc C0) := by
    have hnews : aNews 10 96 zero true (.int .i64 ((n + 1 - i : Nat) : Int)) h = some (n + 1 - i, reps zero (n + 1 - i)) := by
      simp only [aNews]
      rw [if_pos ⟨by omega, by omega, by omega⟩]
      simp
    show aAppend 10 96 zero true (.slice b off i n 10 true) (.int .i64 ((n + 1 - i : Nat) : Int)) h = _
    unfold aAppend
    rw [hnews]
    simp only [Option.bind_some, Nat.beq_refl, cond_true]
    have b1 : Nat.beq (n + 1 - i) 0 = false := by rw [beq_dec]; simp; omega
    have b2 : Nat.ble (i + (n + 1 - i)) n = false := by
      cases hq : Nat.ble (i + (n + 1 - i)) n with
      | false => rfl
      | true => have := Nat.le_of_ble_eq_true hq; omega
    simp only [b1, cond_false, b2]
    rw [if_pos ⟨by omega, by omega⟩]
    by_cases hi0 : i = 0
    · subst hi0
      simp only [Nat.beq_refl, cond_true]
      rw [hC0]
      simp
    · have b3 : Nat.beq i 0 = false := by rw [beq_dec]; simp [hi0]
      simp only [b3, cond_false, r0, Option.bind_some]
      rw [hC0, show i + (n + 1 - i) = n + 1 by omega]
  obtain ⟨h1, hh1⟩ : ∃ h1, h1 = h.alloc C0 := ⟨_, rfl⟩
  have hb1 : h1.blk h.next = some ⟨C0, true⟩ := by rw [hh1]; simp
  have hv1 : h1.rd bv ov 10 = some vc := by
    rw [← hv]
    unfold Heap.rd
    rw [hh1, alloc_old _ _ (by omega)]
  have hmin2 : Nat.min 1 (n + 1 - i) = 1 := by show min _ _ = _; omega
  obtain ⟨h2, hh2⟩ : ∃ h2, h2 = h1.setBlk h.next (some ⟨splice C0 (i * 10) vc, true⟩) := ⟨_, rfl⟩
  have c1 : aCopy 10 (.slice h.next (0 + i * 10) (n + 1 - i) (n + 1 - i) 10 false) (.slice bv ov 1 cv 10 ev) h1 = some (.int .i64 (1 : Nat), h2) := by
    have := cp (h := h1) (b := h.next) (off := 0 + i * 10) (n := n + 1 - i) (c := n + 1 - i) (b2 := bv) (off2 := ov) (n2 := 1) (c2 := cv) (es := 10) (e := false) (e2 := ev) (by rw [hmin2]; omega) (by rw [hmin2]; exact hv1) hb1 (by omega)
    rw [this, hmin2, hh2, Nat.zero_add]
  have hb2 : h2.blk h.next = some ⟨splice C0 (i * 10) vc, true⟩ := by rw [hh2]; simp
  have r2 : h2.rd b (off + i * 10) ((n - i) * 10) = some ((cells.drop (off + i * 10)).take ((n - i) * 10)) := by
    have hbb : h2.blk b = some ⟨cells, true⟩ := by rw [hh2, setBlk_ne _ _ (by omega), hh1, alloc_old _ _ (by omega)]; exact hb
    exact rd_of hbb _ _ (by show off + i * 10 + (n - i) * 10 ≤ cells.length; omega)
  have hmin : Nat.min (n - i) (n + 1 - (i + 1)) = n - i := by show min _ _ = _; omega
  have c2 : aCopy 10 (.slice h.next (0 + (i + 1) * 10) (n + 1 - (i + 1)) (n + 1 - (i + 1)) 10 false) (.slice b (off + i * 10) (n - i) (n - i) 10 true) h2 = some (.int .i64 (n - i : Nat), h2.setBlk h.next (some ⟨splice (splice C0 (i * 10) vc) ((i + 1) * 10) ((cells.drop (off + i * 10)).take ((n - i) * 10)), true⟩)) := by
    have := cp (h := h2) (b := h.next) (off := 0 + (i + 1) * 10) (n := n + 1 - (i + 1)) (c := n + 1 - (i + 1)) (b2 := b) (off2 := off + i * 10) (n2 := n - i) (c2 := n - i) (es := 10) (e := false) (e2 := true) (by rw [hmin]; omega) (by rw [hmin]; exact r2) hb2 (by simp only [splice, List.length_append, List.length_take, List.length_drop]; omega)
    rw [this, hmin, Nat.zero_add]
  unfold S128
  simp only [sl_lo (show i ≤ n by omega) (Nat.le_refl n), len_sl, Option.bind_some, bin_eql, cond_bool, show ((1 : Nat) : Int) = 1 from rfl, show ((1 : Int) == 0) = false from rfl, cond_false, show ((i : Int) == (n : Int)) = false by simp; omega, bin_add, e1, aCap, bin_gtr,
    show decide (((n + 1 : Nat) : Int) > (n : Int)) = true by simp; omega, cond_true, sl_hi (show i ≤ n by omega), bin_sub, e3, ap]
  rw [← hh1]
  simp only [sl_lo (show i ≤ n + 1 by omega) (Nat.le_refl (n + 1)), Option.bind_some, c1, e2, sl_lo (show i + 1 ≤ n + 1 by omega) (Nat.le_refl (n + 1)), c2]
  rw [hh2, hh1]
theorem tail (hb : h.blk b = some ⟨cells, true⟩) (hl : off + n * 10 ≤ cells.length) (hn : n ≤ 1000000) (hv : h.rd bv ov 10 = some vc) :
    S128 call (.slice b off n n 10 false) (.int .i64 (n : Int)) (.slice bv ov 1 cv 10 ev) h = some (0, [.slice h.next 0 (n + 1) (n + 1) 10 false], (h.alloc ((cells.drop off).take (n * 10) ++ vc)).setBlk b none) := by
  have r0 : h.rd b off (n * 10) = some ((cells.drop off).take (n * 10)) := rd_of hb _ _ hl
  have b2 : Nat.ble (n + 1) n = false := by
    cases hq : Nat.ble (n + 1) n with
    | false => rfl
    | true => have := Nat.le_of_ble_eq_true hq; omega
  have ap : ∀ z, aAppend 10 96 z false (.slice b off n n 10 false) (.slice bv ov 1 cv 10 ev) h = some (.slice h.next 0 (n + 1) (n + 1) 10 false, (h.alloc ((cells.drop off).take (n * 10) ++ vc)).setBlk b none) := by
    intro z
    unfold aAppend
    simp only [aNews, show Nat.beq 1 0 = false from rfl, cond_false, Nat.beq_refl, cond_true, show (1 * 10 : Nat) = 10 from rfl, hv, Option.bind_some, b2]
    rw [if_pos ⟨by omega, by omega⟩, hb]
    simp only [r0, Option.bind_some]
  unfold S128
  simp only [sl_lo (Nat.le_refl n) (Nat.le_refl n), len_sl, Option.bind_some, bin_eql, cond_bool, show ((1 : Nat) : Int) = 1 from rfl, show ((1 : Int) == 0) = false from rfl, cond_false, show ((n : Int) == (n : Int)) = true by simp, cond_true, ap]
theorem none_yet (hv : h.rd bv ov 10 = some vc) :
    S128 call .nilSlice (.int .i64 0) (.slice bv ov 1 cv 10 ev) h = some (0, [.slice h.next 0 1 1 10 false], h.alloc vc) := by
  have ap : ∀ z, aAppend 10 96 z false .nilSlice (.slice bv ov 1 cv 10 ev) h = some (.slice h.next 0 1 1 10 false, h.alloc vc) := by
    intro z
    unfold aAppend
    simp only [aNews, show Nat.beq 1 0 = false from rfl, cond_false, Nat.beq_refl, cond_true, show (1 * 10 : Nat) = 10 from rfl, hv, Option.bind_some]
    rfl
  unfold S128
  have s0 : aSliceSl 10 .nilSlice (some (.int .i64 0)) none none = some .nilSlice := rfl
  simp only [s0, len_sl, Option.bind_some, bin_eql, cond_bool, show ((1 : Nat) : Int) = 1 from rfl, show ((1 : Int) == 0) = false from rfl, cond_false, show aLen false .nilSlice = some (.int .i64 0) from rfl, show ((0 : Int) == 0) = true from rfl, cond_true, ap]
end
theorem splice_get {l vs : List AVal} {o k : Nat} (ho : o ≤ l.length) : (splice l o vs)[k]? = if k < o then l[k]? else if k < o + vs.length then vs[k - o]? else l[k]? := by
  simp only [splice, List.getElem?_append, List.length_append, List.length_take, List.getElem?_take, List.getElem?_drop, Nat.min_eq_left ho]
  by_cases h1 : k < o
  · rw [if_pos (by omega), if_pos h1, if_pos h1, if_pos h1]
  · by_cases h2 : k < o + vs.length
    · rw [if_pos h2, if_neg h1, if_neg h1, if_pos h2]
    · rw [if_neg h2, if_neg h1, if_neg h2]
      congr 1
      omega
def sem (args : List AVal) (h : Heap) : Option (AVal × Heap) :=
  match args with
  | [.nilSlice, .int .i64 i, .slice bv ov 1 _ 10 _] => if i = 0 then (h.rd bv ov 10).bind fun vc => some (.slice h.next 0 1 1 10 false, h.alloc vc) else none
  | [.slice b off n _ 10 _, .int .i64 i, .slice bv ov 1 _ 10 _] =>
    (match h.blk b, h.blk bv with
     | some ⟨_, true⟩, some ⟨_, true⟩ =>
       if b ≠ bv ∧ 0 ≤ i ∧ i ≤ n ∧ n ≤ 1000000 then
         (h.rd b off (n * 10)).bind fun old => (h.rd bv ov 10).bind fun vc =>
           if (old ++ vc).all leafB = true then some (.slice h.next 0 (n + 1) (n + 1) 10 false, (h.alloc (old.take (i.toNat * 10) ++ vc ++ old.drop (i.toNat * 10))).setBlk b none) else none
       else none
     | _, _ => none)
  | _ => none
def Done (P : Program) (f : Nat) (φ : Phi) (h : Heap) (w : World) (vs : Array Value) (r : AVal) (h' : Heap) : Prop :=
  (((callFunc f vs).run P w = .ok (.enter f vs) w) ∧ Calls P f vs w fun e w' => ∃ φ' v, e = .returned v ∧ VRel φ' r v ∧ HRel φ' h' w' ∧ Step φ h w φ' h' w') ∨
    ∃ φ' v w', (callFunc f vs).run P w = .ok (.value v) w' ∧ VRel φ' r v ∧ HRel φ' h' w' ∧ Step φ h w φ' h' w'
theorem Done.map {P : Program} {f : Nat} {φ : Phi} {h : Heap} {w : World} {vs : Array Value} {r r2 : AVal} {h1 h2 : Heap} (d : Done P f φ h w vs r h1)
    (m : ∀ φ1 v w', VRel φ1 r v → HRel φ1 h1 w' → Step φ h w φ1 h1 w' → ∃ φ2, VRel φ2 r2 v ∧ HRel φ2 h2 w' ∧ Step φ h w φ2 h2 w') : Done P f φ h w vs r2 h2 := by
  rcases d with ⟨d1, d2⟩ | ⟨φ1, v, w', d1, a, b, c⟩
  · refine .inl ⟨d1, d2.mono ?_⟩
    rintro e w' ⟨φ1, v, rfl, a, b, c⟩
    obtain ⟨φ2, a2, b2, c2⟩ := m φ1 v w' a b c
    exact ⟨φ2, v, rfl, a2, b2, c2⟩
  · obtain ⟨φ2, a2, b2, c2⟩ := m φ1 v w' a b c
    exact .inr ⟨φ2, v, w', d1, a2, b2, c2⟩
theorem prim {P : Program} {f : Nat} {call : Call} (hc : CallOk P call) (h128 : ∀ a0 a1 a2 h, call f [a0, a1, a2] h = (S128 call a0 a1 a2 h).bind ansOf) (h159 : ∀ args h, call 159 args h = semOv args h) : PrimOk P f sem := by
  intro args h r h' hr φ w vs H ha
  unfold sem at hr
  split at hr
  · rename_i i bv ov cv ev
    split at hr
    · rename_i hi
      subst hi
      cases hv : h.rd bv ov 10 with
      | none => rw [hv] at hr; cases hr
      | some vc =>
        rw [hv] at hr
        cases hr
        exact hc f _ h _ _ (by rw [h128, none_yet hv]; rfl) φ w vs H ha
    · cases hr
  · rename_i b off n cap ex i bv ov cv ev
    split at hr
    · rename_i cells cells2 hb hbv
      split at hr
      · rename_i hcond
        obtain ⟨hne, hi0, hin, hn⟩ := hcond
        cases hold : h.rd b off (n * 10) with
        | none => rw [hold] at hr; cases hr
        | some old =>
          cases hv : h.rd bv ov 10 with
          | none => rw [hold, hv] at hr; cases hr
          | some vc =>
            rw [hold, hv] at hr
            simp only [Option.bind_some] at hr
            split at hr
            · rename_i hleaf
              cases hr
              obtain ⟨k, rfl⟩ : ∃ k : Nat, i = k := ⟨i.toNat, by omega⟩
              have hkn : k ≤ n := by omega
              simp only [Int.toNat_natCast]
              obtain ⟨x, hx, hl, ho⟩ := rd_inv' hold
              rw [hb] at hx
              cases hx
              have hl : off + n * 10 ≤ cells.length := hl
              have ho : old = (cells.drop off).take (n * 10) := ho
              obtain ⟨y, hy, hl2, hv2⟩ := rd_inv' hv
              have hbn : b < h.next := H.live b _ hb
              have hbvn : bv < h.next := H.live bv _ hbv
              have hvl : vc.length = 10 := by rw [hv2]; simp only [List.length_take, List.length_drop]; omega
              have hol : old.length = n * 10 := by rw [ho]; simp only [List.length_take, List.length_drop]; omega
              obtain ⟨l0⟩ := vs
              match l0, ha with
              | [], ha => simp [VRels] at ha
              | [_], ha => simp [VRels] at ha
              | [_, _], ha => simp [VRels] at ha
              | _ :: _ :: _ :: _ :: _, ha => simp [VRels] at ha
              | [u0, u1, u2], ha =>
                simp only [VRels] at ha
                obtain ⟨q0, q1, q2, _⟩ := ha
                obtain ⟨L, a, c, hL, hu0, m1, m2, _, hpos⟩ := vrel_slice.1 q0
                have leafs : ∀ v ∈ old ++ vc, leafB v = true := fun v hv => List.all_eq_true.1 hleaf v hv
                have news_leaf : ∀ v ∈ old.take (k * 10) ++ vc ++ old.drop (k * 10), leafB v = true := by
                  intro v hv
                  simp only [List.mem_append] at hv
                  rcases hv with (hv | hv) | hv
                  · exact leafs v (List.mem_append_left _ (List.mem_of_mem_take hv))
                  · exact leafs v (List.mem_append_right _ hv)
                  · exact leafs v (List.mem_append_left _ (List.mem_of_mem_drop hv))
                have news_len : (old.take (k * 10) ++ vc ++ old.drop (k * 10)).length = (n + 1) * 10 := by simp only [List.length_append, List.length_take, List.length_drop]; omega
                have news_get : ∀ j, (old.take (k * 10) ++ vc ++ old.drop (k * 10))[j]? = if j < k * 10 then cells[off + j]? else if j < k * 10 + 10 then vc[j - k * 10]? else if j < (n + 1) * 10 then cells[off + j - 10]? else none := by
                  intro j
                  simp only [List.getElem?_append, List.length_append, List.length_take, List.getElem?_take, List.getElem?_drop, ho, List.length_drop]
                  have e1 : min (k * 10) (min (n * 10) (cells.length - off)) = k * 10 := by omega
                  rw [e1, hvl]
                  by_cases c1 : j < k * 10
                  · rw [if_pos (by omega), if_pos c1, if_pos c1, if_pos (by omega), if_pos c1]
                  · by_cases c2 : j < k * 10 + 10
                    · rw [if_pos c2, if_neg c1, if_neg c1, if_pos c2]
                    · rw [if_neg c2, if_neg c1, if_neg c2]
                      by_cases c3 : j < (n + 1) * 10
                      · rw [if_pos (by omega), if_pos c3]; congr 1; omega
                      · rw [if_neg (by omega), if_neg c3]
                by_cases hk : k = n
                · subst hk
                  have e : call f [.slice b off k k 10 false, .int .i64 (k : Int), .slice bv ov 1 cv 10 ev] h = some (.slice h.next 0 (k + 1) (k + 1) 10 false, (h.alloc ((cells.drop off).take (k * 10) ++ vc)).setBlk b none) := by
                    rw [h128, tail hb hl hn hv]; rfl
                  have e2 : old.take (k * 10) ++ vc ++ old.drop (k * 10) = (cells.drop off).take (k * 10) ++ vc := by
                    rw [List.take_of_length_le (by omega), List.drop_of_length_le (by omega), List.append_nil, ho]
                  rw [e2]
                  exact hc f _ h _ _ e φ w ⟨[u0, u1, u2]⟩ H (by simp only [VRels]; exact ⟨vrel_slice.2 ⟨L, a, c, hL, hu0, Nat.le_refl _, by omega, fun h => (by cases h), hpos⟩, q1, q2, trivial⟩)
                · by_cases hcn : c = n
                  · subst hcn
                    obtain ⟨C0, C1, C2, e0, hC2⟩ := grow (call := call) (cv := cv) (ev := ev) hb hl (show k < c by omega) hn hbn hbvn hv
                    have e : call f [.slice b off c c 10 true, .int .i64 (k : Int), .slice bv ov 1 cv 10 ev] h = some (.slice h.next 0 (c + 1) (c + 1) 10 false, ((h.alloc C0).setBlk h.next (some ⟨C1, true⟩)).setBlk h.next (some ⟨C2, true⟩)) := by
                      rw [h128, e0]; rfl
                    have d := hc f _ h _ _ e φ w ⟨[u0, u1, u2]⟩ H (by simp only [VRels]; exact ⟨vrel_slice.2 ⟨L, a, c, hL, hu0, Nat.le_refl _, Nat.le_refl _, fun _ => rfl, hpos⟩, q1, q2, trivial⟩)
                    refine Done.map d fun φ1 v w' hv1 H1 S1 => ?_
                    refine renamed H H1 S1 hL hb rfl (q := h.next) (cq := C2) (by simp) (.inr (Nat.le_refl _)) (fun x hx _ => by rw [setBlk_ne _ _ (by omega), setBlk_ne _ _ (by omega), alloc_old _ _ (by omega)]) (fun j v hj => ⟨?_, news_leaf v (List.mem_of_getElem? hj)⟩) ?_ hv1
                    · rw [news_get] at hj
                      rw [Nat.zero_add, hC2, splice_get (by simp only [splice, List.length_append, List.length_take, List.length_drop, reps_len]; omega), splice_get (by simp only [List.length_append, List.length_take, List.length_drop, reps_len]; omega), hvl]
                      by_cases c1 : j < k * 10
                      · rw [if_pos c1] at hj
                        rw [if_pos (by omega), if_pos c1, List.getElem?_append, if_pos (by simp only [List.length_take, List.length_drop]; omega), List.getElem?_take, if_pos c1, List.getElem?_drop]
                        exact hj
                      · by_cases c2 : j < k * 10 + 10
                        · rw [if_neg c1, if_pos c2] at hj
                          rw [if_pos (by omega), if_neg c1, if_pos c2]
                          exact hj
                        · rw [if_neg c1, if_neg c2] at hj
                          by_cases c3 : j < (c + 1) * 10
                          · rw [if_pos c3] at hj
                            rw [if_neg (by omega), if_pos (by simp only [List.length_take, List.length_drop]; omega), List.getElem?_take, if_pos (by omega), List.getElem?_drop, ← hj]
                            congr 1
                            omega
                          · rw [if_neg c3] at hj; cases hj
                    · rw [news_len, hC2]
                      simp only [splice, List.length_append, List.length_take, List.length_drop, reps_len]
                      omega
                  · have hov : call 159 [.slice bv ov 1 cv 10 ev, .slice b (off + (k + 1) * 10) (n + 1 - (k + 1)) (c - (k + 1)) 10 true] h = some (.bool false, h) := by
                      rw [h159]
                      unfold semOv
                      simp only [hb, hbv]
                      have : Nat.beq bv b = false := by rw [beq_dec]; simp; omega
                      rw [this]
                      rfl
                    obtain ⟨C2, e0, hC2⟩ := room (call := call) (c := c) (cv := cv) (ev := ev) hb hl (show k < n by omega) (by omega) hn (Ne.symm hne) hv hov
                    have e : call f [.slice b off n c 10 true, .int .i64 (k : Int), .slice bv ov 1 cv 10 ev] h = some (.slice b off (n + 1) c 10 true, (h.setBlk b (some ⟨splice cells (off + (k + 1) * 10) (((cells.drop (off + k * 10)).take ((n - k) * 10))), true⟩)).setBlk b (some ⟨C2, true⟩)) := by
                      rw [h128, e0]; rfl
                    have d := hc f _ h _ _ e φ w ⟨[u0, u1, u2]⟩ H (by simp only [VRels]; exact ⟨vrel_slice.2 ⟨L, a, c, hL, hu0, by omega, Nat.le_refl _, fun _ => rfl, hpos⟩, q1, q2, trivial⟩)
                    refine Done.map d fun φ1 v w' hv1 H1 S1 => ?_
                    refine renamed H H1 S1 hL hb rfl (q := b) (cq := C2) (by simp) (.inl rfl) (fun x hx hxb => by rw [setBlk_ne _ _ hxb, setBlk_ne _ _ hxb]) (fun j v hj => ⟨?_, news_leaf v (List.mem_of_getElem? hj)⟩) ?_ hv1
                    · rw [news_get] at hj
                      rw [hC2, splice_get (by simp only [splice, List.length_append, List.length_take, List.length_drop]; omega), splice_get (by omega), hvl]
                      by_cases c1 : j < k * 10
                      · rw [if_pos c1] at hj
                        rw [if_pos (by omega), if_pos (by omega)]
                        exact hj
                      · by_cases c2 : j < k * 10 + 10
                        · rw [if_neg c1, if_pos c2] at hj
                          rw [if_neg (by omega), if_pos (by omega), ← hj]
                          congr 1
                          omega
                        · rw [if_neg c1, if_neg c2] at hj
                          by_cases c3 : j < (n + 1) * 10
                          · rw [if_pos c3] at hj
                            rw [if_neg (by omega), if_neg (by omega), if_neg (by omega), if_pos (by simp only [List.length_take, List.length_drop]; omega), List.getElem?_take, if_pos (by omega), List.getElem?_drop, ← hj]
                            congr 1
                            omega
                          · rw [if_neg c3] at hj; cases hj
                    · rw [news_len, hC2]
                      simp only [splice, List.length_append, List.length_take, List.length_drop]
                      omega
            · cases hr
      · cases hr
    · cases hr
  · cases hr
end Go.Fw.Ins
