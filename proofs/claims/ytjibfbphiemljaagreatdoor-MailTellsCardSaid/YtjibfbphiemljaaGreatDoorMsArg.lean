/- YtjibfbphiemljaaGreatDoorMsArg -/
import Derived.Test.YtjibfbphiemljaaGreatDoorRefH
import Derived.Test.YtjibfbphiemljaaGreatDoorFwZm
set_option linter.unusedSimpArgs false
set_option linter.unusedVariables false
namespace Go.Fw
open Go.RowKit Go.WideShapes Go.ChangeShapes
theorem vrels_two {φ : Phi} {a b : AVal} {x y : Value} (h1 : VRel φ a x) (h2 : VRel φ b y) : ∀ {aa : List AVal} {vs : List Value} {L : List LeafK}, LeafsOk L aa vs → VRels φ (aa ++ [a, b]) (vs ++ [x, y])
  | [], [], [], _ => ⟨h1, h2, trivial⟩
  | _ :: _, _ :: _, _ :: _, h => ⟨h.1.rel φ, vrels_two h1 h2 h.2⟩
  | [], _ :: _, [], h => h.elim
  | [], _, _ :: _, h => h.elim
  | _ :: _, [], _, h => by cases ‹List LeafK› <;> exact h.elim
  | _ :: _, _ :: _, [], h => h.elim
theorem leafs_cell : ∀ {L : List LeafK} {aa : List AVal} {vs : List Value}, LeafsOk L aa vs → ∀ u ∈ vs, u.oneCell' = true
  | [], [], [], _ => by simp
  | _ :: _, _ :: _, v :: _, h => fun u hu => by
    rcases List.mem_cons.1 hu with rfl | hu
    · exact h.1.cell
    · exact leafs_cell h.2 u hu
  | [], _ :: _, _, h => h.elim
  | [], [], _ :: _, h => h.elim
  | _ :: _, [], _, h => h.elim
  | _ :: _, _ :: _, [], h => h.elim
structure StructArg (es1 es2 : Nat) (w : World) (v : Value) (bs : List (Loc × List AVal)) (aa : List AVal) (mk1 mk2 : Nat → AVal) (R1 R2 : List (List AVal)) : Prop where
  rel : ∀ (φ : Phi) (i : Nat), (∀ j p, bs[j]? = some p → φ (i + j) = some p.1) → VRel φ (.agg (aa ++ [mk1 i, mk2 i])) v
  ro : ∀ φ, ∀ p ∈ bs, RoOk φ w p
  src : ∀ (h : Heap) (i : Nat), i + bs.length ≤ h.next → (∀ j p, bs[j]? = some p → h.blk (i + j) = some ⟨p.2, false⟩) → Src es1 (mk1 i) h R1.length R1.flatten ∧ Src es2 (mk2 i) h R2.length R2.flatten
theorem struct_arg {H : Type} {enc : TypeId × Value → H} {P : Program} {w : World} {t : TypeId} {fs : Array Field} {pre : List Field} {f1 f2 : Field} {e1 e2 : TypeId} {L L1 L2 : List LeafK} {nn : Nat} (ht : P.underlying t = some (.struct fs)) (hfs : fs.toList = pre ++ [f1, f2])
    (hpre : leafFs P (leafs P nn) 0 pre = some L) (o1 : f1.offset = L.length) (o2 : f2.offset = L.length + 1) (hct : P.cellsOf t = L.length + 2) (c1 : P.cellsOf f1.type = 1) (c2 : P.cellsOf f2.type = 1)
    (u1 : P.underlying f1.type = some (.slice e1)) (u2 : P.underlying f2.type = some (.slice e2)) (l1 : leafs P nn e1 = some L1) (l2 : leafs P nn e2 = some L2) (hc1 : P.cellsOf e1 = L1.length) (hc2 : P.cellsOf e2 = L2.length) (p1 : 0 < L1.length) (p2 : 0 < L2.length)
    {ts : List TypeId} (hts : P.cellTypes P.depth t = some ts) (hn : P.cellsOf t = ts.length) (k1 : ts[L.length]? = some f1.type) (k2 : ts[L.length + 1]? = some f2.type)
    {v : Value} {d : DataW H} {ps : List MemPlace} (hv : Value.okWide P w .any 0 t v) (h : DataW.Trod enc P w 0 (fun _ => true) true t v d ps) :
    ∃ bs aa vs mk1 mk2 R1 R2, StructArg L1.length L2.length w v bs aa mk1 mk2 R1 R2 ∧ LeafsOk L aa vs ∧ ((∀ x ∈ d.weights P t, x ≤ reachBytes) → R1.length * P.bytesOf e1 ≤ reachBytes ∧ R2.length * P.bytesOf e2 ≤ reachBytes) ∧ (∀ r ∈ R1, ∃ vs, LeafsOk L1 r vs) ∧ ∀ r ∈ R2, ∃ vs, LeafsOk L2 r vs := by
  obtain ⟨cs, rfl, F⟩ := open_flat ht hts hn hv
  obtain ⟨fuel, hf⟩ := h
  have hf' : DataW.trod enc P w 0 (fun _ => true) true fuel t cs = some (d, ps) := hf
  obtain ⟨xs, n, rfl, hx, hlen, hxl, hel⟩ := DataW.trod_struct ht hf'
  rw [hct] at hlen
  have hsz : fs.size = pre.length + 2 := by rw [← Array.length_toList, hfs]; simp
  have g1 : fs[pre.length]? = some f1 := by rw [← Array.getElem?_toList, hfs]; simp
  have g2 : fs[pre.length + 1]? = some f2 := by rw [← Array.getElem?_toList, hfs]; simp
  obtain ⟨aa, ka⟩ := trod_leafFs (enc := enc) (w := w) (base := 0) (sp := fun _ => true) (held := true) nn n (fun t L cs x a b => trod_leafs nn n t L cs x a b) cs pre 0 L hpre fun f hf => by
    obtain ⟨i, hi⟩ := List.getElem?_of_mem hf
    have hlt : i < pre.length := (List.getElem?_eq_some_iff.1 hi).1
    have hi' : fs[i]? = some f := by rw [← Array.getElem?_toList, hfs, List.getElem?_append_left hlt]; exact hi
    exact ⟨xs[i]'(by omega), by rw [hel i f hi', List.getElem?_eq_getElem (by omega)]⟩
  rw [List.drop_zero] at ka
  have q1 := hel _ _ g1
  have q2 := hel _ _ g2
  rw [o1, c1] at q1
  rw [o2, c2] at q2
  obtain ⟨s1, hs1⟩ : ∃ s, cs[L.length]? = some s := ⟨_, List.getElem?_eq_getElem (by omega)⟩
  obtain ⟨s2, hs2⟩ : ∃ s, cs[L.length + 1]? = some s := ⟨_, List.getElem?_eq_getElem (by omega)⟩
  have d1 : (cs.drop L.length).take 1 = [s1] := by
    rw [List.drop_eq_getElem_cons (by omega)]
    simp only [List.take_succ_cons, List.take_zero]
    rw [List.getElem?_eq_getElem (by omega)] at hs1
    rw [Option.some.inj hs1]
  have d2 : (cs.drop (L.length + 1)).take 1 = [s2] := by
    rw [List.drop_eq_getElem_cons (by omega)]
    simp only [List.take_succ_cons, List.take_zero]
    rw [List.getElem?_eq_getElem (by omega)] at hs2
    rw [Option.some.inj hs2]
  rw [d1, List.getElem?_eq_getElem (by omega)] at q1
  rw [d2, List.getElem?_eq_getElem (by omega)] at q2
  have FR : ∀ (i : Nat) (ts : List TypeId) (cs : List Value), FlatRel P w .any 0 ts cs → ∀ u x, ts[i]? = some u → cs[i]? = some x → Cell.okWide P w .any 0 u x := by
    intro i
    induction i with
    | zero =>
      intro ts cs F u x hu hx
      cases ts with
      | nil => simp at hu
      | cons t ts =>
        obtain ⟨y, ys, rfl, h1, _⟩ := F.cons
        simp at hu hx
        subst hu hx
        exact h1
    | succ i ih =>
      intro ts cs F u x hu hx
      cases ts with
      | nil => simp at hu
      | cons t ts =>
        obtain ⟨y, ys, rfl, _, h2⟩ := F.cons
        exact ih ts ys h2 u x (by simpa using hu) (by simpa using hx)
  have ok1 : Value.okWide P w .any 0 f1.type s1 := by
    have := FR _ _ _ F _ _ k1 hs1
    unfold Value.okWide
    rw [u1]
    exact this
  have ok2 : Value.okWide P w .any 0 f2.type s2 := by
    have := FR _ _ _ F _ _ k2 hs2
    unfold Value.okWide
    rw [u2]
    exact this
  have sl1 : s1.cells.toList = [s1] := by
    obtain ⟨a0, len, cap, rfl⟩ := okWide_slice u1 ok1
    rfl
  have sl2 : s2.cells.toList = [s2] := by
    obtain ⟨a0, len, cap, rfl⟩ := okWide_slice u2 ok2
    rfl
  obtain ⟨b1, mk1, R1, A1, z1, f1'⟩ := rows_arg u1 l1 hc1 p1 ok1 (d := (xs[pre.length]'(by omega)).1) (ps := (xs[pre.length]'(by omega)).2) ⟨n, by rw [sl1]; exact q1⟩
  obtain ⟨b2, mk2, R2, A2, z2, f2'⟩ := rows_arg u2 l2 hc2 p2 ok2 (d := (xs[pre.length + 1]'(by omega)).1) (ps := (xs[pre.length + 1]'(by omega)).2) ⟨n, by rw [sl2]; exact q2⟩
  have hcs : cs = cs.take L.length ++ [s1, s2] := by
    have e1 : cs.drop L.length = [s1, s2] := by
      rw [List.drop_eq_getElem_cons (by omega), List.drop_eq_getElem_cons (by omega), List.drop_of_length_le (by omega)]
      rw [List.getElem?_eq_getElem (by omega)] at hs1 hs2
      rw [Option.some.inj hs1, Option.some.inj hs2]
    rw [← e1, List.take_append_drop]
  have oc : ∀ {x : Value} {u e : TypeId}, P.underlying u = some (.slice e) → Value.okWide P w .any 0 u x → x.oneCell' = true := by
    intro x u e hu hx
    obtain ⟨a0, len, cap, rfl⟩ := okWide_slice hu hx
    rfl
  refine ⟨b1 ++ b2, aa, cs.take L.length, mk1, fun i => mk2 (i + b1.length), R1, R2, ⟨fun φ i hi => ?_, fun φ p hp => ?_, fun hp i hn hi => ⟨?_, ?_⟩⟩, ka, fun hw => ⟨z1 fun x hx' => ?_, z2 fun x hx' => ?_⟩, f1', f2'⟩
  · have r1 := A1.rel φ i fun j p hj => hi j p (by rw [List.getElem?_append_left (List.getElem?_eq_some_iff.1 hj).1]; exact hj)
    have r2 := A2.rel φ (i + b1.length) fun j p hj => by
      have := hi (b1.length + j) p (by rw [List.getElem?_append_right (by omega), Nat.add_sub_cancel_left]; exact hj)
      rw [← Nat.add_assoc] at this
      exact this
    have key := vrels_two r1 r2 ka
    have := vrel_flat key fun u hu => by
      rcases List.mem_append.1 hu with hu | hu
      · exact leafs_cell ka u hu
      · simp only [List.mem_cons, List.not_mem_nil, or_false] at hu
        rcases hu with rfl | rfl
        · exact oc u1 ok1
        · exact oc u2 ok2
    rw [← hcs] at this
    exact this
  · rcases List.mem_append.1 hp with hp | hp
    · exact A1.ro φ p hp
    · exact A2.ro φ p hp
  · exact A1.src hp i (by simp at hn; omega) fun j p hj => hi j p (by rw [List.getElem?_append_left (List.getElem?_eq_some_iff.1 hj).1]; exact hj)
  · refine A2.src hp (i + b1.length) (by simp at hn; omega) fun j p hj => ?_
    have := hi (b1.length + j) p (by rw [List.getElem?_append_right (by omega), Nat.add_sub_cancel_left]; exact hj)
    rw [← Nat.add_assoc] at this
    exact this
  · have hd : d = .agg (xs.map (·.1)) := (Prod.mk.inj hx).1
    refine hw x ?_
    rw [hd]
    simp only [DataW.weights, ht]
    refine DataW.weights_mem_each (j := pre.length) (t := f1.type) (d := (xs[pre.length]'(by omega)).1) ?_ ?_ x hx'
    · rw [hfs]; simp
    · rw [List.getElem?_map, List.getElem?_eq_getElem (by omega)]; rfl
  · have hd : d = .agg (xs.map (·.1)) := (Prod.mk.inj hx).1
    refine hw x ?_
    rw [hd]
    simp only [DataW.weights, ht]
    refine DataW.weights_mem_each (j := pre.length + 1) (t := f2.type) (d := (xs[pre.length + 1]'(by omega)).1) ?_ ?_ x hx'
    · rw [hfs]; simp
    · rw [List.getElem?_map, List.getElem?_eq_getElem (by omega)]; rfl
theorem StructArg.hereP {es1 es2 : Nat} {w : World} {v : Value} {bs : List (Loc × List AVal)} {aa : List AVal} {mk1 mk2 : Nat → AVal} {R1 R2 : List (List AVal)} (A : StructArg es1 es2 w v bs aa mk1 mk2 R1 R2) (n : Nat) (g : List AVal) {B pre post : List (Loc × List AVal)} (hB : B = pre ++ (bs ++ post)) :
    VRel (pinPhi n B) (.agg (aa ++ [mk1 (pre.length + 2), mk2 (pre.length + 2)])) v ∧ (Src es1 (mk1 (pre.length + 2)) (pinHeap g B) R1.length R1.flatten ∧ Src es2 (mk2 (pre.length + 2)) (pinHeap g B) R2.length R2.flatten) ∧ ∀ p ∈ bs, RoOk (pinPhi n B) w p := by
  have hi : ∀ j : Nat, pre.length + 2 + j = (pre.length + j) + 2 := fun j => by omega
  refine ⟨A.rel _ _ fun j p hp => ?_, A.src _ _ ?_ fun j p hp => ?_, A.ro _⟩
  · rw [hi]
    simp only [pinPhi, ro_at hB hp, Option.map_some]
  · show pre.length + 2 + bs.length ≤ B.length + 2
    rw [hB]
    simp
    omega
  · rw [hi]
    simp only [pinHeap, ro_at hB hp, Option.map_some]
theorem IntsArg.hereP {k : IntKind} {w : World} {v : Value} {bs : List (Loc × List AVal)} {mk : Nat → AVal} {l : List Int} (A : IntsArg k w v bs mk l) (n : Nat) (g : List AVal) {B pre post : List (Loc × List AVal)} (hB : B = pre ++ (bs ++ post)) :
    VRel (pinPhi n B) (mk (pre.length + 2)) v ∧ Ints k (mk (pre.length + 2)) (pinHeap g B) l ∧ (∀ b, slBlk (mk (pre.length + 2)) = some b → b < (pinHeap g B).next) ∧ ∀ p ∈ bs, RoOk (pinPhi n B) w p := by
  have hi : ∀ j : Nat, pre.length + 2 + j = (pre.length + j) + 2 := fun j => by omega
  refine ⟨A.rel _ _ fun j p hp => ?_, A.ints _ _ fun j p hp => ?_, fun b hb => ?_, A.ro _⟩
  · rw [hi]
    simp only [pinPhi, ro_at hB hp, Option.map_some]
  · rw [hi]
    simp only [pinHeap, ro_at hB hp, Option.map_some]
  · have h1 := A.lt _ _ hb
    have h2 : B.length = pre.length + (bs.length + post.length) := by rw [hB]; simp
    show b < B.length + 2
    omega
end Go.Fw
