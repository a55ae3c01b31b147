import Derived.Test.YtllogmedpmanoaaFwP
/- One operation, apart from what goes on behind it: what it changes, and what of the frame it looks at. -/
namespace Go.Fw
set_option linter.unusedSimpArgs false
set_option linter.unusedVariables false

/-- What an operation changes of the frame. -/
inductive Upd where
  | set (d : Nat) (v : AVal)
  | setL (d l off : Nat)
  | newLoc (d : Nat) (cs : List AVal)
  | locW (l : Nat) (cs : List AVal)
  | nop

def Upd.app (u : Upd) (s : Env) : Env :=
  match u with
  | .set d v => s.set d v
  | .setL d l off => s.setL d l off
  | .newLoc d cs => s.newLoc d cs
  | .locW l cs => { s with locs := setB s.locs l cs }
  | .nop => s

def stepR (call : Call) (g : Bool) (o : AOp) (s : Env) (h : Heap) : Option (Upd × Heap) :=
  match o with
  | .mov d x => (match s.lad x with | some (l, o) => some (.setL d l o, h) | none => some (.set d (s.ev x), h))
  | .pick d c a b => (aPick (s.ev c) (s.ev a) (s.ev b)).bind fun v => some (.set d v, h)
  | .bin d op tag x y => (aBin op tag (s.ev x) (s.ev y)).bind fun v => some (.set d v, h)
  | .un d op x => (aUn op (s.ev x)).bind fun v => some (.set d v, h)
  | .conv d c x => (aConv c (s.ev x) h).bind fun r => some (.set d r.1, r.2)
  | .box d true x => bif !g && s.fresh d then (s.ev x).cells?.bind fun cs => some (.newLoc d cs, h) else none
  | .box d false x => (s.ev x).cells?.bind fun cs => some (.set d (.ptr h.next 0), h.alloc cs)
  | .alloc d true zero => bif !g && s.fresh d then some (.newLoc d zero, h) else none
  | .alloc d false zero => some (.set d (.ptr h.next 0), h.alloc zero)
  | .build d zero parts => (aFill zero (parts.map fun p => (p.1, p.2.1, s.ev p.2.2))).bind fun cs => some (.set d (.agg cs), h)
  | .buildSl d zero es len parts =>
    (aFill (reps zero len) (parts.map fun p => (p.1 * es, es, s.ev p.2))).bind fun cs => some (.set d (.slice h.next 0 len len es true), h.alloc cs)
  | .load d agg n x =>
    (match s.lad x with
     | some (l, off) => ((lookB s.locs l).bind fun cs => rdL cs off n).bind fun cs => (fromCells agg cs).bind fun v => some (.set d v, h)
     | none => (aLoad h n (s.ev x)).bind fun cs => (fromCells agg cs).bind fun v => some (.set d v, h))
  | .store _ n x v =>
    (aCells n (s.ev v)).bind fun cs =>
    (match s.lad x with
     | some (l, off) => bif !g then (lookB s.locs l).bind fun old => bif Nat.ble (off + n) old.length then some (.locW l (splice old off cs), h) else none else none
     | none => (aStore h (s.ev x) cs).bind fun h' => some (.nop, h'))
  | .nilchk d x => (match s.lad x with | some (l, o) => some (.setL d l o, h) | none => (aNilchk (s.ev x)).bind fun v => some (.set d v, h))
  | .field d agg off n x => (aField off n (s.ev x)).bind fun cs => (fromCells agg cs).bind fun v => some (.set d v, h)
  | .faddr d off x => (match s.lad x with | some (l, o) => some (.setL d l (o + off), h) | none => (aFaddr off (s.ev x)).bind fun v => some (.set d v, h))
  | .iaddr d (some len) es x i =>
    (match s.lad x with
     | some (l, o) => (aIdx len (s.ev i)).bind fun j => some (.setL d l (o + j * es), h)
     | none => (aIaddrA len es (s.ev x) (s.ev i)).bind fun v => some (.set d v, h))
  | .iaddr d none es x i => (aIaddr es (s.ev x) (s.ev i)).bind fun v => some (.set d v, h)
  | .index d .str x i => (aIndexStr (s.ev x) (s.ev i)).bind fun v => some (.set d v, h)
  | .index d (.arr len es agg) x i => (aIndexArr len es (s.ev x) (s.ev i)).bind fun cs => (fromCells agg cs).bind fun v => some (.set d v, h)
  | .slice d .str x lo hi _ => (aSliceStr (s.ev x) (lo.map s.ev) (hi.map s.ev)).bind fun v => some (.set d v, h)
  | .slice d (.sl es) x lo hi mx => (aSliceSl es (s.ev x) (lo.map s.ev) (hi.map s.ev) (mx.map s.ev)).bind fun v => some (.set d v, h)
  | .slice d (.arr n es) x lo hi mx => (aSliceArr n es (s.ev x) (lo.map s.ev) (hi.map s.ev) (mx.map s.ev)).bind fun v => some (.set d v, h)
  | .mkSlice d es bytes zero len cap => (aMkSlice es bytes zero (s.ev len) (s.ev cap) h).bind fun r => some (.set d r.1, r.2)
  | .mkIface d t x => some (.set d (.iface t (s.ev x)), h)
  | .extract d x i => (aExtract i (s.ev x)).bind fun v => some (.set d v, h)
  | .tassert d tbl x => (aAssert tbl (s.ev x)).bind fun v => some (.set d v, h)
  | .mkFunc d f caps => some (.set d (.func f (caps.map s.ev)), h)
  | .call d f args => (call f (args.map s.ev) h).bind fun r => some (.set d r.1, r.2)
  | .callv d fn args => (aFn (s.ev fn)).bind fun fc => (call fc.1 (args.map s.ev ++ fc.2) h).bind fun r => some (.set d r.1, r.2)
  | .invoke d tbl recv args => (aMeth tbl (s.ev recv)).bind fun fr => (call fr.1 (fr.2 :: args.map s.ev) h).bind fun r => some (.set d r.1, r.2)
  | .append d es bytes zero zeros sl x => (aAppend es bytes zero zeros (s.ev sl) (s.ev x) h).bind fun r => some (.set d r.1, r.2)
  | .copy d es dst src => (aCopy es (s.ev dst) (s.ev src) h).bind fun r => some (.set d r.1, r.2)
  | .clear _ zero sl => (aClear zero (s.ev sl) h).bind fun r => some (.nop, r.2)
  | .len d str x => (aLen str (s.ev x)).bind fun v => some (.set d v, h)
  | .cap d x => (aCap (s.ev x)).bind fun v => some (.set d v, h)
  | .minmax d mx xs => (aMinMaxL mx (xs.map s.ev)).bind fun v => some (.set d v, h)
  | .fl d j sl zero parts => (flCells sl zero (parts.map fun p => (p.1, s.ev p.2))).bind fun cs => some (.set d (flVal sl (s.base + j)), h.setBlk (s.base + j) (some ⟨cs, true⟩))

theorem stepOp_eq (call : Call) (g : Bool) (ao : AOp) (s : Env) (h : Heap) (k : Env → Heap → Option J) : stepOp call g ao s h k = (stepR call g ao s h).bind fun r => k (r.1.app s) r.2 := by
  cases ao with
  | box d loc x =>
    cases loc with
    | true => cases g <;> cases hf : s.fresh d <;> simp [stepOp, stepR, hf, Upd.app, Option.bind_assoc]
    | false => simp [stepOp, stepR, Upd.app, Option.bind_assoc]
  | alloc d loc zero =>
    cases loc with
    | true => cases g <;> cases hf : s.fresh d <;> simp [stepOp, stepR, hf, Upd.app]
    | false => simp [stepOp, stepR, Upd.app]
  | iaddr d arr es x i =>
    cases arr with
    | none => simp [stepOp, stepR, Upd.app, Option.bind_assoc]
    | some len => cases hl : s.lad x <;> simp [stepOp, stepR, hl, Upd.app, Option.bind_assoc]
  | index d kk x i => cases kk <;> simp [stepOp, stepR, Upd.app, Option.bind_assoc]
  | slice d kk x lo hi mx => cases kk <;> simp [stepOp, stepR, Upd.app, Option.bind_assoc]
  | mov d x => cases hl : s.lad x <;> simp [stepOp, stepR, hl, Upd.app]
  | nilchk d x => cases hl : s.lad x <;> simp [stepOp, stepR, hl, Upd.app, Option.bind_assoc]
  | faddr d off x => cases hl : s.lad x <;> simp [stepOp, stepR, hl, Upd.app, Option.bind_assoc]
  | load d agg n x => cases hl : s.lad x <;> simp [stepOp, stepR, hl, Upd.app, Option.bind_assoc]
  | store agg n x v =>
    cases hl : s.lad x with
    | none => simp [stepOp, stepR, hl, Upd.app, Option.bind_assoc]
    | some p =>
      cases hc : aCells n (s.ev v) with
      | none => simp [stepOp, stepR, hc]
      | some cs =>
        cases g with
        | true => simp [stepOp, stepR, hl, hc]
        | false =>
          cases hb : lookB s.locs p.1 with
          | none => simp [stepOp, stepR, hl, hc, hb]
          | some old =>
            cases hn : Nat.ble (p.2 + n) old.length <;> simp only [stepOp, stepR, hl, hc, hb, hn, Option.bind_some, Bool.not_false, cond_true, cond_false, Upd.app, Option.bind_none]
  | _ => simp [stepOp, stepR, Upd.app, Option.bind_assoc]

/-- The operands of an operation. -/
def aoOpds : AOp → List AOpd
  | .mov _ x | .un _ _ x | .conv _ _ x | .box _ _ x | .load _ _ _ x | .nilchk _ x | .field _ _ _ _ x | .faddr _ _ x | .mkIface _ _ x | .extract _ x _ | .tassert _ _ x | .clear _ _ x | .len _ _ x | .cap _ x => [x]
  | .pick _ c a b => [c, a, b]
  | .bin _ _ _ x y | .store _ _ x y | .iaddr _ _ _ x y | .index _ _ x y | .mkSlice _ _ _ _ x y | .append _ _ _ _ _ x y | .copy _ _ x y => [x, y]
  | .alloc _ _ _ => []
  | .build _ _ parts => parts.map (·.2.2)
  | .buildSl _ _ _ _ parts => parts.map (·.2)
  | .slice _ _ x lo hi mx => x :: (lo.toList ++ hi.toList ++ mx.toList)
  | .mkFunc _ _ caps => caps
  | .call _ _ args => args
  | .callv _ fn args => fn :: args
  | .invoke _ _ recv args => recv :: args
  | .minmax _ _ xs => xs
  | .fl _ _ _ _ parts => parts.map (·.2)

theorem stepR_congr {call : Call} {g : Bool} {ao : AOp} {s S : Env} {h : Heap} (hev : ∀ x ∈ aoOpds ao, S.ev x = s.ev x) (hlad : ∀ x ∈ aoOpds ao, S.lad x = s.lad x) (hloc : S.locs = s.locs) (hbase : isFl ao = true → S.base = s.base) : stepR call g ao S h = stepR call g ao s h := by
  have hfr : ∀ d, S.fresh d = s.fresh d := fun d => by unfold Env.fresh; rw [hloc]
  have hopt : ∀ o : Option AOpd, (∀ x ∈ o.toList, S.ev x = s.ev x) → o.map S.ev = o.map s.ev := fun o ho => by
    cases o with
    | none => rfl
    | some x => simp only [Option.map_some]; rw [ho x (by simp)]
  have hmap : ∀ l : List AOpd, (∀ x ∈ l, S.ev x = s.ev x) → l.map S.ev = l.map s.ev := fun l hl => List.map_congr_left hl
  cases ao with
  | box d loc x => cases loc <;> simp only [stepR, hfr, hev x (by simp [aoOpds])]
  | alloc d loc zero => cases loc <;> simp only [stepR, hfr]
  | iaddr d arr es x i => cases arr <;> simp only [stepR, hev x (by simp [aoOpds]), hev i (by simp [aoOpds]), hlad x (by simp [aoOpds])]
  | index d kk x i => cases kk <;> simp only [stepR, hev x (by simp [aoOpds]), hev i (by simp [aoOpds])]
  | slice d kk x lo hi mx =>
    have h1 := hopt lo (fun y hy => hev y (by simp only [aoOpds]; simp [hy]))
    have h2 := hopt hi (fun y hy => hev y (by simp only [aoOpds]; simp [hy]))
    have h3 := hopt mx (fun y hy => hev y (by simp only [aoOpds]; simp [hy]))
    cases kk <;> simp only [stepR, hev x (by simp [aoOpds]), h1, h2, h3]
  | build d zero parts =>
    have : (parts.map fun p => (p.1, p.2.1, S.ev p.2.2)) = parts.map fun p => (p.1, p.2.1, s.ev p.2.2) := List.map_congr_left fun p hp => by rw [hev p.2.2 (by simp only [aoOpds]; exact List.mem_map_of_mem hp)]
    simp only [stepR, this]
  | buildSl d zero es len parts =>
    have : (parts.map fun p => (p.1 * es, es, S.ev p.2)) = parts.map fun p => (p.1 * es, es, s.ev p.2) := List.map_congr_left fun p hp => by rw [hev p.2 (by simp only [aoOpds]; exact List.mem_map_of_mem hp)]
    simp only [stepR, this]
  | mkFunc d f caps => simp only [stepR, hmap caps (fun x hx => hev x (by simpa [aoOpds] using hx))]
  | call d f args => simp only [stepR, hmap args (fun x hx => hev x (by simpa [aoOpds] using hx))]
  | callv d fn args => simp only [stepR, hmap args (fun x hx => hev x (by simp [aoOpds, hx])), hev fn (by simp [aoOpds])]
  | invoke d tbl recv args => simp only [stepR, hmap args (fun x hx => hev x (by simp [aoOpds, hx])), hev recv (by simp [aoOpds])]
  | minmax d mx xs => simp only [stepR, hmap xs (fun x hx => hev x (by simpa [aoOpds] using hx))]
  | fl d j sl zero parts =>
    have : (parts.map fun p => (p.1, S.ev p.2)) = parts.map fun p => (p.1, s.ev p.2) := List.map_congr_left fun p hp => by rw [hev p.2 (by simp only [aoOpds]; exact List.mem_map_of_mem hp)]
    simp only [stepR, this, hbase rfl]
  | pick d c a b => simp only [stepR, hev c (by simp [aoOpds]), hev a (by simp [aoOpds]), hev b (by simp [aoOpds])]
  | bin d op tag x y => simp only [stepR, hev x (by simp [aoOpds]), hev y (by simp [aoOpds])]
  | store agg m x y => simp only [stepR, hev x (by simp [aoOpds]), hev y (by simp [aoOpds]), hlad x (by simp [aoOpds]), hloc]
  | mkSlice d es bytes zero x y => simp only [stepR, hev x (by simp [aoOpds]), hev y (by simp [aoOpds])]
  | append d es bytes zero zeros x y => simp only [stepR, hev x (by simp [aoOpds]), hev y (by simp [aoOpds])]
  | copy d es x y => simp only [stepR, hev x (by simp [aoOpds]), hev y (by simp [aoOpds])]
  | load d agg m x => simp only [stepR, hev x (by simp [aoOpds]), hlad x (by simp [aoOpds]), hloc]
  | mov d x | un d op x | conv d c x | nilchk d x | field d agg off m x | faddr d off x | mkIface d t x | extract d x i | tassert d tbl x | clear d zero x | len d str x | cap d x =>
    simp only [stepR, hev x (by simp [aoOpds]), hlad x (by simp [aoOpds])]

/-- Those whose order among each other the regions keep: what writes, and what makes blocks. -/
def isEff : AOp → Bool
  | .store .. | .call .. | .callv .. | .invoke .. | .append .. | .copy .. | .clear .. | .box .. | .alloc .. | .buildSl .. | .mkSlice .. | .fl .. | .conv _ .strBytes _ | .conv _ .slBytes _ => true
  | _ => false

/-- What is read stays. -/
def sameRd (a : Option Log) (β : List (Nat × List AVal)) (h : Heap) (β' : List (Nat × List AVal)) (h' : Heap) : Prop :=
  match a with
  | some (.rd b off n) => h.rd b off n = h'.rd b off n
  | some (.lrd l off n) => ((lookB β l).bind fun c => rdL c off n) = ((lookB β' l).bind fun c => rdL c off n)
  | _ => True

theorem stepR_pure {call : Call} {g : Bool} {ao : AOp} (he : isEff ao = false) {s : Env} {h : Heap} {u : Upd} {h' : Heap} (hr : stepR call g ao s h = some (u, h')) {s' : Env} {k' : Heap} :
    h' = h ∧ (∀ S : Env, (u.app S).locs = S.locs) ∧ ∀ (S : Env) (H : Heap), (∀ x ∈ aoOpds ao, S.ev x = s.ev x) → (∀ x ∈ aoOpds ao, S.lad x = s.lad x) → sameRd (logOf ao s h s' k') s.locs h S.locs H → stepR call g ao S H = some (u, H) := by
  have hopt : ∀ (S : Env) (o : Option AOpd), (∀ x ∈ o.toList, S.ev x = s.ev x) → o.map S.ev = o.map s.ev := fun S o ho => by
    cases o with
    | none => rfl
    | some x => simp only [Option.map_some]; rw [ho x (by simp)]
  have hmap : ∀ (S : Env) (l : List AOpd), (∀ x ∈ l, S.ev x = s.ev x) → l.map S.ev = l.map s.ev := fun S l hl => List.map_congr_left hl
  have key : ∀ (d : Nat) (f : Env → Option AVal), (∀ S H, stepR call g ao S H = (f S).bind fun v => some (.set d v, H)) → (∀ S : Env, (∀ x ∈ aoOpds ao, S.ev x = s.ev x) → f S = f s) →
      h' = h ∧ (∀ S : Env, (u.app S).locs = S.locs) ∧ ∀ (S : Env) (H : Heap), (∀ x ∈ aoOpds ao, S.ev x = s.ev x) → (∀ x ∈ aoOpds ao, S.lad x = s.lad x) → sameRd (logOf ao s h s' k') s.locs h S.locs H → stepR call g ao S H = some (u, H) := by
    intro d f h1 h2
    rw [h1] at hr
    simp only [Option.bind_eq_some_iff, Option.some.injEq, Prod.mk.injEq] at hr
    obtain ⟨v, hv, rfl, rfl⟩ := hr
    exact ⟨rfl, fun S => rfl, fun S H e1 _ _ => by rw [h1, h2 S e1, hv]; rfl⟩
  cases ao with
  | pick d c a b => exact key d _ (fun S H => rfl) (fun S e => by simp only [e c (by simp [aoOpds]), e a (by simp [aoOpds]), e b (by simp [aoOpds])])
  | bin d op tag x y => exact key d _ (fun S H => rfl) (fun S e => by simp only [e x (by simp [aoOpds]), e y (by simp [aoOpds])])
  | un d op x => exact key d _ (fun S H => rfl) (fun S e => by simp only [e x (by simp [aoOpds])])
  | build d zero parts =>
    refine key d (fun S => (aFill zero (parts.map fun p => (p.1, p.2.1, S.ev p.2.2))).bind fun cs => some (.agg cs)) (fun S H => by simp [stepR, Option.bind_assoc]) (fun S e => ?_)
    have : (parts.map fun p => (p.1, p.2.1, S.ev p.2.2)) = parts.map fun p => (p.1, p.2.1, s.ev p.2.2) := List.map_congr_left fun p hp => by rw [e p.2.2 (by simp only [aoOpds]; exact List.mem_map_of_mem hp)]
    simp only [this]
  | field d agg off m x => exact key d (fun S => (aField off m (S.ev x)).bind fun cs => fromCells agg cs) (fun S H => by simp [stepR, Option.bind_assoc]) (fun S e => by simp only [e x (by simp [aoOpds])])
  | index d kk x i =>
    cases kk with
    | str => exact key d _ (fun S H => rfl) (fun S e => by simp only [e x (by simp [aoOpds]), e i (by simp [aoOpds])])
    | arr len es agg => exact key d (fun S => (aIndexArr len es (S.ev x) (S.ev i)).bind fun cs => fromCells agg cs) (fun S H => by simp [stepR, Option.bind_assoc]) (fun S e => by simp only [e x (by simp [aoOpds]), e i (by simp [aoOpds])])
  | slice d kk x lo hi mx =>
    have h1 : ∀ S : Env, (∀ y ∈ aoOpds (.slice d kk x lo hi mx), S.ev y = s.ev y) → lo.map S.ev = lo.map s.ev ∧ hi.map S.ev = hi.map s.ev ∧ mx.map S.ev = mx.map s.ev := fun S e =>
      ⟨hopt S lo (fun y hy => e y (by simp only [aoOpds]; simp [hy])), hopt S hi (fun y hy => e y (by simp only [aoOpds]; simp [hy])), hopt S mx (fun y hy => e y (by simp only [aoOpds]; simp [hy]))⟩
    cases kk with
    | str => exact key d _ (fun S H => rfl) (fun S e => by simp only [e x (by simp [aoOpds]), (h1 S e).1, (h1 S e).2.1])
    | sl es => exact key d _ (fun S H => rfl) (fun S e => by simp only [e x (by simp [aoOpds]), (h1 S e).1, (h1 S e).2.1, (h1 S e).2.2])
    | arr m es => exact key d (fun S => aSliceArr m es (S.ev x) (lo.map S.ev) (hi.map S.ev) (mx.map S.ev)) (fun S H => by simp only [stepR]) (fun S e => by simp only [e x (by simp [aoOpds]), (h1 S e).1, (h1 S e).2.1, (h1 S e).2.2])
  | extract d x i => exact key d _ (fun S H => rfl) (fun S e => by simp only [e x (by simp [aoOpds])])
  | tassert d tbl x => exact key d _ (fun S H => rfl) (fun S e => by simp only [e x (by simp [aoOpds])])
  | len d str x => exact key d _ (fun S H => rfl) (fun S e => by simp only [e x (by simp [aoOpds])])
  | cap d x => exact key d _ (fun S H => rfl) (fun S e => by simp only [e x (by simp [aoOpds])])
  | minmax d mx xs => exact key d _ (fun S H => rfl) (fun S e => by simp only [hmap S xs (fun x hx => e x (by simpa [aoOpds] using hx))])
  | mkIface d t x => exact key d (fun S => some (.iface t (S.ev x))) (fun S H => rfl) (fun S e => by simp only [e x (by simp [aoOpds])])
  | mkFunc d f caps => exact key d (fun S => some (.func f (caps.map S.ev))) (fun S H => rfl) (fun S e => by simp only [hmap S caps (fun x hx => e x (by simpa [aoOpds] using hx))])
  | mov d x =>
    simp only [stepR] at hr
    split at hr
    · rename_i l o hl
      cases hr
      exact ⟨rfl, fun S => rfl, fun S H e1 e2 _ => by simp only [stepR, e2 x (by simp [aoOpds]), hl]⟩
    · rename_i hl
      cases hr
      exact ⟨rfl, fun S => rfl, fun S H e1 e2 _ => by simp only [stepR, e2 x (by simp [aoOpds]), hl, e1 x (by simp [aoOpds])]⟩
  | nilchk d x =>
    simp only [stepR] at hr
    split at hr
    · rename_i l o hl
      cases hr
      exact ⟨rfl, fun S => rfl, fun S H e1 e2 _ => by simp only [stepR, e2 x (by simp [aoOpds]), hl]⟩
    · rename_i hl
      simp only [Option.bind_eq_some_iff, Option.some.injEq, Prod.mk.injEq] at hr
      obtain ⟨v, hv, rfl, rfl⟩ := hr
      exact ⟨rfl, fun S => rfl, fun S H e1 e2 _ => by simp only [stepR, e2 x (by simp [aoOpds]), hl, e1 x (by simp [aoOpds]), hv, Option.bind_some]⟩
  | faddr d off x =>
    simp only [stepR] at hr
    split at hr
    · rename_i l o hl
      cases hr
      exact ⟨rfl, fun S => rfl, fun S H e1 e2 _ => by simp only [stepR, e2 x (by simp [aoOpds]), hl]⟩
    · rename_i hl
      simp only [Option.bind_eq_some_iff, Option.some.injEq, Prod.mk.injEq] at hr
      obtain ⟨v, hv, rfl, rfl⟩ := hr
      exact ⟨rfl, fun S => rfl, fun S H e1 e2 _ => by simp only [stepR, e2 x (by simp [aoOpds]), hl, e1 x (by simp [aoOpds]), hv, Option.bind_some]⟩
  | iaddr d arr es x i =>
    cases arr with
    | none => exact key d _ (fun S H => rfl) (fun S e => by simp only [e x (by simp [aoOpds]), e i (by simp [aoOpds])])
    | some len =>
      simp only [stepR] at hr
      split at hr
      · rename_i l o hl
        simp only [Option.bind_eq_some_iff, Option.some.injEq, Prod.mk.injEq] at hr
        obtain ⟨v, hv, rfl, rfl⟩ := hr
        exact ⟨rfl, fun S => rfl, fun S H e1 e2 _ => by simp only [stepR, e2 x (by simp [aoOpds]), hl, e1 i (by simp [aoOpds]), hv, Option.bind_some]⟩
      · rename_i hl
        simp only [Option.bind_eq_some_iff, Option.some.injEq, Prod.mk.injEq] at hr
        obtain ⟨v, hv, rfl, rfl⟩ := hr
        exact ⟨rfl, fun S => rfl, fun S H e1 e2 _ => by simp only [stepR, e2 x (by simp [aoOpds]), hl, e1 x (by simp [aoOpds]), e1 i (by simp [aoOpds]), hv, Option.bind_some]⟩
  | conv d c x =>
    cases c with
    | strBytes => cases he
    | toInt kk =>
      refine key d (fun S => match S.ev x with | .int _ m => some (.int kk (kk.wrap m)) | _ => none) (fun S H => ?_) (fun S e => by simp only [e x (by simp [aoOpds])])
      simp only [stepR, aConv]
      cases S.ev x <;> rfl
    | strStr =>
      refine key d (fun S => match S.ev x with | .str l => some (.str l) | _ => none) (fun S H => ?_) (fun S e => by simp only [e x (by simp [aoOpds])])
      simp only [stepR, aConv]
      cases S.ev x <;> rfl
    | slBytes => cases he
    | intStr =>
      refine key d (fun S => match S.ev x with | .int _ m => some (.str (Utf8.encode m).data.toList) | _ => none) (fun S H => ?_) (fun S e => by simp only [e x (by simp [aoOpds])])
      simp only [stepR, aConv]
      cases S.ev x <;> rfl
    | bytesStr =>
      simp only [stepR] at hr
      cases hx : s.ev x with
      | nilSlice =>
        simp only [hx, aConv, Option.bind_some, Option.some.injEq, Prod.mk.injEq] at hr
        obtain ⟨rfl, rfl⟩ := hr
        exact ⟨rfl, fun S => rfl, fun S H e1 e2 _ => by simp only [stepR, e1 x (by simp [aoOpds]), hx, aConv, Option.bind_some]⟩
      | slice b off len cap es ex =>
        simp only [hx, aConv] at hr
        cases hb : Nat.beq es 1 with
        | false => rw [hb] at hr; cases hr
        | true =>
          rw [hb] at hr
          simp only [cond_true, Option.bind_eq_some_iff, Option.some.injEq, Prod.mk.injEq] at hr
          obtain ⟨r, ⟨cs, hcs, l, hl, rfl⟩, rfl, rfl⟩ := hr
          refine ⟨rfl, fun S => rfl, fun S H e1 e2 e3 => ?_⟩
          have e4 : h.rd b off len = H.rd b off len := by simpa only [sameRd, logOf, logBs, hx] using e3
          simp only [stepR, e1 x (by simp [aoOpds]), hx, aConv, hb, cond_true, ← e4, hcs, Option.bind_some, hl]
      | _ => simp [hx, aConv] at hr
  | load d agg m x =>
    simp only [stepR] at hr
    split at hr
    · rename_i l off hl
      simp only [Option.bind_eq_some_iff, Option.some.injEq, Prod.mk.injEq] at hr
      obtain ⟨cs, ⟨cs0, hc0, hcs⟩, v, hv, rfl, rfl⟩ := hr
      refine ⟨rfl, fun S => rfl, fun S H e1 e2 e3 => ?_⟩
      have e4 : ((lookB s.locs l).bind fun c => rdL c off m) = ((lookB S.locs l).bind fun c => rdL c off m) := by simpa only [sameRd, logOf, hl] using e3
      simp only [stepR, e2 x (by simp [aoOpds]), hl]
      rw [← e4]
      simp only [hc0, Option.bind_some, hcs, hv]
    · rename_i hl
      simp only [Option.bind_eq_some_iff, Option.some.injEq, Prod.mk.injEq] at hr
      obtain ⟨cs, hcs, v, hv, rfl, rfl⟩ := hr
      refine ⟨rfl, fun S => rfl, fun S H e1 e2 e3 => ?_⟩
      have e4 : aLoad H m (s.ev x) = aLoad h m (s.ev x) := by
        unfold aLoad at hcs ⊢
        split at hcs
        · rename_i b off hx
          have : h.rd b off m = H.rd b off m := by simpa only [sameRd, logOf, hl, logRd, hx] using e3
          exact this.symm
        · cases hcs
      simp only [stepR, e2 x (by simp [aoOpds]), hl, e1 x (by simp [aoOpds]), e4, hcs, Option.bind_some, hv]
  | _ => cases he

end Go.Fw

/- The way that a region's abstract run goes in the order of the text: what each operation saw, and what it changed. -/
namespace Go.Fw
set_option linter.unusedSimpArgs false
set_option linter.unusedVariables false

abbrev View := AVal × Option (Nat × Nat)
def Env.view (s : Env) (t : Nat) : View := (s.get t, lookA s.lads t)

def Upd.view : Upd → View
  | .set _ v => (v, none)
  | .setL _ l o => (.undef, some (l, o))
  | .newLoc d _ => (.undef, some (d, 0))
  | _ => (.undef, none)

structure Ev where
  gd : Option (Nat × Bool)
  i : Nat
  ao : AOp
  on : Bool
  g : Bool
  s : Env
  h : Heap
  u : Upd
  h' : Heap

namespace Ev
set_option linter.unusedSimpArgs false
set_option linter.unusedVariables false
def rec' (e : Ev) : View := bif e.on then e.u.view else (skipV, none)
def updV (e : Ev) (V : Nat → View) : Nat → View := fun t => if opDst e.ao = some t then e.rec' else V t
def updH (e : Ev) (H : Heap) : Heap := bif e.on then e.h' else H
def updL (e : Ev) (l : List (Nat × List AVal)) : List (Nat × List AVal) := bif e.on then (e.u.app e.s).locs else l
def logv (e : Ev) : Option Log := logOf e.ao e.s e.h (e.u.app e.s) e.h'
def key (e : Ev) : Option (Nat × Bool) × Nat × AOp := (e.gd, e.i, e.ao)
end Ev

def aoTmps (o : AOp) : List Nat := (aoOpds o).filterMap fun | .tmp t => some t | .const _ => none

structure EvOk (call : Call) (V : Nat → View) (H : Heap) (l : List (Nat × List AVal)) (e : Ev) : Prop where
  h : e.on = true → e.h = H
  l : e.on = true → e.s.locs = l
  step : e.on = true → stepR call e.g e.ao e.s e.h = some (e.u, e.h')
  opds : e.on = true → ∀ t ∈ aoTmps e.ao, e.s.view t = V t
  guard : ∀ t want, e.gd = some (t, want) → (V t = (.bool want, none) ∧ e.on = true) ∨ ((V t = (.bool !want, none) ∨ V t = (skipV, none)) ∧ e.on = false)
  free : e.gd = none → e.on = true

def EvsOk (call : Call) (V : Nat → View) (H : Heap) (l : List (Nat × List AVal)) : List Ev → Prop
  | [] => True
  | e :: r => EvOk call V H l e ∧ EvsOk call (e.updV V) (e.updH H) (e.updL l) r

def vRun (V : Nat → View) (evs : List Ev) : Nat → View := evs.foldl (fun V e => e.updV V) V
def hRun (H : Heap) (evs : List Ev) : Heap := evs.foldl (fun H e => e.updH H) H
def lRun (l : List (Nat × List AVal)) (evs : List Ev) : List (Nat × List AVal) := evs.foldl (fun l e => e.updL l) l

theorem EvsOk.append {call : Call} : ∀ {as bs : List Ev} {V : Nat → View} {H : Heap} {l : List (Nat × List AVal)}, EvsOk call V H l as → EvsOk call (vRun V as) (hRun H as) (lRun l as) bs → EvsOk call V H l (as ++ bs)
  | [], _, _, _, _, _, h => h
  | _ :: _, _, _, _, _, h, k => ⟨h.1, EvsOk.append h.2 k⟩

theorem EvsOk.at {call : Call} : ∀ {as : List Ev} {e : Ev} {bs : List Ev} {V : Nat → View} {H : Heap} {l : List (Nat × List AVal)}, EvsOk call V H l (as ++ e :: bs) → EvOk call (vRun V as) (hRun H as) (lRun l as) e
  | [], _, _, _, _, _, h => h.1
  | _ :: as, _, _, _, _, _, h => EvsOk.at (as := as) h.2

/-- Which temporaries are no addresses of local blocks for sure; which are gone behind a guard. -/
def nlOpd (nl : List Nat) : AOpd → Bool
  | .const _ => true
  | .tmp t => nl.contains t
def nlOp (nl : List Nat) : AOp → List Nat
  | .mov d x | .nilchk d x | .faddr d _ x | .iaddr d (some _) _ x _ => bif nlOpd nl x then d :: nl else nl.filter (· != d)
  | .box d true _ | .alloc d true _ => nl.filter (· != d)
  | o => (opDst o).toList ++ nl

def idxs (items : List AItem) : List Nat := (flatItems none items).map (·.2.1)

mutual
def scopeItem (drop nl : List Nat) : AItem → Option (List Nat × List Nat)
  | .op _ o => bif (aoTmps o).all (fun t => !drop.contains t) && (opDst o).toList.all (fun t => !drop.contains t) then some (drop, nlOp nl o) else none
  | .guard t _ items ps live =>
    bif !drop.contains t && ps.all (fun p => (idxs items).contains p.1) then
      match scopeItems drop nl items with
      | some (drop1, nl1) => bif live.all fun l => !drop1.contains l then some (drop1 ++ (itemsDsts items).filter (fun d => !live.contains d), nl.filter fun d => !(itemsDsts items).contains d) else none
      | none => none
    else none
def scopeItems (drop nl : List Nat) : List AItem → Option (List Nat × List Nat)
  | [] => some (drop, nl)
  | x :: r => match scopeItem drop nl x with | some (d, n) => scopeItems d n r | none => none
end

mutual
def innerPair : AItem → List (Nat × Nat)
  | .op _ _ => []
  | .guard _ _ items ps _ => ps ++ innerPairs items
def innerPairs : List AItem → List (Nat × Nat)
  | [] => []
  | x :: r => innerPair x ++ innerPairs r
end
theorem innerPairs_op (i : Nat) (o : AOp) (r : List AItem) : innerPairs (.op i o :: r) = innerPairs r := by simp [innerPairs, innerPair]
theorem innerPairs_guard (t : Nat) (w : Bool) (items : List AItem) (ps : List (Nat × Nat)) (live : List Nat) (r : List AItem) : innerPairs (.guard t w items ps live :: r) = ps ++ innerPairs items ++ innerPairs r := by simp [innerPairs, innerPair]

def PairOk (evs : List Ev) (p : Nat × Nat) : Prop :=
  (∃ e ∈ evs, e.i = p.1 ∧ e.on = false) ∨ (∃ ei ∈ evs, ∃ eq ∈ evs, ei.i = p.1 ∧ eq.i = p.2 ∧ ei.on = true ∧ eq.on = true ∧ pairOk ei.logv eq.logv = true)

theorem PairOk.mono {a b : List Ev} (h : ∀ e ∈ a, e ∈ b) {p : Nat × Nat} : PairOk a p → PairOk b p
  | .inl ⟨e, he, r⟩ => .inl ⟨e, h e he, r⟩
  | .inr ⟨e, he, q, hq, r⟩ => .inr ⟨e, h e he, q, h q hq, r⟩

structure Scope (s : Env) (V : Nat → View) (drop nl : List Nat) : Prop where
  seen : ∀ t, t ∉ drop → s.view t = V t
  weak : ∀ t, s.view t = V t ∨ s.view t = (.undef, none)
  nl : ∀ t ∈ nl, (V t).2 = none

theorem get_of_view {s : Env} {t : Nat} {v : AVal} (h : s.view t = (v, none)) : s.get t = v ∧ lookA s.lads t = none := by
  simp only [Env.view, Prod.mk.injEq] at h
  exact h

theorem view_app {call : Call} {g : Bool} {ao : AOp} {s : Env} {h : Heap} {u : Upd} {h' : Heap} (hr : stepR call g ao s h = some (u, h')) : ∀ t, (u.app s).view t = if opDst ao = some t then u.view else s.view t := by
  have hset : ∀ (d : Nat) (v : AVal), opDst ao = some d → u = .set d v → ∀ t, (u.app s).view t = if opDst ao = some t then u.view else s.view t := by
    intro d v hd hu t
    subst hu
    rw [hd]
    by_cases ht : d = t
    · subst ht
      simp [Upd.app, Upd.view, Env.view, Env.set, Env.get, lookA_drop, look_cons]
    · have ht' : t ≠ d := fun e => ht e.symm
      simp [Upd.app, Env.view, Env.set, Env.get, lookA_drop, look_cons, ht, ht']
  have hsetL : ∀ (d l o : Nat), opDst ao = some d → u = .setL d l o → ∀ t, (u.app s).view t = if opDst ao = some t then u.view else s.view t := by
    intro d l o hd hu t
    subst hu
    rw [hd]
    by_cases ht : d = t
    · subst ht
      simp [Upd.app, Upd.view, Env.view, Env.setL, Env.get, lookA_cons]
    · have ht' : t ≠ d := fun e => ht e.symm
      simp [Upd.app, Env.view, Env.setL, Env.get, lookA_cons, ht, ht']
  have hnew : ∀ (d : Nat) (cs : List AVal), opDst ao = some d → u = .newLoc d cs → ∀ t, (u.app s).view t = if opDst ao = some t then u.view else s.view t := by
    intro d cs hd hu t
    subst hu
    rw [hd]
    by_cases ht : d = t
    · subst ht
      simp [Upd.app, Upd.view, Env.view, Env.newLoc, Env.get, lookA_cons]
    · have ht' : t ≠ d := fun e => ht e.symm
      simp [Upd.app, Env.view, Env.newLoc, Env.get, lookA_cons, ht, ht']
  cases ao with
  | box d loc x =>
    cases loc with
    | true =>
      simp only [stepR] at hr
      cases hc : (!g && s.fresh d) with
      | false => rw [hc] at hr; cases hr
      | true =>
        rw [hc] at hr
        simp only [cond_true, Option.bind_eq_some_iff, Option.some.injEq, Prod.mk.injEq] at hr
        obtain ⟨_, _, hu, _⟩ := hr
        exact hnew d _ rfl hu.symm
    | false =>
      simp only [stepR, Option.bind_eq_some_iff, Option.some.injEq, Prod.mk.injEq] at hr
      obtain ⟨_, _, hu, _⟩ := hr
      exact hset d _ rfl hu.symm
  | alloc d loc zero =>
    cases loc with
    | true =>
      simp only [stepR] at hr
      cases hc : (!g && s.fresh d) with
      | false => rw [hc] at hr; cases hr
      | true =>
        rw [hc] at hr
        simp only [cond_true, Option.some.injEq, Prod.mk.injEq] at hr
        exact hnew d _ rfl hr.1.symm
    | false =>
      simp only [stepR, Option.some.injEq, Prod.mk.injEq] at hr
      exact hset d _ rfl hr.1.symm
  | store agg m x v =>
    have hno : ∀ t, u.app s = s ∨ (∃ l cs, u = .locW l cs) → (u.app s).view t = if opDst (.store agg m x v) = some t then u.view else s.view t := by
      intro t hh
      have : opDst (.store agg m x v) ≠ some t := by simp [opDst]
      rw [if_neg this]
      rcases hh with hh | ⟨l, cs, rfl⟩
      · rw [hh]
      · rfl
    intro t
    apply hno
    simp only [stepR, Option.bind_eq_some_iff] at hr
    obtain ⟨cs, _, hr⟩ := hr
    split at hr
    · rename_i l off hl
      cases hg : (!g) with
      | false => rw [hg] at hr; cases hr
      | true =>
        rw [hg] at hr
        simp only [cond_true, Option.bind_eq_some_iff] at hr
        obtain ⟨old, _, hr⟩ := hr
        cases hn : Nat.ble (off + m) old.length with
        | false => rw [hn] at hr; cases hr
        | true =>
          rw [hn] at hr
          simp only [cond_true, Option.some.injEq, Prod.mk.injEq] at hr
          exact .inr ⟨_, _, hr.1.symm⟩
    · simp only [Option.bind_eq_some_iff, Option.some.injEq, Prod.mk.injEq] at hr
      obtain ⟨_, _, rfl, _⟩ := hr
      exact .inl rfl
  | clear d zero sl =>
    simp only [stepR, Option.bind_eq_some_iff, Option.some.injEq, Prod.mk.injEq] at hr
    obtain ⟨_, _, rfl, _⟩ := hr
    intro t
    have : opDst (.clear d zero sl) ≠ some t := by simp [opDst]
    rw [if_neg this]
    rfl
  | mov d x =>
    simp only [stepR] at hr
    split at hr <;> simp only [Option.some.injEq, Prod.mk.injEq] at hr
    · exact hsetL d _ _ rfl hr.1.symm
    · exact hset d _ rfl hr.1.symm
  | nilchk d x | faddr d off x =>
    simp only [stepR] at hr
    split at hr
    · simp only [Option.some.injEq, Prod.mk.injEq] at hr
      exact hsetL d _ _ rfl hr.1.symm
    · simp only [Option.bind_eq_some_iff, Option.some.injEq, Prod.mk.injEq] at hr
      obtain ⟨_, _, hu, _⟩ := hr
      exact hset d _ rfl hu.symm
  | iaddr d arr es x i =>
    cases arr with
    | none =>
      simp only [stepR, Option.bind_eq_some_iff, Option.some.injEq, Prod.mk.injEq] at hr
      obtain ⟨_, _, hu, _⟩ := hr
      exact hset d _ rfl hu.symm
    | some len =>
      simp only [stepR] at hr
      split at hr <;> simp only [Option.bind_eq_some_iff, Option.some.injEq, Prod.mk.injEq] at hr
      · obtain ⟨_, _, hu, _⟩ := hr
        exact hsetL d _ _ rfl hu.symm
      · obtain ⟨_, _, hu, _⟩ := hr
        exact hset d _ rfl hu.symm
  | load d agg m x =>
    simp only [stepR] at hr
    split at hr <;> simp only [Option.bind_eq_some_iff, Option.some.injEq, Prod.mk.injEq] at hr <;> obtain ⟨_, _, _, _, hu, _⟩ := hr <;> exact hset d _ rfl hu.symm
  | index d kk x i =>
    cases kk <;> simp only [stepR, Option.bind_eq_some_iff, Option.some.injEq, Prod.mk.injEq] at hr
    · obtain ⟨_, _, _, _, hu, _⟩ := hr
      exact hset d _ rfl hu.symm
    · obtain ⟨_, _, hu, _⟩ := hr
      exact hset d _ rfl hu.symm
  | slice d kk x lo hi mx =>
    cases kk <;> simp only [stepR, Option.bind_eq_some_iff, Option.some.injEq, Prod.mk.injEq] at hr <;> obtain ⟨_, _, hu, _⟩ := hr <;> exact hset d _ rfl hu.symm
  | field d agg off m x | callv d fn args | invoke d tbl recv args =>
    simp only [stepR, Option.bind_eq_some_iff, Option.some.injEq, Prod.mk.injEq] at hr
    obtain ⟨_, _, _, _, hu, _⟩ := hr
    exact hset d _ rfl hu.symm
  | mkIface d t x | mkFunc d f caps =>
    simp only [stepR, Option.some.injEq, Prod.mk.injEq] at hr
    exact hset d _ rfl hr.1.symm
  | pick d c a b | bin d op tag a b | un d op x | conv d c x | build d zero parts | buildSl d zero es len parts | mkSlice d es bytes zero len cap | extract d x i | tassert d tbl x | call d f args | append d es bytes zero zeros sl x | copy d es dst src | len d str x | cap d x | minmax d mx xs | fl d j sl zero parts =>
    simp only [stepR, Option.bind_eq_some_iff, Option.some.injEq, Prod.mk.injEq] at hr
    obtain ⟨_, _, hu, _⟩ := hr
    exact hset d _ rfl hu.symm

end Go.Fw

/- The trajectory of a region's items. -/
namespace Go.Fw
set_option linter.unusedSimpArgs false
set_option linter.unusedVariables false

def offEv (x : Option (Nat × Bool) × Nat × AOp) : Ev := ⟨x.1, x.2.1, x.2.2, false, false, ⟨[], [], [], [], 0⟩, ⟨0, fun _ => none⟩, .nop, ⟨0, fun _ => none⟩⟩

theorem offEv_V (x : Option (Nat × Bool) × Nat × AOp) (V : Nat → View) (t : Nat) : (offEv x).updV V t = if opDst x.2.2 = some t then (skipV, none) else V t := rfl

theorem run_append {as bs : List Ev} (V : Nat → View) (H : Heap) (l : List (Nat × List AVal)) : vRun V (as ++ bs) = vRun (vRun V as) bs ∧ hRun H (as ++ bs) = hRun (hRun H as) bs ∧ lRun l (as ++ bs) = lRun (lRun l as) bs := by
  simp [vRun, hRun, lRun, List.foldl_append]

theorem vRun_not : ∀ (evs : List Ev) (V : Nat → View) (t : Nat), (∀ e ∈ evs, opDst e.ao ≠ some t) → vRun V evs t = V t
  | [], _, _, _ => rfl
  | e :: r, V, t, h => by
    show vRun (e.updV V) r t = V t
    rw [vRun_not r _ t fun q hq => h q (List.mem_cons_of_mem _ hq)]
    simp [Ev.updV, h e List.mem_cons_self]

theorem mem_dsts_flat : ∀ (gd : Option (Nat × Bool)) (items : List AItem) (x : Option (Nat × Bool) × Nat × AOp) (t : Nat), x ∈ flatItems gd items → opDst x.2.2 = some t → t ∈ itemsDsts items
  | gd, [], x, t, h, _ => by simp [flatItems] at h
  | gd, .op i o :: r, x, t, h, ht => by
    simp only [flatItems, flatItem, List.cons_append, List.nil_append, List.mem_cons] at h
    simp only [itemsDsts, itemDsts, List.mem_append]
    rcases h with rfl | h
    · left; simp only at ht; rw [ht]; simp
    · exact .inr (mem_dsts_flat gd r x t h ht)
  | gd, .guard q w items ps live :: r, x, t, h, ht => by
    simp only [flatItems, flatItem, List.mem_append] at h
    simp only [itemsDsts, itemDsts, List.mem_append]
    rcases h with h | h
    · exact .inl (mem_dsts_flat _ items x t h ht)
    · exact .inr (mem_dsts_flat gd r x t h ht)

/-- What is skipped. -/
theorem off_items {call : Call} (H : Heap) (l : List (Nat × List AVal)) : ∀ (items : List AItem) (gd : Option (Nat × Bool)) (seen : List Nat) (V : Nat → View), guardsAll true seen items = true → (∀ t ∈ seen, V t = (skipV, none)) →
    (∃ t want, gd = some (t, want) ∧ (V t = (.bool !want, none) ∨ V t = (skipV, none))) →
    EvsOk call V H l ((flatItems gd items).map offEv) ∧ hRun H ((flatItems gd items).map offEv) = H ∧ lRun l ((flatItems gd items).map offEv) = l ∧ ∀ t, vRun V ((flatItems gd items).map offEv) t = if t ∈ itemsDsts items then (skipV, none) else V t
  | [], gd, seen, V, _, _, _ => ⟨trivial, rfl, rfl, fun t => by simp [itemsDsts, flatItems, vRun]⟩
  | .op i o :: r, gd, seen, V, hg, hs, hgd => by
    simp only [guardsAll, guardsOk, Bool.true_and] at hg
    obtain ⟨t, want, rfl, ht⟩ := hgd
    have h1 : ∀ q ∈ (opDst o).toList ++ seen, (offEv (some (t, want), i, o)).updV V q = (skipV, none) := by
      intro q hq
      rw [offEv_V]
      rcases List.mem_append.1 hq with hq | hq
      · rw [if_pos (by simpa using hq)]
      · by_cases hd : opDst o = some q
        · rw [if_pos hd]
        · rw [if_neg hd]; exact hs q hq
    have h2 : (offEv (some (t, want), i, o)).updV V t = (.bool !want, none) ∨ (offEv (some (t, want), i, o)).updV V t = (skipV, none) := by
      rw [offEv_V]
      by_cases hd : opDst o = some t
      · rw [if_pos hd]; exact .inr rfl
      · rw [if_neg hd]; exact ht
    obtain ⟨i1, i2, i3, i4⟩ := off_items (call := call) H l r (some (t, want)) _ _ hg h1 ⟨t, want, rfl, h2⟩
    have e0 : EvOk call V H l (offEv (some (t, want), i, o)) :=
      { h := fun h => absurd h Bool.false_ne_true
        l := fun h => absurd h Bool.false_ne_true
        step := fun h => absurd h Bool.false_ne_true
        opds := fun h => absurd h Bool.false_ne_true
        guard := fun t' want' e => by
          have e' : some (t, want) = some (t', want') := e
          simp only [Option.some.injEq, Prod.mk.injEq] at e'
          obtain ⟨rfl, rfl⟩ := e'
          exact .inr ⟨ht, rfl⟩
        free := fun e => by
          have e' : some (t, want) = none := e
          cases e' }
    refine ⟨⟨e0, i1⟩, i2, i3, fun q => ?_⟩
    · have := i4 q
      show vRun ((offEv (some (t, want), i, o)).updV V) ((flatItems (some (t, want)) r).map offEv) q = _
      rw [this, offEv_V]
      simp only [itemsDsts, itemDsts, List.mem_append]
      by_cases h3 : q ∈ itemsDsts r
      · simp [h3]
      · by_cases h4 : opDst o = some q
        · simp [h3, h4]
        · have : ¬ q ∈ (opDst o).toList := by simpa using h4
          simp [h3, h4]
  | .guard t2 want2 items ps live :: r, gd, seen, V, hg, hs, hgd => by
    simp only [guardsAll, guardsOk, Bool.and_eq_true, Bool.not_true, Bool.false_or] at hg
    obtain ⟨⟨⟨⟨_, hseen⟩, hin⟩, _⟩, hg⟩ := hg
    have hV2 : V t2 = (skipV, none) := hs t2 (by simpa using hseen)
    obtain ⟨i1, i2, i3, i4⟩ := off_items (call := call) H l items (some (t2, want2)) [] V hin (fun t ht => by cases ht) ⟨t2, want2, rfl, .inr hV2⟩
    have hs2 : ∀ q ∈ seen, vRun V ((flatItems (some (t2, want2)) items).map offEv) q = (skipV, none) := fun q hq => by
      rw [i4]; split
      · rfl
      · exact hs q hq
    obtain ⟨t, want, rfl, ht⟩ := hgd
    have ht2 : vRun V ((flatItems (some (t2, want2)) items).map offEv) t = (.bool !want, none) ∨ vRun V ((flatItems (some (t2, want2)) items).map offEv) t = (skipV, none) := by
      rw [i4]; split
      · exact .inr rfl
      · exact ht
    obtain ⟨j1, j2, j3, j4⟩ := off_items (call := call) H l r (some (t, want)) seen _ hg hs2 ⟨t, want, rfl, ht2⟩
    simp only [flatItems, flatItem, List.map_append]
    obtain ⟨a1, a2, a3⟩ := run_append (as := (flatItems (some (t2, want2)) items).map offEv) (bs := (flatItems (some (t, want)) r).map offEv) V H l
    refine ⟨EvsOk.append i1 (by rw [i2, i3]; exact j1), by rw [a2, i2, j2], by rw [a3, i3, j3], fun q => ?_⟩
    rw [a1, j4, i4]
    simp only [itemsDsts, itemDsts, List.mem_append]
    by_cases h1 : q ∈ itemsDsts items <;> by_cases h2 : q ∈ itemsDsts r <;> simp [h1, h2]

theorem stepR_locs {call : Call} {ao : AOp} {s : Env} {h : Heap} {u : Upd} {h' : Heap} (hr : stepR call true ao s h = some (u, h')) : (u.app s).locs = s.locs := by
  by_cases he : isEff ao = false
  · exact (stepR_pure he hr (s' := s) (k' := h)).2.1 s
  · cases ao with
    | box d loc x =>
      cases loc with
      | true => simp [stepR] at hr
      | false =>
        simp only [stepR, Option.bind_eq_some_iff, Option.some.injEq, Prod.mk.injEq] at hr
        obtain ⟨_, _, rfl, _⟩ := hr
        rfl
    | alloc d loc zero =>
      cases loc with
      | true => simp [stepR] at hr
      | false =>
        simp only [stepR, Option.some.injEq, Prod.mk.injEq] at hr
        obtain ⟨rfl, _⟩ := hr
        rfl
    | store agg m x v =>
      simp only [stepR, Option.bind_eq_some_iff] at hr
      obtain ⟨cs, _, hr⟩ := hr
      split at hr
      · simp at hr
      · simp only [Option.bind_eq_some_iff, Option.some.injEq, Prod.mk.injEq] at hr
        obtain ⟨_, _, rfl, _⟩ := hr
        rfl
    | conv d c x | buildSl d zero es len parts | mkSlice d es bytes zero len cap | call d f args | append d es bytes zero zeros sl x | copy d es dst src | clear d zero sl | fl d j sl zero parts =>
      simp only [stepR, Option.bind_eq_some_iff, Option.some.injEq, Prod.mk.injEq] at hr
      obtain ⟨_, _, rfl, _⟩ := hr
      rfl
    | callv d fn args | invoke d tbl recv args =>
      simp only [stepR, Option.bind_eq_some_iff, Option.some.injEq, Prod.mk.injEq] at hr
      obtain ⟨_, _, _, _, rfl, _⟩ := hr
      rfl
    | _ => exact (he rfl).elim

mutual
theorem scopeItem_mono : ∀ (x : AItem) (drop nl drop' nl' : List Nat), scopeItem drop nl x = some (drop', nl') → ∀ t ∈ drop, t ∈ drop'
  | .op i o, drop, nl, drop', nl', h, t, ht => by
    simp only [scopeItem] at h
    cases hc : ((aoTmps o).all (fun t => !drop.contains t) && (opDst o).toList.all (fun t => !drop.contains t)) with
    | false => rw [hc] at h; cases h
    | true => rw [hc] at h; cases h; exact ht
  | .guard q w items ps live, drop, nl, drop', nl', h, t, ht => by
    simp only [scopeItem] at h
    cases hc : (!drop.contains q && ps.all (fun p => (idxs items).contains p.1)) with
    | false => rw [hc] at h; cases h
    | true =>
      rw [hc] at h
      simp only [cond_true] at h
      split at h
      · rename_i d1 n1 hs
        cases hl : (live.all fun l => !d1.contains l) with
        | false => rw [hl] at h; cases h
        | true =>
          rw [hl] at h
          cases h
          exact List.mem_append_left _ (scopeItems_mono items drop nl d1 n1 hs t ht)
      · cases h
theorem scopeItems_mono : ∀ (xs : List AItem) (drop nl drop' nl' : List Nat), scopeItems drop nl xs = some (drop', nl') → ∀ t ∈ drop, t ∈ drop'
  | [], drop, nl, drop', nl', h, t, ht => by cases h; exact ht
  | x :: r, drop, nl, drop', nl', h, t, ht => by
    simp only [scopeItems] at h
    split at h
    · rename_i d n hx
      exact scopeItems_mono r d n drop' nl' h t (scopeItem_mono x drop nl d n hx t ht)
    · cases h
end

theorem nlOp_ok {call : Call} {g : Bool} {ao : AOp} {s : Env} {h : Heap} {u : Upd} {h' : Heap} (hr : stepR call g ao s h = some (u, h')) {V : Nat → View} {nl : List Nat} (hn : ∀ t ∈ nl, (V t).2 = none) (hv : ∀ t ∈ aoTmps ao, s.view t = V t) :
    ∀ t ∈ nlOp nl ao, ((if opDst ao = some t then u.view else V t)).2 = none := by
  have hlad : ∀ x, x ∈ aoOpds ao → nlOpd nl x = true → s.lad x = none := by
    intro x hx hx'
    cases x with
    | const v => rfl
    | tmp t =>
      have := hv t (List.mem_filterMap.2 ⟨.tmp t, hx, rfl⟩)
      have h2 := hn t (by simpa [nlOpd] using hx')
      rw [← this] at h2
      exact h2
  have hfil : ∀ d : Nat, ∀ t ∈ nl.filter (· != d), opDst ao = some d → ((if opDst ao = some t then u.view else V t)).2 = none := by
    intro d t ht hd
    simp only [List.mem_filter, bne_iff_ne, ne_eq] at ht
    rw [hd, if_neg (by simpa using fun e => ht.2 e.symm)]
    exact hn t ht.1
  have hcons : ∀ d : Nat, opDst ao = some d → (u.view).2 = none → ∀ t ∈ d :: nl, ((if opDst ao = some t then u.view else V t)).2 = none := by
    intro d hd hu t ht
    rw [hd]
    by_cases e : d = t
    · subst e; simp [hu]
    · rw [if_neg (by simpa using e)]
      rcases List.mem_cons.1 ht with rfl | ht
      · exact (e rfl).elim
      · exact hn t ht
  have hprop : ∀ d x, x ∈ aoOpds ao → opDst ao = some d → (s.lad x = none → (u.view).2 = none) → ∀ t ∈ (bif nlOpd nl x then d :: nl else nl.filter (· != d)), ((if opDst ao = some t then u.view else V t)).2 = none := by
    intro d x hx hd hh t ht
    cases hc : nlOpd nl x with
    | true =>
      rw [hc] at ht
      exact hcons d hd (hh (hlad x hx hc)) t ht
    | false =>
      rw [hc] at ht
      exact hfil d t ht hd
  have hset : ∀ d : Nat, opDst ao = some d → (u.view).2 = none → ∀ t ∈ (opDst ao).toList ++ nl, ((if opDst ao = some t then u.view else V t)).2 = none := by
    intro d hd hu t ht
    rw [hd] at ht
    exact hcons d hd hu t (by simpa using ht)
  cases ao with
  | mov d x =>
    refine hprop d x (by simp [aoOpds]) rfl fun hl => ?_
    simp only [stepR, hl, Option.some.injEq, Prod.mk.injEq] at hr
    obtain ⟨rfl, _⟩ := hr
    rfl
  | nilchk d x | faddr d off x =>
    refine hprop d x (by simp [aoOpds]) rfl fun hl => ?_
    simp only [stepR, hl, Option.bind_eq_some_iff, Option.some.injEq, Prod.mk.injEq] at hr
    obtain ⟨_, _, rfl, _⟩ := hr
    rfl
  | iaddr d arr es x i =>
    cases arr with
    | none =>
      simp only [stepR, Option.bind_eq_some_iff, Option.some.injEq, Prod.mk.injEq] at hr
      obtain ⟨_, _, rfl, _⟩ := hr
      exact hset d rfl rfl
    | some len =>
      refine hprop d x (by simp [aoOpds]) rfl fun hl => ?_
      simp only [stepR, hl, Option.bind_eq_some_iff, Option.some.injEq, Prod.mk.injEq] at hr
      obtain ⟨_, _, rfl, _⟩ := hr
      rfl
  | box d loc x =>
    cases loc with
    | true => exact fun t ht => hfil d t ht rfl
    | false =>
      simp only [stepR, Option.bind_eq_some_iff, Option.some.injEq, Prod.mk.injEq] at hr
      obtain ⟨_, _, rfl, _⟩ := hr
      exact hset d rfl rfl
  | alloc d loc zero =>
    cases loc with
    | true => exact fun t ht => hfil d t ht rfl
    | false =>
      simp only [stepR, Option.some.injEq, Prod.mk.injEq] at hr
      obtain ⟨rfl, _⟩ := hr
      exact hset d rfl rfl
  | store agg m x v =>
    intro t ht
    have : opDst (.store agg m x v) ≠ some t := by simp [opDst]
    rw [if_neg this]
    exact hn t (by simpa [nlOp, opDst] using ht)
  | clear d zero sl =>
    intro t ht
    have : opDst (.clear d zero sl) ≠ some t := by simp [opDst]
    rw [if_neg this]
    exact hn t (by simpa [nlOp, opDst] using ht)
  | load d agg m x =>
    simp only [stepR] at hr
    split at hr <;> simp only [Option.bind_eq_some_iff, Option.some.injEq, Prod.mk.injEq] at hr <;> obtain ⟨_, _, _, _, rfl, _⟩ := hr <;> exact hset d rfl rfl
  | index d kk x i =>
    cases kk <;> simp only [stepR, Option.bind_eq_some_iff, Option.some.injEq, Prod.mk.injEq] at hr
    · obtain ⟨_, _, _, _, rfl, _⟩ := hr
      exact hset d rfl rfl
    · obtain ⟨_, _, rfl, _⟩ := hr
      exact hset d rfl rfl
  | slice d kk x lo hi mx =>
    cases kk <;> simp only [stepR, Option.bind_eq_some_iff, Option.some.injEq, Prod.mk.injEq] at hr <;> obtain ⟨_, _, rfl, _⟩ := hr <;> exact hset d rfl rfl
  | field d agg off m x | callv d fn args | invoke d tbl recv args =>
    simp only [stepR, Option.bind_eq_some_iff, Option.some.injEq, Prod.mk.injEq] at hr
    obtain ⟨_, _, _, _, rfl, _⟩ := hr
    exact hset d rfl rfl
  | mkIface d t x | mkFunc d f caps =>
    simp only [stepR, Option.some.injEq, Prod.mk.injEq] at hr
    obtain ⟨rfl, _⟩ := hr
    exact hset d rfl rfl
  | pick d c a b | bin d op tag a b | un d op x | conv d c x | build d zero parts | buildSl d zero es len parts | mkSlice d es bytes zero len cap | extract d x i | tassert d tbl x | call d f args | append d es bytes zero zeros sl x | copy d es dst src | len d str x | cap d x | minmax d mx xs | fl d j sl zero parts =>
    simp only [stepR, Option.bind_eq_some_iff, Option.some.injEq, Prod.mk.injEq] at hr
    obtain ⟨_, _, rfl, _⟩ := hr
    exact hset d rfl rfl

theorem flat_idx (gd gd' : Option (Nat × Bool)) : ∀ items : List AItem, (flatItems gd items).map (·.2.1) = (flatItems gd' items).map (·.2.1)
  | [] => rfl
  | .op i o :: r => by simp only [flatItems, flatItem, List.cons_append, List.nil_append, List.map_cons]; rw [flat_idx gd gd' r]
  | .guard t w items ps live :: r => by simp only [flatItems, flatItem, List.map_append]; rw [flat_idx gd gd' r]

theorem inner_idx : ∀ (drop nl : List Nat) (items : List AItem) (drop' nl' : List Nat), scopeItems drop nl items = some (drop', nl') → ∀ p ∈ innerPairs items, p.1 ∈ idxs items
  | drop, nl, [], drop', nl', h, p, hp => by rw [innerPairs] at hp; cases hp
  | drop, nl, .op i o :: r, drop', nl', h, p, hp => by
    simp only [scopeItems] at h
    split at h
    · rename_i d n hx
      rw [innerPairs_op] at hp
      have := inner_idx d n r drop' nl' h p hp
      simp only [idxs, flatItems, flatItem, List.cons_append, List.nil_append, List.map_cons, List.mem_cons]
      exact .inr this
    · cases h
  | drop, nl, .guard t w items ps live :: r, drop', nl', h, p, hp => by
    simp only [scopeItems] at h
    split at h
    · rename_i d n hx
      have hr := inner_idx d n r drop' nl' h p
      simp only [scopeItem] at hx
      cases hc : (!drop.contains t && ps.all (fun p => (idxs items).contains p.1)) with
      | false => rw [hc] at hx; cases hx
      | true =>
        rw [hc] at hx
        simp only [cond_true] at hx
        split at hx
        · rename_i d1 n1 hs
          simp only [Bool.and_eq_true, List.all_eq_true, List.contains_eq_mem, decide_eq_true_eq] at hc
          simp only [idxs, flatItems, flatItem, List.map_append, List.mem_append]
          rw [flat_idx (some (t, w)) none]
          simp only [innerPairs_guard, List.mem_append] at hp
          rcases hp with (hp | hp) | hp
          · exact .inl (hc.2 p hp)
          · exact .inl (inner_idx drop nl items d1 n1 hs p hp)
          · exact .inr (hr hp)
        · cases hx
    · cases h

end Go.Fw

/- The trajectory of a region's items, from its abstract run. -/
namespace Go.Fw
set_option linter.unusedSimpArgs false
set_option linter.unusedVariables false

/-- What is known of a run of some items. -/
structure Traj (call : Call) (g : Bool) (gd : Option (Nat × Bool)) (items : List AItem) (V : Nat → View) (h : Heap) (s : Env) (drop' nl' : List Nat) (evs : List Ev) (sf : Env) (hf : Heap) : Prop where
  keys : evs.map Ev.key = flatItems gd items
  ok : EvsOk call V h s.locs evs
  heap : hRun h evs = hf
  locs : lRun s.locs evs = sf.locs
  gloc : g = true → sf.locs = s.locs
  scope : Scope sf (vRun V evs) drop' nl'
  inner : ∀ p ∈ innerPairs items, PairOk evs p
  log : ∀ i a, lookLog sf.log i = some a → (∃ e ∈ evs, e.i = i ∧ e.on = true ∧ a = e.logv) ∨ lookLog s.log i = some a
  base : ∀ e ∈ evs, e.on = true → e.s.base = s.base

theorem evs_dst {gd : Option (Nat × Bool)} {items : List AItem} {evs : List Ev} (hk : evs.map Ev.key = flatItems gd items) {t : Nat} (ht : t ∉ itemsDsts items) : ∀ e ∈ evs, opDst e.ao ≠ some t := by
  intro e he hd
  have : e.key ∈ flatItems gd items := hk ▸ List.mem_map_of_mem he
  exact ht (mem_dsts_flat gd items e.key t this hd)

theorem checkPairs_spec : ∀ {log : List (Nat × Option Log)} {ps : List (Nat × Nat)}, checkPairs log ps = true → ∀ p ∈ ps, ∃ a e, lookLog log p.1 = some a ∧ lookLog log p.2 = some e ∧ pairOk a e = true
  | _, [], _, p, hp => by cases hp
  | log, (i, q) :: r, h, p, hp => by
    simp only [checkPairs, Bool.and_eq_true] at h
    rcases List.mem_cons.1 hp with rfl | hp
    · have h1 := h.1
      split at h1
      · rename_i a e h2 h3
        exact ⟨a, e, h2, h3, h1⟩
      · cases h1
    · exact checkPairs_spec h.2 p hp

theorem level_pairs {evs : List Ev} {log : List (Nat × Option Log)} {ps : List (Nat × Nat)} (hc : checkPairs log ps = true) (hl : ∀ i a, lookLog log i = some a → ∃ e ∈ evs, e.i = i ∧ e.on = true ∧ a = e.logv) : ∀ p ∈ ps, PairOk evs p := by
  intro p hp
  obtain ⟨a, e, h1, h2, h3⟩ := checkPairs_spec hc p hp
  obtain ⟨ei, q1, q2, q3, rfl⟩ := hl _ _ h1
  obtain ⟨eq, r1, r2, r3, rfl⟩ := hl _ _ h2
  exact .inr ⟨ei, q1, eq, r1, q2, r2, q3, r3, h3⟩

theorem traj_items {call : Call} : ∀ (items : List AItem) (g : Bool) (pairs : List (Nat × Nat)) (gd : Option (Nat × Bool)) (inG : Bool) (seen drop nl drop' nl' : List Nat) (V : Nat → View) (s : Env) (h : Heap) (k : Env → Heap → Option J) (r : J),
    runItems call g pairs items s h k = some r → scopeItems drop nl items = some (drop', nl') → guardsAll inG seen items = true → Scope s V drop nl →
    (∀ t want, gd = some (t, want) → V t = (.bool want, none) ∧ t ∉ itemsDsts items) →
    ∃ evs sf hf, k sf hf = some r ∧ Traj call g gd items V h s drop' nl' evs sf hf
  | [], g, pairs, gd, inG, seen, drop, nl, drop', nl', V, s, h, k, r, hrun, hsc, hga, S, hgd => by
    simp only [scopeItems, Option.some.injEq, Prod.mk.injEq] at hsc
    obtain ⟨rfl, rfl⟩ := hsc
    exact ⟨[], s, h, hrun, ⟨rfl, trivial, rfl, rfl, fun _ => rfl, S, fun p hp => (by rw [innerPairs] at hp; cases hp), fun i a ha => .inr ha, fun e he => (by cases he)⟩⟩
  | .op i o :: rest, g, pairs, gd, inG, seen, drop, nl, drop', nl', V, s, h, k, r, hrun, hsc, hga, S, hgd => by
    simp only [runItems, runItem] at hrun
    rw [stepOp_eq] at hrun
    simp only [Option.bind_eq_some_iff] at hrun
    obtain ⟨⟨u, h1⟩, hu, hrun⟩ := hrun
    simp only at hrun
    simp only [scopeItems, scopeItem] at hsc
    cases hc : ((aoTmps o).all (fun t => !drop.contains t) && (opDst o).toList.all (fun t => !drop.contains t)) with
    | false => rw [hc] at hsc; cases hsc
    | true =>
      rw [hc] at hsc
      simp only [cond_true] at hsc
      simp only [Bool.and_eq_true, List.all_eq_true, Bool.not_eq_true', List.contains_eq_mem, decide_eq_false_iff_not] at hc
      let e : Ev := ⟨gd, i, o, true, g, s, h, u, h1⟩
      have hv : ∀ t ∈ aoTmps o, s.view t = V t := fun t ht => S.seen t (hc.1 t ht)
      have hok : EvOk call V h s.locs e :=
        { h := fun _ => rfl
          l := fun _ => rfl
          step := fun _ => hu
          opds := fun _ => hv
          guard := fun t want he => .inl ⟨(hgd t want he).1, rfl⟩
          free := fun _ => rfl }
      have hrec : ∀ t, e.updV V t = if opDst o = some t then u.view else V t := fun t => rfl
      let s2 : Env := bif inPairs pairs i then (u.app s).addLog i (logOf o s h (u.app s) h1) else u.app s
      have hs2v : ∀ t, s2.view t = (u.app s).view t := fun t => by
        show (bif inPairs pairs i then (u.app s).addLog i (logOf o s h (u.app s) h1) else u.app s).view t = _
        cases inPairs pairs i <;> rfl
      have hs2l : s2.locs = (u.app s).locs := by
        show (bif inPairs pairs i then (u.app s).addLog i (logOf o s h (u.app s) h1) else u.app s).locs = _
        cases inPairs pairs i <;> rfl
      have S2 : Scope s2 (e.updV V) drop (nlOp nl o) := by
        refine ⟨fun t ht => ?_, fun t => ?_, fun t ht => ?_⟩
        · rw [hs2v, view_app hu, hrec]
          split
          · rfl
          · exact S.seen t ht
        · rw [hs2v, view_app hu, hrec]
          split
          · exact .inl rfl
          · exact S.weak t
        · rw [hrec]; exact nlOp_ok hu S.nl hv t ht
      have hgd2 : ∀ t want, gd = some (t, want) → e.updV V t = (.bool want, none) ∧ t ∉ itemsDsts rest := by
        intro t want he
        obtain ⟨q1, q2⟩ := hgd t want he
        simp only [itemsDsts, itemDsts, List.mem_append, not_or] at q2
        refine ⟨?_, q2.2⟩
        rw [hrec, if_neg (by simpa using q2.1)]
        exact q1
      simp only [guardsAll, guardsOk, Bool.true_and] at hga
      obtain ⟨evs, sf, hf, hk, T⟩ := traj_items rest g pairs gd inG _ drop (nlOp nl o) drop' nl' _ s2 h1 k r hrun hsc hga S2 hgd2
      refine ⟨e :: evs, sf, hf, hk, ⟨?_, ⟨hok, ?_⟩, T.heap, ?_, ?_, T.scope, ?_, ?_, ?_⟩⟩
      · rw [List.map_cons, T.keys]; rfl
      · have := T.ok; rw [hs2l] at this; exact this
      · have := T.locs; rw [hs2l] at this; exact this
      · intro hg
        rw [T.gloc hg, hs2l]
        subst hg
        exact stepR_locs hu
      · intro p hp
        rw [innerPairs_op] at hp
        exact (T.inner p hp).mono fun q hq => List.mem_cons_of_mem _ hq
      · intro j a ha
        rcases T.log j a ha with ⟨q, h1, h2⟩ | hl
        · exact .inl ⟨q, List.mem_cons_of_mem _ h1, h2⟩
        · have hlog : (u.app s).log = s.log := by cases u <;> rfl
          have hl' : lookLog (bif inPairs pairs i then (u.app s).addLog i (logOf o s h (u.app s) h1) else u.app s).log j = some a := hl
          cases hp : inPairs pairs i with
          | false => rw [hp] at hl'; right; rw [← hlog]; exact hl'
          | true =>
            rw [hp] at hl'
            simp only [cond_true, Env.addLog, lookLog] at hl'
            cases hb : Nat.beq i j with
            | true =>
              rw [hb] at hl'
              simp only [cond_true, Option.some.injEq] at hl'
              exact .inl ⟨e, List.mem_cons_self, Nat.eq_of_beq_eq_true hb, rfl, hl'.symm⟩
            | false =>
              rw [hb] at hl'
              right; rw [← hlog]; exact hl'
      · intro q hq hon
        rcases List.mem_cons.1 hq with rfl | hq
        · rfl
        · rw [T.base q hq hon]
          show (bif inPairs pairs i then (u.app s).addLog i (logOf o s h (u.app s) h1) else u.app s).base = s.base
          cases inPairs pairs i <;> cases u <;> rfl
  | .guard t want items ps live :: rest, g, pairs, gd, inG, seen, drop, nl, drop', nl', V, s, h, k, r, hrun, hsc, hga, S, hgd => by
    simp only [runItems, runItem, Option.bind_eq_some_iff] at hrun
    obtain ⟨r1, hrun1, hrun⟩ := hrun
    simp only [scopeItems, scopeItem] at hsc
    cases hc : (!drop.contains t && ps.all (fun p => (idxs items).contains p.1)) with
    | false => rw [hc] at hsc; cases hsc
    | true =>
      rw [hc] at hsc
      simp only [cond_true] at hsc
      simp only [Bool.and_eq_true, Bool.not_eq_true', List.contains_eq_mem, decide_eq_false_iff_not, List.all_eq_true, decide_eq_true_eq] at hc
      obtain ⟨hdt, hpidx⟩ := hc
      cases hin : scopeItems drop nl items with
      | none => rw [hin] at hsc; simp at hsc
      | some dn =>
        obtain ⟨drop1, nl1⟩ := dn
        rw [hin] at hsc
        simp only at hsc
        cases hl : (live.all fun l => !drop1.contains l) with
        | false => rw [hl] at hsc; simp at hsc
        | true =>
          rw [hl] at hsc
          simp only [cond_true] at hsc
          simp only [List.all_eq_true, Bool.and_eq_true, Bool.not_eq_true', List.contains_eq_mem, decide_eq_false_iff_not, decide_eq_true_eq] at hl
          simp only [guardsAll, guardsOk, Bool.and_eq_true, Bool.not_eq_true', List.contains_eq_mem, decide_eq_false_iff_not, List.all_eq_true, decide_eq_true_eq] at hga
          obtain ⟨⟨⟨⟨hga1, hga2⟩, hga3⟩, hga4⟩, hga5⟩ := hga
          have hVt : s.view t = V t := S.seen t hdt
          have hmono := scopeItems_mono items drop nl drop1 nl1 hin
          have hview : ∀ (xs : List AVal) (q : Nat), (s.upd (itemsDsts items) live xs).view q = if q ∈ itemsDsts items then (look ((live.zipIdx.map fun p => (p.1, xs.getD p.2 .undef)) ++ ((itemsDsts items).map fun d => (d, AVal.undef)) ++ s.vals) q, none) else (if q ∈ live then (look ((live.zipIdx.map fun p => (p.1, xs.getD p.2 .undef)) ++ ((itemsDsts items).map fun d => (d, AVal.undef)) ++ s.vals) q, lookA s.lads q) else s.view q) := by
            intro xs q
            simp only [Env.view, Env.get, Env.upd, lookA_dropAs]
            by_cases h1 : q ∈ itemsDsts items
            · simp [h1]
            · have h2 : q ∉ live := fun hq => h1 (hga4 q hq)
              have hm1 : (live.zipIdx.map fun p => (p.1, xs.getD p.2 AVal.undef)).map (·.1) = live := by
                rw [List.map_map]
                have : ((fun x : Nat × AVal => x.1) ∘ fun p : Nat × Nat => (p.1, xs.getD p.2 AVal.undef)) = fun p => p.1 := rfl
                rw [this, List.zipIdx_map_fst]
              have hm2 : ((itemsDsts items).map fun d => (d, AVal.undef)).map (·.1) = itemsDsts items := by
                rw [List.map_map]
                have : ((fun x : Nat × AVal => x.1) ∘ fun d : Nat => (d, AVal.undef)) = id := rfl
                rw [this, List.map_id]
              rw [List.append_assoc, look_append, look_append, hm1, hm2]
              simp [h1, h2]
          have hlook : ∀ (xs : List AVal) (f : Nat → AVal), (∀ j l, live[j]? = some l → xs.getD j .undef = f l) → ∀ q ∈ live, look ((live.zipIdx.map fun p => (p.1, xs.getD p.2 .undef)) ++ ((itemsDsts items).map fun d => (d, AVal.undef)) ++ s.vals) q = f q := by
            intro xs f hf q hq
            have hm1 : (live.zipIdx.map fun p => (p.1, xs.getD p.2 AVal.undef)).map (·.1) = live := by
              rw [List.map_map]
              have : ((fun x : Nat × AVal => x.1) ∘ fun p : Nat × Nat => (p.1, xs.getD p.2 AVal.undef)) = fun p => p.1 := rfl
              rw [this, List.zipIdx_map_fst]
            rw [List.append_assoc, look_append, hm1, if_pos hq]
            exact look_zip f xs live 0 q (fun j l hj => by rw [Nat.zero_add]; exact hf j l hj) hq
          have hundef : ∀ (xs : List AVal) (q : Nat), q ∈ itemsDsts items → q ∉ live → look ((live.zipIdx.map fun p => (p.1, xs.getD p.2 .undef)) ++ ((itemsDsts items).map fun d => (d, AVal.undef)) ++ s.vals) q = .undef := by
            intro xs q h1 h2
            have hm1 : (live.zipIdx.map fun p => (p.1, xs.getD p.2 AVal.undef)).map (·.1) = live := by
              rw [List.map_map]
              have : ((fun x : Nat × AVal => x.1) ∘ fun p : Nat × Nat => (p.1, xs.getD p.2 AVal.undef)) = fun p => p.1 := rfl
              rw [this, List.zipIdx_map_fst]
            have hm2 : ((itemsDsts items).map fun d => (d, AVal.undef)).map (·.1) = itemsDsts items := by
              rw [List.map_map]
              have : ((fun x : Nat × AVal => x.1) ∘ fun d : Nat => (d, AVal.undef)) = id := rfl
              rw [this, List.map_id]
            rw [List.append_assoc, look_append, look_append, hm1, hm2, if_neg h2, if_pos h1, look_undef]
          -- what both ways share: behind the guard
          have key : ∀ (evs1 : List Ev) (xs : List AVal) (h1 : Heap), evs1.map Ev.key = flatItems (some (t, want)) items → EvsOk call V h s.locs evs1 → hRun h evs1 = h1 → lRun s.locs evs1 = s.locs →
              (∀ q ∈ live, vRun V evs1 q = (xs.getD (live.idxOf q) .undef, none)) → (∀ p ∈ ps ++ innerPairs items, PairOk evs1 p) → (∀ j l, live[j]? = some l → xs.getD j .undef = (vRun V evs1 l).1) → (∀ e ∈ evs1, e.on = true → e.s.base = s.base) →
              runItems call g pairs rest (s.upd (itemsDsts items) live xs) h1 k = some r → ∃ evs sf hf, k sf hf = some r ∧ Traj call g gd (.guard t want items ps live :: rest) V h s drop' nl' evs sf hf := by
            intro evs1 xs h1 hk1 hok1 hh1 hl1 hv1 hp1 hx hbs hrest
            have hdst := fun q hq => evs_dst hk1 (t := q) hq
            have S2 : Scope (s.upd (itemsDsts items) live xs) (vRun V evs1) (drop1 ++ (itemsDsts items).filter (fun d => !live.contains d)) (nl.filter fun d => !(itemsDsts items).contains d) := by
              refine ⟨fun q hq => ?_, fun q => ?_, fun q hq => ?_⟩
              · rw [hview]
                simp only [List.mem_append, List.mem_filter, Bool.not_eq_true', List.contains_eq_mem, decide_eq_false_iff_not, not_or, not_and, Decidable.not_not] at hq
                by_cases h1 : q ∈ itemsDsts items
                · have h2 := hq.2 h1
                  rw [if_pos h1, hlook xs (fun q => (vRun V evs1 q).1) hx q h2]
                  have := hv1 q h2
                  rw [this]
                · have h2 : q ∉ live := fun hq => h1 (hga4 q hq)
                  rw [if_neg h1, if_neg h2, vRun_not evs1 V q (hdst q h1)]
                  exact S.seen q fun hd => hq.1 (hmono q hd)
              · rw [hview]
                by_cases h1 : q ∈ itemsDsts items
                · rw [if_pos h1]
                  by_cases h2 : q ∈ live
                  · rw [hlook xs (fun q => (vRun V evs1 q).1) hx q h2, hv1 q h2]; exact .inl rfl
                  · rw [hundef xs q h1 h2]; exact .inr rfl
                · have h2 : q ∉ live := fun hq => h1 (hga4 q hq)
                  rw [if_neg h1, if_neg h2, vRun_not evs1 V q (hdst q h1)]
                  exact S.weak q
              · simp only [List.mem_filter, Bool.not_eq_true', List.contains_eq_mem, decide_eq_false_iff_not] at hq
                rw [vRun_not evs1 V q (hdst q hq.2)]
                exact S.nl q hq.1
            have hgd2 : ∀ t' want', gd = some (t', want') → vRun V evs1 t' = (.bool want', none) ∧ t' ∉ itemsDsts rest := by
              intro t' want' he
              obtain ⟨q1, q2⟩ := hgd t' want' he
              simp only [itemsDsts, itemDsts, List.mem_append, not_or] at q2
              exact ⟨by rw [vRun_not evs1 V t' (hdst t' q2.1)]; exact q1, q2.2⟩
            obtain ⟨evs, sf, hf, hk, T⟩ := traj_items rest g pairs gd inG _ _ _ drop' nl' _ (s.upd (itemsDsts items) live xs) h1 k r hrest hsc hga5 S2 hgd2
            obtain ⟨a1, a2, a3⟩ := run_append (as := evs1) (bs := evs) V h s.locs
            have hul : (s.upd (itemsDsts items) live xs).locs = s.locs := rfl
            refine ⟨evs1 ++ evs, sf, hf, hk, ⟨?_, EvsOk.append hok1 ?_, ?_, ?_, ?_, ?_, ?_, ?_, ?_⟩⟩
            · rw [List.map_append, hk1, T.keys]; rfl
            · rw [hh1, hl1]; exact T.ok
            · rw [a2, hh1]; exact T.heap
            · rw [a3, hl1]; exact T.locs
            · intro hg; rw [T.gloc hg]; rfl
            · rw [a1]; exact T.scope
            · intro p hp
              rw [innerPairs_guard] at hp
              rcases List.mem_append.1 hp with hp | hp
              · exact (hp1 p hp).mono fun q hq => List.mem_append_left _ hq
              · exact (T.inner p hp).mono fun q hq => List.mem_append_right _ hq
            · intro j a ha
              rcases T.log j a ha with ⟨q, h1, h2⟩ | hl
              · exact .inl ⟨q, List.mem_append_right _ h1, h2⟩
              · exact .inr hl
            · intro q hq hon
              rcases List.mem_append.1 hq with hq | hq
              · exact hbs q hq hon
              · exact T.base q hq hon
          -- the guard's answer
          have hskip : some (0, live.map fun _ => skipV, h) = some r1 → (V t = (.bool !want, none) ∨ V t = (skipV, none)) → ∃ evs sf hf, k sf hf = some r ∧ Traj call g gd (.guard t want items ps live :: rest) V h s drop' nl' evs sf hf := by
            intro hr1 hV
            cases hr1
            obtain ⟨i1, i2, i3, i4⟩ := off_items (call := call) h s.locs items (some (t, want)) [] V hga3 (fun t ht => by cases ht) ⟨t, want, rfl, hV⟩
            refine key _ (live.map fun _ => skipV) h ?_ i1 i2 i3 ?_ ?_ ?_ (fun e he hon => by obtain ⟨x, _, rfl⟩ := List.mem_map.1 he; cases hon) hrun
            · rw [List.map_map]
              have : (Ev.key ∘ offEv) = id := rfl
              rw [this, List.map_id]
            · intro q hq
              rw [i4, if_pos (hga4 q hq)]
              have hlt : live.idxOf q < live.length := List.idxOf_lt_length_of_mem hq
              simp [List.getD_eq_getElem?_getD, List.getElem?_map, List.getElem?_eq_getElem hlt]
            · intro p hp
              rcases List.mem_append.1 hp with hp | hp
              · have hx := hpidx p hp
                refine .inl ?_
                have : p.1 ∈ (flatItems (some (t, want)) items).map (·.2.1) := by
                  rw [idxs] at hx
                  rw [flat_idx (some (t, want)) none]; exact hx
                obtain ⟨x, hx1, hx2⟩ := List.mem_map.1 this
                exact ⟨offEv x, List.mem_map_of_mem hx1, hx2, rfl⟩
              · refine .inl ?_
                have := inner_idx drop nl items drop1 nl1 hin p hp
                rw [idxs, ← flat_idx (some (t, want)) none] at this
                obtain ⟨x, hx1, hx2⟩ := List.mem_map.1 this
                exact ⟨offEv x, List.mem_map_of_mem hx1, hx2, rfl⟩
            · intro j l hj
              have hlt : j < live.length := (List.getElem?_eq_some_iff.1 hj).1
              rw [i4, if_pos (hga4 l (List.mem_of_getElem? hj))]
              simp [List.getD_eq_getElem?_getD, List.getElem?_map, hj]
          have hview0 : ∀ v, v ≠ .undef → s.get t = v → V t = (v, none) := by
            intro v hv hg
            rw [← hVt]
            unfold Env.view
            rw [hg]
            unfold Env.get at hg
            split at hg
            · exact (hv hg.symm).elim
            · rename_i hn; rw [hn]
          unfold guardV at hrun1
          split at hrun1
          · rename_i x hx
            have hVx := hview0 _ (by simp) hx
            cases hxw : (x == want) with
            | false =>
              rw [hxw] at hrun1
              refine hskip hrun1 (.inl ?_)
              rw [hVx]
              cases x <;> cases want <;> simp_all
            | true =>
              rw [hxw] at hrun1
              have hxe : x = want := by simpa using hxw
              subst hxe
              simp only [cond_true] at hrun1
              obtain ⟨evs1, s1, h1, hk1, T⟩ := traj_items items true ps (some (t, x)) true [] drop nl drop1 nl1 V s.noLog h _ r1 hrun1 hin hga3 ⟨S.seen, S.weak, S.nl⟩ (fun t' want' e => by
                simp only [Option.some.injEq, Prod.mk.injEq] at e
                obtain ⟨rfl, rfl⟩ := e
                exact ⟨hVx, hga1⟩)
              cases hcp : (s1.noLads live && checkPairs s1.log ps) with
              | false => rw [hcp] at hk1; cases hk1
              | true =>
                rw [hcp] at hk1
                simp only [cond_true, Option.some.injEq] at hk1
                subst hk1
                simp only [Bool.and_eq_true] at hcp
                obtain ⟨hnl, hcp⟩ := hcp
                have hlv : ∀ q ∈ live, vRun V evs1 q = (s1.get q, none) := by
                  intro q hq
                  have h1 := T.scope.seen q (hl q hq)
                  have h2' : lookA s1.lads q = none := by
                    have := List.all_eq_true.1 hnl q hq
                    cases hh : lookA s1.lads q with
                    | none => rfl
                    | some p => rw [hh] at this; cases this
                  rw [← h1]
                  unfold Env.view
                  rw [h2']
                have hxs : ∀ j l, live[j]? = some l → (s1.vout live).getD j .undef = s1.get l := by
                  intro j l hj
                  simp [Env.vout, List.getD_eq_getElem?_getD, List.getElem?_map, hj]
                refine key evs1 (s1.vout live) h1 T.keys T.ok T.heap ?_ ?_ ?_ ?_ (fun e he hon => T.base e he hon) hrun
                · have := T.gloc rfl
                  have h2 := T.locs
                  rw [this] at h2
                  exact h2
                · intro q hq
                  rw [hlv q hq]
                  have hlt : live.idxOf q < live.length := List.idxOf_lt_length_of_mem hq
                  rw [hxs (live.idxOf q) q (by rw [List.getElem?_eq_getElem hlt, List.getElem_idxOf])]
                · intro p hp
                  rcases List.mem_append.1 hp with hp | hp
                  · refine level_pairs hcp (fun i a ha => ?_) p hp
                    rcases T.log i a ha with hh | hh
                    · exact hh
                    · cases hh
                  · exact T.inner p hp
                · intro j l hj
                  rw [hxs j l hj, hlv l (List.mem_of_getElem? hj)]
          · rename_i hx
            exact hskip hrun1 (.inr (hview0 skipV (fun e => by cases e) hx))
          · cases hrun1

end Go.Fw
