/- One operation, apart from what goes on behind it: what it changes, and what of the frame it looks at. -/
import Derived.Test.YtfdhljghamkgjaaFwQ
import Derived.Test.YtfdhljghamkgjaaFwS
namespace Go.Fw
set_option linter.unusedSimpArgs false
set_option linter.unusedVariables false

/-- What an operation changes of the frame. -/
inductive Upd where
  | set (d : Nat) (v : AVal)
  | setL (d l off : Nat)
  | newLoc (d : Nat) (cs : List AVal)
  | locW (l : Nat) (cs : List AVal)
  | nop

def Upd.app (u : Upd) (s : Env) : Env :=
  match u with
  | .set d v => s.set d v
  | .setL d l off => s.setL d l off
  | .newLoc d cs => s.newLoc d cs
  | .locW l cs => { s with locs := setB s.locs l cs }
  | .nop => s

def stepR (call : Call) (g : Bool) (o : AOp) (s : Env) (h : Heap) : Option (Upd × Heap) :=
  match o with
  | .mov d x => (match s.lad x with | some (l, o) => some (.setL d l o, h) | none => some (.set d (s.ev x), h))
  | .pick d c a b => (aPick (s.ev c) (s.ev a) (s.ev b)).bind fun v => some (.set d v, h)
  | .bin d op tag x y => (aBin op tag (s.ev x) (s.ev y)).bind fun v => some (.set d v, h)
  | .un d op x => (aUn op (s.ev x)).bind fun v => some (.set d v, h)
  | .conv d c x => (aConv c (s.ev x) h).bind fun r => some (.set d r.1, r.2)
  | .box d true x => bif !g && s.fresh d then (s.ev x).cells?.bind fun cs => some (.newLoc d cs, h) else none
  | .box d false x => (s.ev x).cells?.bind fun cs => some (.set d (.ptr h.next 0), h.alloc cs)
  | .alloc d true zero => bif !g && s.fresh d then some (.newLoc d zero, h) else none
  | .alloc d false zero => some (.set d (.ptr h.next 0), h.alloc zero)
  | .build d zero parts => (aFill zero (parts.map fun p => (p.1, p.2.1, s.ev p.2.2))).bind fun cs => some (.set d (.agg cs), h)
  | .buildSl d zero es len parts =>
    (aFill (reps zero len) (parts.map fun p => (p.1 * es, es, s.ev p.2))).bind fun cs => some (.set d (.slice h.next 0 len len es true), h.alloc cs)
  | .load d agg n x =>
    (match s.lad x with
     | some (l, off) => ((lookB s.locs l).bind fun cs => rdL cs off n).bind fun cs => (fromCells agg cs).bind fun v => some (.set d v, h)
     | none => (aLoad h n (s.ev x)).bind fun cs => (fromCells agg cs).bind fun v => some (.set d v, h))
  | .store _ n x v =>
    (aCells n (s.ev v)).bind fun cs =>
    (match s.lad x with
     | some (l, off) => bif !g then (lookB s.locs l).bind fun old => bif Nat.ble (off + n) old.length then some (.locW l (splice old off cs), h) else none else none
     | none => (aStore h (s.ev x) cs).bind fun h' => some (.nop, h'))
  | .nilchk d x => (match s.lad x with | some (l, o) => some (.setL d l o, h) | none => (aNilchk (s.ev x)).bind fun v => some (.set d v, h))
  | .field d agg off n x => (aField off n (s.ev x)).bind fun cs => (fromCells agg cs).bind fun v => some (.set d v, h)
  | .faddr d off x => (match s.lad x with | some (l, o) => some (.setL d l (o + off), h) | none => (aFaddr off (s.ev x)).bind fun v => some (.set d v, h))
  | .iaddr d (some len) es x i =>
    (match s.lad x with
     | some (l, o) => (aIdx len (s.ev i)).bind fun j => some (.setL d l (o + j * es), h)
     | none => (aIaddrA len es (s.ev x) (s.ev i)).bind fun v => some (.set d v, h))
  | .iaddr d none es x i => (aIaddr es (s.ev x) (s.ev i)).bind fun v => some (.set d v, h)
  | .index d .str x i => (aIndexStr (s.ev x) (s.ev i)).bind fun v => some (.set d v, h)
  | .index d (.arr len es agg) x i => (aIndexArr len es (s.ev x) (s.ev i)).bind fun cs => (fromCells agg cs).bind fun v => some (.set d v, h)
  | .slice d .str x lo hi _ => (aSliceStr (s.ev x) (lo.map s.ev) (hi.map s.ev)).bind fun v => some (.set d v, h)
  | .slice d (.sl es) x lo hi mx => (aSliceSl es (s.ev x) (lo.map s.ev) (hi.map s.ev) (mx.map s.ev)).bind fun v => some (.set d v, h)
  | .slice d (.arr n es) x lo hi mx => (aSliceArr n es (s.ev x) (lo.map s.ev) (hi.map s.ev) (mx.map s.ev)).bind fun v => some (.set d v, h)
  | .mkSlice d es bytes zero len cap => (aMkSlice es bytes zero (s.ev len) (s.ev cap) h).bind fun r => some (.set d r.1, r.2)
  | .mkIface d t x => some (.set d (.iface t (s.ev x)), h)
  | .extract d x i => (aExtract i (s.ev x)).bind fun v => some (.set d v, h)
  | .mkFunc d f caps => some (.set d (.func f (caps.map s.ev)), h)
  | .call d f args => (call f (args.map s.ev) h).bind fun r => some (.set d r.1, r.2)
  | .callv d fn args => (aFn (s.ev fn)).bind fun fc => (call fc.1 (args.map s.ev ++ fc.2) h).bind fun r => some (.set d r.1, r.2)
  | .invoke d tbl recv args => (aMeth tbl (s.ev recv)).bind fun fr => (call fr.1 (fr.2 :: args.map s.ev) h).bind fun r => some (.set d r.1, r.2)
  | .append d es bytes zero zeros sl x => (aAppend es bytes zero zeros (s.ev sl) (s.ev x) h).bind fun r => some (.set d r.1, r.2)
  | .copy d es dst src => (aCopy es (s.ev dst) (s.ev src) h).bind fun r => some (.set d r.1, r.2)
  | .clear _ zero sl => (aClear zero (s.ev sl) h).bind fun r => some (.nop, r.2)
  | .len d str x => (aLen str (s.ev x)).bind fun v => some (.set d v, h)
  | .cap d x => (aCap (s.ev x)).bind fun v => some (.set d v, h)
  | .minmax d mx xs => (aMinMaxL mx (xs.map s.ev)).bind fun v => some (.set d v, h)
  | .fl d j sl zero parts => (flCells sl zero (parts.map fun p => (p.1, s.ev p.2))).bind fun cs => some (.set d (flVal sl (s.base + j)), h.setBlk (s.base + j) (some ⟨cs, true⟩))

theorem stepOp_eq (call : Call) (g : Bool) (ao : AOp) (s : Env) (h : Heap) (k : Env → Heap → Option J) : stepOp call g ao s h k = (stepR call g ao s h).bind fun r => k (r.1.app s) r.2 := by
  cases ao with
  | box d loc x =>
    cases loc with
    | true => cases g <;> cases hf : s.fresh d <;> simp [stepOp, stepR, hf, Upd.app, Option.bind_assoc]
    | false => simp [stepOp, stepR, Upd.app, Option.bind_assoc]
  | alloc d loc zero =>
    cases loc with
    | true => cases g <;> cases hf : s.fresh d <;> simp [stepOp, stepR, hf, Upd.app]
    | false => simp [stepOp, stepR, Upd.app]
  | iaddr d arr es x i =>
    cases arr with
    | none => simp [stepOp, stepR, Upd.app, Option.bind_assoc]
    | some len => cases hl : s.lad x <;> simp [stepOp, stepR, hl, Upd.app, Option.bind_assoc]
  | index d kk x i => cases kk <;> simp [stepOp, stepR, Upd.app, Option.bind_assoc]
  | slice d kk x lo hi mx => cases kk <;> simp [stepOp, stepR, Upd.app, Option.bind_assoc]
  | mov d x => cases hl : s.lad x <;> simp [stepOp, stepR, hl, Upd.app]
  | nilchk d x => cases hl : s.lad x <;> simp [stepOp, stepR, hl, Upd.app, Option.bind_assoc]
  | faddr d off x => cases hl : s.lad x <;> simp [stepOp, stepR, hl, Upd.app, Option.bind_assoc]
  | load d agg n x => cases hl : s.lad x <;> simp [stepOp, stepR, hl, Upd.app, Option.bind_assoc]
  | store agg n x v =>
    cases hl : s.lad x with
    | none => simp [stepOp, stepR, hl, Upd.app, Option.bind_assoc]
    | some p =>
      cases hc : aCells n (s.ev v) with
      | none => simp [stepOp, stepR, hc]
      | some cs =>
        cases g with
        | true => simp [stepOp, stepR, hl, hc]
        | false =>
          cases hb : lookB s.locs p.1 with
          | none => simp [stepOp, stepR, hl, hc, hb]
          | some old =>
            cases hn : Nat.ble (p.2 + n) old.length <;> simp only [stepOp, stepR, hl, hc, hb, hn, Option.bind_some, Bool.not_false, cond_true, cond_false, Upd.app, Option.bind_none]
  | _ => simp [stepOp, stepR, Upd.app, Option.bind_assoc]

/-- The operands of an operation. -/
def aoOpds : AOp → List AOpd
  | .mov _ x | .un _ _ x | .conv _ _ x | .box _ _ x | .load _ _ _ x | .nilchk _ x | .field _ _ _ _ x | .faddr _ _ x | .mkIface _ _ x | .extract _ x _ | .clear _ _ x | .len _ _ x | .cap _ x => [x]
  | .pick _ c a b => [c, a, b]
  | .bin _ _ _ x y | .store _ _ x y | .iaddr _ _ _ x y | .index _ _ x y | .mkSlice _ _ _ _ x y | .append _ _ _ _ _ x y | .copy _ _ x y => [x, y]
  | .alloc _ _ _ => []
  | .build _ _ parts => parts.map (·.2.2)
  | .buildSl _ _ _ _ parts => parts.map (·.2)
  | .slice _ _ x lo hi mx => x :: (lo.toList ++ hi.toList ++ mx.toList)
  | .mkFunc _ _ caps => caps
  | .call _ _ args => args
  | .callv _ fn args => fn :: args
  | .invoke _ _ recv args => recv :: args
  | .minmax _ _ xs => xs
  | .fl _ _ _ _ parts => parts.map (·.2)

theorem stepR_congr {call : Call} {g : Bool} {ao : AOp} {s S : Env} {h : Heap} (hev : ∀ x ∈ aoOpds ao, S.ev x = s.ev x) (hlad : ∀ x ∈ aoOpds ao, S.lad x = s.lad x) (hloc : S.locs = s.locs) (hbase : isFl ao = true → S.base = s.base) : stepR call g ao S h = stepR call g ao s h := by
  have hfr : ∀ d, S.fresh d = s.fresh d := fun d => by unfold Env.fresh; rw [hloc]
  have hopt : ∀ o : Option AOpd, (∀ x ∈ o.toList, S.ev x = s.ev x) → o.map S.ev = o.map s.ev := fun o ho => by
    cases o with
    | none => rfl
    | some x => simp only [Option.map_some]; rw [ho x (by simp)]
  have hmap : ∀ l : List AOpd, (∀ x ∈ l, S.ev x = s.ev x) → l.map S.ev = l.map s.ev := fun l hl => List.map_congr_left hl
  cases ao with
  | box d loc x => cases loc <;> simp only [stepR, hfr, hev x (by simp [aoOpds])]
  | alloc d loc zero => cases loc <;> simp only [stepR, hfr]
  | iaddr d arr es x i => cases arr <;> simp only [stepR, hev x (by simp [aoOpds]), hev i (by simp [aoOpds]), hlad x (by simp [aoOpds])]
  | index d kk x i => cases kk <;> simp only [stepR, hev x (by simp [aoOpds]), hev i (by simp [aoOpds])]
  | slice d kk x lo hi mx =>
    have h1 := hopt lo (fun y hy => hev y (by simp only [aoOpds]; simp [hy]))
    have h2 := hopt hi (fun y hy => hev y (by simp only [aoOpds]; simp [hy]))
    have h3 := hopt mx (fun y hy => hev y (by simp only [aoOpds]; simp [hy]))
    cases kk <;> simp only [stepR, hev x (by simp [aoOpds]), h1, h2, h3]
  | build d zero parts =>
    have : (parts.map fun p => (p.1, p.2.1, S.ev p.2.2)) = parts.map fun p => (p.1, p.2.1, s.ev p.2.2) := List.map_congr_left fun p hp => by rw [hev p.2.2 (by simp only [aoOpds]; exact List.mem_map_of_mem hp)]
    simp only [stepR, this]
  | buildSl d zero es len parts =>
    have : (parts.map fun p => (p.1 * es, es, S.ev p.2)) = parts.map fun p => (p.1 * es, es, s.ev p.2) := List.map_congr_left fun p hp => by rw [hev p.2 (by simp only [aoOpds]; exact List.mem_map_of_mem hp)]
    simp only [stepR, this]
  | mkFunc d f caps => simp only [stepR, hmap caps (fun x hx => hev x (by simpa [aoOpds] using hx))]
  | call d f args => simp only [stepR, hmap args (fun x hx => hev x (by simpa [aoOpds] using hx))]
  | callv d fn args => simp only [stepR, hmap args (fun x hx => hev x (by simp [aoOpds, hx])), hev fn (by simp [aoOpds])]
  | invoke d tbl recv args => simp only [stepR, hmap args (fun x hx => hev x (by simp [aoOpds, hx])), hev recv (by simp [aoOpds])]
  | minmax d mx xs => simp only [stepR, hmap xs (fun x hx => hev x (by simpa [aoOpds] using hx))]
  | fl d j sl zero parts =>
    have : (parts.map fun p => (p.1, S.ev p.2)) = parts.map fun p => (p.1, s.ev p.2) := List.map_congr_left fun p hp => by rw [hev p.2 (by simp only [aoOpds]; exact List.mem_map_of_mem hp)]
    simp only [stepR, this, hbase rfl]
  | pick d c a b => simp only [stepR, hev c (by simp [aoOpds]), hev a (by simp [aoOpds]), hev b (by simp [aoOpds])]
  | bin d op tag x y => simp only [stepR, hev x (by simp [aoOpds]), hev y (by simp [aoOpds])]
  | store agg m x y => simp only [stepR, hev x (by simp [aoOpds]), hev y (by simp [aoOpds]), hlad x (by simp [aoOpds]), hloc]
  | mkSlice d es bytes zero x y => simp only [stepR, hev x (by simp [aoOpds]), hev y (by simp [aoOpds])]
  | append d es bytes zero zeros x y => simp only [stepR, hev x (by simp [aoOpds]), hev y (by simp [aoOpds])]
  | copy d es x y => simp only [stepR, hev x (by simp [aoOpds]), hev y (by simp [aoOpds])]
  | load d agg m x => simp only [stepR, hev x (by simp [aoOpds]), hlad x (by simp [aoOpds]), hloc]
  | mov d x | un d op x | conv d c x | nilchk d x | field d agg off m x | faddr d off x | mkIface d t x | extract d x i | clear d zero x | len d str x | cap d x =>
    simp only [stepR, hev x (by simp [aoOpds]), hlad x (by simp [aoOpds])]

/-- Those whose order among each other the regions keep: what writes, and what makes blocks. -/
def isEff : AOp → Bool
  | .store .. | .call .. | .callv .. | .invoke .. | .append .. | .copy .. | .clear .. | .box .. | .alloc .. | .buildSl .. | .mkSlice .. | .fl .. | .conv _ .strBytes _ | .conv _ .slBytes _ => true
  | _ => false

/-- What is read stays. -/
def sameRd (a : Option Log) (β : List (Nat × List AVal)) (h : Heap) (β' : List (Nat × List AVal)) (h' : Heap) : Prop :=
  match a with
  | some (.rd b off n) => h.rd b off n = h'.rd b off n
  | some (.lrd l off n) => ((lookB β l).bind fun c => rdL c off n) = ((lookB β' l).bind fun c => rdL c off n)
  | _ => True

theorem stepR_pure {call : Call} {g : Bool} {ao : AOp} (he : isEff ao = false) {s : Env} {h : Heap} {u : Upd} {h' : Heap} (hr : stepR call g ao s h = some (u, h')) {s' : Env} {k' : Heap} :
    h' = h ∧ (∀ S : Env, (u.app S).locs = S.locs) ∧ ∀ (S : Env) (H : Heap), (∀ x ∈ aoOpds ao, S.ev x = s.ev x) → (∀ x ∈ aoOpds ao, S.lad x = s.lad x) → sameRd (logOf ao s h s' k') s.locs h S.locs H → stepR call g ao S H = some (u, H) := by
  have hopt : ∀ (S : Env) (o : Option AOpd), (∀ x ∈ o.toList, S.ev x = s.ev x) → o.map S.ev = o.map s.ev := fun S o ho => by
    cases o with
    | none => rfl
    | some x => simp only [Option.map_some]; rw [ho x (by simp)]
  have hmap : ∀ (S : Env) (l : List AOpd), (∀ x ∈ l, S.ev x = s.ev x) → l.map S.ev = l.map s.ev := fun S l hl => List.map_congr_left hl
  have key : ∀ (d : Nat) (f : Env → Option AVal), (∀ S H, stepR call g ao S H = (f S).bind fun v => some (.set d v, H)) → (∀ S : Env, (∀ x ∈ aoOpds ao, S.ev x = s.ev x) → f S = f s) →
      h' = h ∧ (∀ S : Env, (u.app S).locs = S.locs) ∧ ∀ (S : Env) (H : Heap), (∀ x ∈ aoOpds ao, S.ev x = s.ev x) → (∀ x ∈ aoOpds ao, S.lad x = s.lad x) → sameRd (logOf ao s h s' k') s.locs h S.locs H → stepR call g ao S H = some (u, H) := by
    intro d f h1 h2
    rw [h1] at hr
    simp only [Option.bind_eq_some_iff, Option.some.injEq, Prod.mk.injEq] at hr
    obtain ⟨v, hv, rfl, rfl⟩ := hr
    exact ⟨rfl, fun S => rfl, fun S H e1 _ _ => by rw [h1, h2 S e1, hv]; rfl⟩
  cases ao with
  | pick d c a b => exact key d _ (fun S H => rfl) (fun S e => by simp only [e c (by simp [aoOpds]), e a (by simp [aoOpds]), e b (by simp [aoOpds])])
  | bin d op tag x y => exact key d _ (fun S H => rfl) (fun S e => by simp only [e x (by simp [aoOpds]), e y (by simp [aoOpds])])
  | un d op x => exact key d _ (fun S H => rfl) (fun S e => by simp only [e x (by simp [aoOpds])])
  | build d zero parts =>
    refine key d (fun S => (aFill zero (parts.map fun p => (p.1, p.2.1, S.ev p.2.2))).bind fun cs => some (.agg cs)) (fun S H => by simp [stepR, Option.bind_assoc]) (fun S e => ?_)
    have : (parts.map fun p => (p.1, p.2.1, S.ev p.2.2)) = parts.map fun p => (p.1, p.2.1, s.ev p.2.2) := List.map_congr_left fun p hp => by rw [e p.2.2 (by simp only [aoOpds]; exact List.mem_map_of_mem hp)]
    simp only [this]
  | field d agg off m x => exact key d (fun S => (aField off m (S.ev x)).bind fun cs => fromCells agg cs) (fun S H => by simp [stepR, Option.bind_assoc]) (fun S e => by simp only [e x (by simp [aoOpds])])
  | index d kk x i =>
    cases kk with
    | str => exact key d _ (fun S H => rfl) (fun S e => by simp only [e x (by simp [aoOpds]), e i (by simp [aoOpds])])
    | arr len es agg => exact key d (fun S => (aIndexArr len es (S.ev x) (S.ev i)).bind fun cs => fromCells agg cs) (fun S H => by simp [stepR, Option.bind_assoc]) (fun S e => by simp only [e x (by simp [aoOpds]), e i (by simp [aoOpds])])
  | slice d kk x lo hi mx =>
    have h1 : ∀ S : Env, (∀ y ∈ aoOpds (.slice d kk x lo hi mx), S.ev y = s.ev y) → lo.map S.ev = lo.map s.ev ∧ hi.map S.ev = hi.map s.ev ∧ mx.map S.ev = mx.map s.ev := fun S e =>
      ⟨hopt S lo (fun y hy => e y (by simp only [aoOpds]; simp [hy])), hopt S hi (fun y hy => e y (by simp only [aoOpds]; simp [hy])), hopt S mx (fun y hy => e y (by simp only [aoOpds]; simp [hy]))⟩
    cases kk with
    | str => exact key d _ (fun S H => rfl) (fun S e => by simp only [e x (by simp [aoOpds]), (h1 S e).1, (h1 S e).2.1])
    | sl es => exact key d _ (fun S H => rfl) (fun S e => by simp only [e x (by simp [aoOpds]), (h1 S e).1, (h1 S e).2.1, (h1 S e).2.2])
    | arr m es => exact key d (fun S => aSliceArr m es (S.ev x) (lo.map S.ev) (hi.map S.ev) (mx.map S.ev)) (fun S H => by simp only [stepR]) (fun S e => by simp only [e x (by simp [aoOpds]), (h1 S e).1, (h1 S e).2.1, (h1 S e).2.2])
  | extract d x i => exact key d _ (fun S H => rfl) (fun S e => by simp only [e x (by simp [aoOpds])])
  | len d str x => exact key d _ (fun S H => rfl) (fun S e => by simp only [e x (by simp [aoOpds])])
  | cap d x => exact key d _ (fun S H => rfl) (fun S e => by simp only [e x (by simp [aoOpds])])
  | minmax d mx xs => exact key d _ (fun S H => rfl) (fun S e => by simp only [hmap S xs (fun x hx => e x (by simpa [aoOpds] using hx))])
  | mkIface d t x => exact key d (fun S => some (.iface t (S.ev x))) (fun S H => rfl) (fun S e => by simp only [e x (by simp [aoOpds])])
  | mkFunc d f caps => exact key d (fun S => some (.func f (caps.map S.ev))) (fun S H => rfl) (fun S e => by simp only [hmap S caps (fun x hx => e x (by simpa [aoOpds] using hx))])
  | mov d x =>
    simp only [stepR] at hr
    split at hr
    · rename_i l o hl
      cases hr
      exact ⟨rfl, fun S => rfl, fun S H e1 e2 _ => by simp only [stepR, e2 x (by simp [aoOpds]), hl]⟩
    · rename_i hl
      cases hr
      exact ⟨rfl, fun S => rfl, fun S H e1 e2 _ => by simp only [stepR, e2 x (by simp [aoOpds]), hl, e1 x (by simp [aoOpds])]⟩
  | nilchk d x =>
    simp only [stepR] at hr
    split at hr
    · rename_i l o hl
      cases hr
      exact ⟨rfl, fun S => rfl, fun S H e1 e2 _ => by simp only [stepR, e2 x (by simp [aoOpds]), hl]⟩
    · rename_i hl
      simp only [Option.bind_eq_some_iff, Option.some.injEq, Prod.mk.injEq] at hr
      obtain ⟨v, hv, rfl, rfl⟩ := hr
      exact ⟨rfl, fun S => rfl, fun S H e1 e2 _ => by simp only [stepR, e2 x (by simp [aoOpds]), hl, e1 x (by simp [aoOpds]), hv, Option.bind_some]⟩
  | faddr d off x =>
    simp only [stepR] at hr
    split at hr
    · rename_i l o hl
      cases hr
      exact ⟨rfl, fun S => rfl, fun S H e1 e2 _ => by simp only [stepR, e2 x (by simp [aoOpds]), hl]⟩
    · rename_i hl
      simp only [Option.bind_eq_some_iff, Option.some.injEq, Prod.mk.injEq] at hr
      obtain ⟨v, hv, rfl, rfl⟩ := hr
      exact ⟨rfl, fun S => rfl, fun S H e1 e2 _ => by simp only [stepR, e2 x (by simp [aoOpds]), hl, e1 x (by simp [aoOpds]), hv, Option.bind_some]⟩
  | iaddr d arr es x i =>
    cases arr with
    | none => exact key d _ (fun S H => rfl) (fun S e => by simp only [e x (by simp [aoOpds]), e i (by simp [aoOpds])])
    | some len =>
      simp only [stepR] at hr
      split at hr
      · rename_i l o hl
        simp only [Option.bind_eq_some_iff, Option.some.injEq, Prod.mk.injEq] at hr
        obtain ⟨v, hv, rfl, rfl⟩ := hr
        exact ⟨rfl, fun S => rfl, fun S H e1 e2 _ => by simp only [stepR, e2 x (by simp [aoOpds]), hl, e1 i (by simp [aoOpds]), hv, Option.bind_some]⟩
      · rename_i hl
        simp only [Option.bind_eq_some_iff, Option.some.injEq, Prod.mk.injEq] at hr
        obtain ⟨v, hv, rfl, rfl⟩ := hr
        exact ⟨rfl, fun S => rfl, fun S H e1 e2 _ => by simp only [stepR, e2 x (by simp [aoOpds]), hl, e1 x (by simp [aoOpds]), e1 i (by simp [aoOpds]), hv, Option.bind_some]⟩
  | conv d c x =>
    cases c with
    | strBytes => cases he
    | toInt kk =>
      refine key d (fun S => match S.ev x with | .int _ m => some (.int kk (kk.wrap m)) | _ => none) (fun S H => ?_) (fun S e => by simp only [e x (by simp [aoOpds])])
      simp only [stepR, aConv]
      cases S.ev x <;> rfl
    | strStr =>
      refine key d (fun S => match S.ev x with | .str l => some (.str l) | _ => none) (fun S H => ?_) (fun S e => by simp only [e x (by simp [aoOpds])])
      simp only [stepR, aConv]
      cases S.ev x <;> rfl
    | slBytes => cases he
    | intStr =>
      refine key d (fun S => match S.ev x with | .int _ m => some (.str (Utf8.encode m).data.toList) | _ => none) (fun S H => ?_) (fun S e => by simp only [e x (by simp [aoOpds])])
      simp only [stepR, aConv]
      cases S.ev x <;> rfl
    | bytesStr =>
      simp only [stepR] at hr
      cases hx : s.ev x with
      | nilSlice =>
        simp only [hx, aConv, Option.bind_some, Option.some.injEq, Prod.mk.injEq] at hr
        obtain ⟨rfl, rfl⟩ := hr
        exact ⟨rfl, fun S => rfl, fun S H e1 e2 _ => by simp only [stepR, e1 x (by simp [aoOpds]), hx, aConv, Option.bind_some]⟩
      | slice b off len cap es ex =>
        simp only [hx, aConv] at hr
        cases hb : Nat.beq es 1 with
        | false => rw [hb] at hr; cases hr
        | true =>
          rw [hb] at hr
          simp only [cond_true, Option.bind_eq_some_iff, Option.some.injEq, Prod.mk.injEq] at hr
          obtain ⟨r, ⟨cs, hcs, l, hl, rfl⟩, rfl, rfl⟩ := hr
          refine ⟨rfl, fun S => rfl, fun S H e1 e2 e3 => ?_⟩
          have e4 : h.rd b off len = H.rd b off len := by simpa only [sameRd, logOf, logBs, hx] using e3
          simp only [stepR, e1 x (by simp [aoOpds]), hx, aConv, hb, cond_true, ← e4, hcs, Option.bind_some, hl]
      | _ => simp [hx, aConv] at hr
  | load d agg m x =>
    simp only [stepR] at hr
    split at hr
    · rename_i l off hl
      simp only [Option.bind_eq_some_iff, Option.some.injEq, Prod.mk.injEq] at hr
      obtain ⟨cs, ⟨cs0, hc0, hcs⟩, v, hv, rfl, rfl⟩ := hr
      refine ⟨rfl, fun S => rfl, fun S H e1 e2 e3 => ?_⟩
      have e4 : ((lookB s.locs l).bind fun c => rdL c off m) = ((lookB S.locs l).bind fun c => rdL c off m) := by simpa only [sameRd, logOf, hl] using e3
      simp only [stepR, e2 x (by simp [aoOpds]), hl]
      rw [← e4]
      simp only [hc0, Option.bind_some, hcs, hv]
    · rename_i hl
      simp only [Option.bind_eq_some_iff, Option.some.injEq, Prod.mk.injEq] at hr
      obtain ⟨cs, hcs, v, hv, rfl, rfl⟩ := hr
      refine ⟨rfl, fun S => rfl, fun S H e1 e2 e3 => ?_⟩
      have e4 : aLoad H m (s.ev x) = aLoad h m (s.ev x) := by
        unfold aLoad at hcs ⊢
        split at hcs
        · rename_i b off hx
          have : h.rd b off m = H.rd b off m := by simpa only [sameRd, logOf, hl, logRd, hx] using e3
          exact this.symm
        · cases hcs
      simp only [stepR, e2 x (by simp [aoOpds]), hl, e1 x (by simp [aoOpds]), e4, hcs, Option.bind_some, hv]
  | _ => cases he

end Go.Fw
