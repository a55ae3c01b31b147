/- When an operation of the abstract code stands for one of the model; what those do that only compute. -/
import Derived.Test.YtfdhljghamkgjaaFwF
namespace Go.Fw
set_option linter.unusedSimpArgs false
set_option linter.unusedVariables false

def optOk : Option Operand → Option AOpd → Bool
  | none, none => true
  | some x, some y => opdOk x y
  | _, _ => false
def opdsOk : List Operand → List AOpd → Bool
  | [], [] => true
  | x :: xs, y :: ys => opdOk x y && opdsOk xs ys
  | _, _ => false
def sizeIs (P : Program) (t : TypeId) (n : Nat) : Bool := decide ((P.info? t).map (·.size) = some n)
def bytesIs (P : Program) (t : TypeId) (n : Nat) : Bool := decide ((P.info? t).map (·.bytes) = some n)
def zeroOk (P : Program) (t : TypeId) (zero : List AVal) : Bool :=
  match (P.info? t).bind (·.zero) with
  | some z => constsOk zero z.cells.toList
  | none => false
def aggOk (P : Program) (t : TypeId) (agg : Bool) (n : Nat) : Bool :=
  match P.underlying t with
  | some (.struct _) | some (.array _ _) => agg && sizeIs P t n
  | some _ => !agg && Nat.beq n 1 && sizeIs P t 1
  | none => false
def convOk (P : Program) (src dst : TypeId) : AConv → Bool
  | .toInt k => (match P.underlying src, P.underlying dst with | some _, some (.int j) => decide (k = j) | _, _ => false)
  | .strBytes => (match P.underlying src, P.underlying dst with | some _, some (.slice e) => (match P.underlying e with | some (.int .u8) => sizeIs P e 1 | _ => false) | _, _ => false)
  | .bytesStr => (match P.underlying src, P.underlying dst with | some (.slice e), some .string => (match P.underlying e with | some (.int .u8) => true | _ => false) | _, _ => false)
  | .strStr => (match P.underlying src, P.underlying dst with | some _, some .string => true | _, _ => false)
  | .intStr => (match P.underlying src, P.underlying dst with | some (.int _), some .string => true | _, _ => false)
  | .slBytes => decide (src = dst) && (match P.underlying dst with | some (.slice e) => (match P.underlying e with | some (.int .u8) => true | _ => false) | _ => false)
def partsOk (place : Nat → Option (Nat × Nat)) : List (Nat × Operand) → List (Nat × Nat × AOpd) → Bool
  | [], [] => true
  | (i, x) :: r, (off, n, y) :: s => decide (place i = some (off, n)) && opdOk x y && partsOk place r s
  | _, _ => false
def buildOk (P : Program) (t : TypeId) (parts : List (Nat × Operand)) (aparts : List (Nat × Nat × AOpd)) : Bool :=
  match P.underlying t with
  | some (.struct fs) => fs.toList.all (fun f => ((P.info? f.type).map (·.size)).isSome) && partsOk (fun i => (fs.toList[i]?).map fun f => (f.offset, P.cellsOf f.type)) parts aparts
  | some (.array _ e) => ((P.info? e).map (·.size)).isSome && partsOk (fun i => some (i * P.cellsOf e, P.cellsOf e)) parts aparts
  | _ => false
def slPartsOk : List (Nat × Operand) → List (Nat × AOpd) → Bool
  | [], [] => true
  | (i, x) :: r, (j, y) :: s => Nat.beq i j && opdOk x y && slPartsOk r s
  | _, _ => false

/-- The methods that a table names: of each dynamic type the function, and how its receiver comes out of the value. -/
def methOk (P : Program) (name : String) (u : Nat) (e : Nat × Option (Nat × Nat × Bool)) : Bool :=
  match P.info? u with
  | none => false
  | some i =>
    match i.methods.find? (·.name == name) with
    | none => false
    | some m =>
      match m.func with
      | none => false
      | some (f, pr) =>
        Nat.beq f e.1 &&
        match m.path.toList, e.2 with
        | [], none =>
          (match P.underlying u with
           | some (.pointer _) => pr
           | some _ => !pr
           | none => false)
        | [s], some (off, n, agg) =>
          !s.deref && !agg && Nat.beq n 1 &&
          (match P.underlying s.struct with
           | some (.struct fs) =>
             (match fs[s.index]? with
              | some f => Nat.beq f.offset off && (match P.underlying f.type with | some (.pointer _) => pr | _ => false)
              | none => false)
           | _ => false)
        | _, _ => false

def chkCall (P : Program) (c : Go.Call) : AOp → Bool
  | .call _ f args => (match c.callee with | .value (.func g) => Nat.beq f g && opdsOk c.args.toList args | _ => false)
  | .callv _ fn args => (match c.callee with | .value (.tmp t) => opdOk (.tmp t) fn && opdsOk c.args.toList args | _ => false)
  | .invoke _ tbl recv args => (match c.callee with | .invoke r name => opdOk r recv && opdsOk c.args.toList args && tbl.all (fun e => methOk P name e.1 e.2) | _ => false)
  | .append _ es bytes zero zeros s x =>
    (match c.callee, c.args.toList, c.argTypes.toList with
     | .builtin .append, [s', x'], t :: ts =>
       opdOk s' s && opdOk x' x &&
       (match P.underlying t with
        | some (.slice e) => sizeIs P e es && bytesIs P e bytes && zeroOk P e zero && Nat.beq zero.length es
        | _ => false) &&
       (match ts with
        | [u] => (match P.underlying u with | some (.int _) => zeros | some _ => !zeros | none => false)
        | [] => !zeros
        | _ => false)
     | _, _, _ => false)
  | .copy _ es d s =>
    (match c.callee, c.args.toList, c.argTypes.toList with
     | .builtin .copy, [d', s'], t :: _ => opdOk d' d && opdOk s' s && (match P.underlying t with | some (.slice e) => sizeIs P e es | _ => false)
     | _, _, _ => false)
  | .clear _ zero s =>
    (match c.callee, c.args.toList, c.argTypes.toList with
     | .builtin .clear, [s'], t :: _ => opdOk s' s && (match P.underlying t with | some (.slice e) => zeroOk P e zero | _ => false)
     | _, _, _ => false)
  | .len _ str x =>
    (match c.callee, c.args.toList, c.argTypes.toList with
     | .builtin .len, [x'], t :: _ => opdOk x' x && (match P.underlying t with | some .string => str | some (.slice _) => !str | _ => false)
     | _, _, _ => false)
  | .cap _ x =>
    (match c.callee, c.args.toList, c.argTypes.toList with
     | .builtin .cap, [x'], t :: _ => opdOk x' x && (match P.underlying t with | some (.slice _) => true | _ => false)
     | _, _, _ => false)
  | .minmax _ mx xs =>
    (match c.callee with
     | .builtin .max => mx && opdsOk c.args.toList xs
     | .builtin .min => !mx && opdsOk c.args.toList xs
     | _ => false)
  | _ => false

def iaddrOk (P : Program) (t : TypeId) (arr : Option Nat) (es : Nat) : Bool :=
  match P.underlying t, arr with
  | some (.array len e), some len' => Nat.beq len len' && sizeIs P e es
  | some (.slice e), none => sizeIs P e es
  | _, _ => false

def chkOp (P : Program) : Op → AOp → Bool
  | .move x, .mov _ y => opdOk x y
  | .assign x, .mov _ y => opdOk x y
  | .pick c a b, .pick _ c' a' b' => opdOk c c' && opdOk a a' && opdOk b b'
  | .binOp op t x y _, .bin _ op' tag x' y' => decide (op = op') && tagOk P t x y tag && opdOk x x' && opdOk y y'
  | .unOp op _ x, .un _ op' y => decide (op = op') && opdOk x y
  | .convert src dst x, .conv _ c y => opdOk x y && convOk P src dst c
  | .box _ x, .box _ _ y => opdOk x y
  | .alloc t, .alloc _ _ zero => zeroOk P t zero
  | .build t parts, .build _ zero aparts => zeroOk P t zero && buildOk P t parts.toList aparts
  | .buildSlice t len parts, .buildSl _ zero es len' aparts =>
    Nat.beq len len' && slPartsOk parts.toList aparts &&
    (match P.underlying t with | some (.slice e) => sizeIs P e es && zeroOk P e zero && Nat.beq zero.length es && Nat.ble (len * es) 16777216 | _ => false)
  | .load t x, .load _ agg n y => opdOk x y && aggOk P t agg n
  | .store t x v, .store agg n y u => opdOk x y && opdOk v u && aggOk P t agg n
  | .nilCheck x, .nilchk _ y => opdOk x y
  | .field t x f, .field _ agg off n y => opdOk x y &&
    (match P.underlying t with | some (.struct fs) => (match fs[f]? with | some fl => Nat.beq fl.offset off && aggOk P fl.type agg n | none => false) | _ => false)
  | .fieldAddr t x f, .faddr _ off y => opdOk x y &&
    (match P.underlying t with | some (.struct fs) => (match fs[f]? with | some fl => Nat.beq fl.offset off && (match (P.info? fl.type).map (·.size) with | some (_ + 1) => true | _ => false) | none => false) | _ => false)
  | .indexAddr t x i, .iaddr _ arr es y j => opdOk x y && opdOk i j && iaddrOk P t arr es
  | .index t x i, .index _ k y j => opdOk x y && opdOk i j &&
    (match P.underlying t, k with
     | some (.array len e), .arr len' es agg => Nat.beq len len' && sizeIs P e es && aggOk P e agg es
     | some .string, .str => true
     | _, _ => false)
  | .slice t x lo hi mx, .slice _ k y lo' hi' mx' => opdOk x y && optOk lo lo' && optOk hi hi' && optOk mx mx' &&
    (match P.underlying t, k with
     | some .string, .str => mx.isNone
     | some (.slice e), .sl es => sizeIs P e es && (mx.isNone || hi.isSome)
     | some (.array n e), .arr n' es => Nat.beq n n' && sizeIs P e es && (mx.isNone || hi.isSome)
     | _, _ => false)
  | .makeSlice t l c, .mkSlice _ es bytes zero l' c' => opdOk l l' && opdOk c c' &&
    (match P.underlying t with | some (.slice e) => sizeIs P e es && bytesIs P e bytes && zeroOk P e zero && Nat.beq zero.length es | _ => false)
  | .makeInterface t x, .mkIface _ t' y => Nat.beq t t' && opdOk x y && P.concrete t
  | .extract x i, .extract _ y i' => Nat.beq i i' && opdOk x y
  | .makeFunc (.func f) first caps, .mkFunc _ f' caps' => Nat.beq f f' && first.isEmpty && opdsOk caps.toList caps'
  | .call c, ao => chkCall P c ao
  | _, _ => false

/-- What an operation answers that only computes. -/
def pureOp (o : AOp) (ev : AOpd → AVal) : Option AVal :=
  match o with
  | .mov _ x => some (ev x)
  | .pick _ c a b => aPick (ev c) (ev a) (ev b)
  | .bin _ op tag x y => aBin op tag (ev x) (ev y)
  | .un _ op x => aUn op (ev x)
  | .conv _ (.toInt k) x => (match ev x with | .int _ n => some (.int k (k.wrap n)) | _ => none)
  | .conv _ .strStr x => (match ev x with | .str l => some (.str l) | _ => none)
  | .conv _ .intStr x => (match ev x with | .int _ n => some (.str (Utf8.encode n).data.toList) | _ => none)
  | .build _ zero parts => (aFill zero (parts.map fun p => (p.1, p.2.1, ev p.2.2))).bind fun cs => some (.agg cs)
  | .nilchk _ x => aNilchk (ev x)
  | .field _ agg off n x => (aField off n (ev x)).bind fun cs => fromCells agg cs
  | .faddr _ off x => aFaddr off (ev x)
  | .iaddr _ (some len) es x i => aIaddrA len es (ev x) (ev i)
  | .iaddr _ none es x i => aIaddr es (ev x) (ev i)
  | .index _ .str x i => aIndexStr (ev x) (ev i)
  | .index _ (.arr len es agg) x i => (aIndexArr len es (ev x) (ev i)).bind fun cs => fromCells agg cs
  | .slice _ .str x lo hi _ => aSliceStr (ev x) (lo.map ev) (hi.map ev)
  | .slice _ (.sl es) x lo hi mx => aSliceSl es (ev x) (lo.map ev) (hi.map ev) (mx.map ev)
  | .slice _ (.arr n es) x lo hi mx => aSliceArr n es (ev x) (lo.map ev) (hi.map ev) (mx.map ev)
  | .mkIface _ t x => some (.iface t (ev x))
  | .extract _ x i => aExtract i (ev x)
  | .mkFunc _ f caps => some (.func f (caps.map ev))
  | .len _ str x => aLen str (ev x)
  | .cap _ x => aCap (ev x)
  | .minmax _ mx xs => aMinMaxL mx (xs.map ev)
  | _ => none

section
variable {P : Program} (w : World)

theorem run_aggOk {t : TypeId} {agg : Bool} {n : Nat} (h : aggOk P t agg n = true) : (isAgg t).run P w = .ok agg w ∧ (sizeOf t).run P w = .ok n w ∧ (agg = false → n = 1) := by
  unfold aggOk at h
  split at h
  · rename_i hu
    simp only [Bool.and_eq_true, sizeIs, decide_eq_true_eq] at h
    obtain ⟨rfl, hn⟩ := h
    exact ⟨by simp [isAgg, run_underlying hu], run_sizeOf' w hn, by simp⟩
  · rename_i hu
    simp only [Bool.and_eq_true, sizeIs, decide_eq_true_eq] at h
    obtain ⟨rfl, hn⟩ := h
    exact ⟨by simp [isAgg, run_underlying hu], run_sizeOf' w hn, by simp⟩
  · rename_i d h1 h2 hu
    simp only [Bool.and_eq_true, sizeIs, decide_eq_true_eq, Bool.not_eq_true'] at h
    obtain ⟨⟨rfl, hn⟩, hs⟩ := h
    have hn := Nat.eq_of_beq_eq_true hn
    subst hn
    refine ⟨?_, run_sizeOf' w hs, fun _ => rfl⟩
    cases d <;> first | (simp [isAgg, run_underlying hu]; done) | exact (h1 _ rfl).elim | exact (h2 _ _ rfl).elim
  · cases h

/-- A part of a struct or an array. -/
theorem part_rel {φ : Phi} {t : TypeId} {agg : Bool} {off n : Nat} (ht : aggOk P t agg n = true) {as cs : List AVal} {vs : Array Value} (hr : VRels φ as vs.toList) (ho : ∀ u ∈ vs.toList, u.oneCell' = true)
    (h : rdL as off n = some cs) {r : AVal} (hf : fromCells agg cs = some r) : ∃ u, (part t vs off).run P w = .ok u w ∧ VRel φ r u := by
  obtain ⟨h1, h2, h3⟩ := run_aggOk w ht
  unfold rdL at h
  cases hb : Nat.ble (off + n) as.length with
  | false => rw [hb] at h; cases h
  | true =>
    rw [hb] at h
    cases h
    have hle := Nat.le_of_ble_eq_true hb
    have hl := VRels.length hr
    have hrd : VRels φ ((as.drop off).take n) ((vs.toList.drop off).take n) := VRels.take n (VRels.drop off hr)
    cases agg with
    | true =>
      simp only [fromCells, Option.some.injEq] at hf
      subst hf
      refine ⟨.agg (vs.extract off (off + n)), by simp [part, h1, h2], vrel_agg.2 ⟨_, rfl, ?_, ?_⟩⟩
      · rw [Array.toList_extract, List.extract_eq_take_drop, Nat.add_sub_cancel_left]
        exact hrd
      · rw [Array.toList_extract, List.extract_eq_take_drop]
        exact fun u hu => ho u (List.mem_of_mem_drop (List.mem_of_mem_take hu))
    | false =>
      have hn := h3 rfl
      subst hn
      have hlt : off < vs.size := by simp at hl; omega
      have he : (vs.toList.drop off).take 1 = [vs[off]] := by
        rw [List.drop_eq_getElem_cons (by simpa using hlt)]
        simp
      rw [he] at hrd
      have hlt' : off < as.length := by omega
      rw [List.drop_eq_getElem_cons hlt'] at hrd hf
      simp only [List.take_succ_cons, List.take_zero, fromCells, Option.some.injEq] at hrd hf
      subst hf
      simp only [VRels, and_true] at hrd
      exact ⟨vs[off], by simp [part, h1, hlt], hrd⟩

end
end Go.Fw
