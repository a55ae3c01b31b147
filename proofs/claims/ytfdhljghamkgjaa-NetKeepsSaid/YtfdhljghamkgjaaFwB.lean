/- The abstract semantics of regions, code, functions; the limit over the depth of calls. -/
import Derived.Test.YtfdhljghamkgjaaFwA
namespace Go.Fw
set_option linter.unusedSimpArgs false
set_option linter.unusedVariables false

def logRd (v : AVal) (n : Nat) : Option Log := match v with | .ptr b off => some (.rd b off n) | _ => none
def logBs (v : AVal) : Option Log := match v with | .slice b off len _ _ _ => some (.rd b off len) | _ => none
/-- Which cells an operation reads, or which block it makes: for the check of pairs. -/
def logOf (o : AOp) (s : Env) (h : Heap) (s' : Env) (h' : Heap) : Option Log :=
  match o with
  | .load _ _ n x =>
    match s.lad x with
    | some (l, off) => some (.lrd l off n)
    | none => logRd (s.ev x) n
  | .conv _ .bytesStr x => logBs (s.ev x)
  | .box d true _ | .alloc d true _ => some (.lal d)
  | .box _ false _ | .alloc _ false _ | .buildSl .. | .mkSlice .. | .conv _ .strBytes _ => some (.al h.next)
  | .store .. | .call .. | .callv .. | .invoke .. | .append .. | .copy .. | .clear .. | .conv _ .slBytes _ => some (.ef s.locs h s'.locs h')
  | _ => none

mutual
def AVal.beq : AVal → AVal → Bool
  | .undef, .undef => true
  | .bool a, .bool b => a == b
  | .int k a, .int j b => decide (k = j) && a == b
  | .str a, .str b => a == b
  | .nilPtr, .nilPtr => true
  | .ptr a b, .ptr c d => Nat.beq a c && Nat.beq b d
  | .nilSlice, .nilSlice => true
  | .slice a b c d e f, .slice a' b' c' d' e' f' => Nat.beq a a' && Nat.beq b b' && Nat.beq c c' && Nat.beq d d' && Nat.beq e e' && f == f'
  | .func f c, .func g d => Nat.beq f g && AVal.beqL c d
  | .nilFunc, .nilFunc => true
  | .iface t v, .iface u w => Nat.beq t u && AVal.beq v w
  | .nilIface, .nilIface => true
  | .agg a, .agg b => AVal.beqL a b
  | .tuple a, .tuple b => AVal.beqL a b
  | _, _ => false
def AVal.beqL : List AVal → List AVal → Bool
  | [], [] => true
  | a :: as, b :: bs => AVal.beq a b && AVal.beqL as bs
  | _, _ => false
end

def beqO : Option (List AVal) → Option (List AVal) → Bool
  | some a, some b => AVal.beqL a b
  | _, _ => false

/-- Does what was read (or made) stay through an effect? -/
def stays : Log → Log → Bool
  | .rd b off n, .ef _ h _ h' => beqO (h.rd b off n) (h'.rd b off n)
  | .lrd l off n, .ef β _ β' _ => beqO ((lookB β l).bind fun c => rdL c off n) ((lookB β' l).bind fun c => rdL c off n)
  | .rd b _ _, .al b' => !(Nat.beq b b')
  | .rd _ _ _, .lal _ => true
  | .lrd _ _ _, .al _ => true
  | .lrd l _ _, .lal l' => !(Nat.beq l l')
  | .al b, .ef _ h _ h' =>
    (match h.blk b, h'.blk b with
     | some x, some y => AVal.beqL x.cells y.cells && (x.rw == y.rw)
     | _, _ => false)
  | .lal l, .ef β _ β' _ => beqO (lookB β l) (lookB β' l)
  | _, _ => false

def lookLog : List (Nat × Option Log) → Nat → Option (Option Log)
  | [], _ => none
  | (u, v) :: r, t => bif Nat.beq u t then some v else lookLog r t

def pairOk : Option Log → Option Log → Bool
  | some a, some e => stays a e
  | none, some _ => true
  | _, none => false

/-- 'pairs': (what reads or makes, the effect). -/
def checkPairs (log : List (Nat × Option Log)) : List (Nat × Nat) → Bool
  | [] => true
  | (i, q) :: r =>
    (match lookLog log i, lookLog log q with
     | some a, some e => pairOk a e
     | _, _ => false) && checkPairs log r

def opDst : AOp → Option Nat
  | .mov d _ | .pick d _ _ _ | .bin d _ _ _ _ | .un d _ _ | .conv d _ _ | .box d _ _ | .alloc d _ _ | .build d _ _ | .buildSl d _ _ _ _ | .load d _ _ _
  | .nilchk d _ | .field d _ _ _ _ | .faddr d _ _ | .iaddr d _ _ _ _ | .index d _ _ _ | .slice d _ _ _ _ _ | .mkSlice d _ _ _ _ _ | .mkIface d _ _ | .extract d _ _
  | .mkFunc d _ _ | .call d _ _ | .callv d _ _ | .invoke d _ _ _ | .append d _ _ _ _ _ _ | .copy d _ _ _ | .len d _ _ | .cap d _ | .minmax d _ _ | .fl d _ _ _ _ => some d
  | .store .. | .clear .. => none

/-- Is it made under a name that is held ready? -/
def isFl : AOp → Bool
  | .fl .. => true
  | _ => false
/-- The same in the order of the text. -/
def unFl : AOp → AOp
  | .fl d _ none zero _ => .alloc d false zero
  | .fl d _ (some (es, len)) zero parts => .buildSl d zero es len parts
  | o => o

mutual
def itemDsts : AItem → List Nat
  | .op _ o => (opDst o).toList
  | .guard _ _ items _ _ => itemsDsts items
def itemsDsts : List AItem → List Nat
  | [] => []
  | x :: r => itemDsts x ++ itemsDsts r
end

def dropAs (lads : List (Nat × Nat × Nat)) : List Nat → List (Nat × Nat × Nat)
  | [] => lads
  | d :: r => dropAs (dropA lads d) r

namespace Env
/-- Behind a guarded part: what it wrote is gone but for what is handed on. -/
def upd (s : Env) (dsts live : List Nat) (xs : List AVal) : Env :=
  { s with vals := (live.zipIdx.map fun p => (p.1, xs.getD p.2 .undef)) ++ (dsts.map fun d => (d, .undef)) ++ s.vals, lads := dropAs s.lads dsts }
/-- None of these is an address of a local block. -/
def noLads (s : Env) (live : List Nat) : Bool := live.all fun t => match lookA s.lads t with | none => true | some _ => false
def vout (s : Env) (live : List Nat) : List AVal := live.map s.get
def locOut (s : Env) : List Nat → Option (List AVal)
  | [] => some []
  | l :: r => match lookB s.locs l, lookA s.lads l with | some cs, some (l', 0) => bif Nat.beq l l' then (locOut s r).bind fun vs => some (.agg cs :: vs) else none | _, _ => none
/-- What is handed on where ways meet. -/
def out (s : Env) (live : Live) : Option (List AVal) := (s.locOut live.locs).bind fun cs => some (live.vals.map s.get ++ cs)
def mk' (live : Live) (xs : List AVal) : Env :=
  { vals := live.vals.zipIdx.map fun p => (p.1, xs.getD p.2 .undef)
    lads := live.locs.map fun l => (l, l, 0)
    locs := live.locs.zipIdx.map fun p => (p.1, (xs.getD (live.vals.length + p.2) .undef).aggCells)
    log := [] }
end Env

/-- What a skipped operation leaves. -/
def skipV : AVal := .tuple []

def inPairs (pairs : List (Nat × Nat)) (i : Nat) : Bool := pairs.any fun p => Nat.beq p.1 i || Nat.beq p.2 i

def guardV (t : AVal) (want : Bool) (a b : Option J) : Option J :=
  match t with
  | .bool x => bif (x == want) then a else b
  | .tuple [] => b
  | _ => none

mutual
def runItem (call : Call) (g : Bool) (pairs : List (Nat × Nat)) : AItem → Env → Heap → (Env → Heap → Option J) → Option J
  | .op i o, s, h, k =>
    stepOp call g o s h fun s' h' => k (bif inPairs pairs i then s'.addLog i (logOf o s h s' h') else s') h'
  | .guard t want items ps live, s, h, k =>
    (guardV (s.get t) want
      (runItems call true ps items s.noLog h fun s' h' => bif s'.noLads live && checkPairs s'.log ps then some (0, s'.vout live, h') else none)
      (some (0, live.map fun _ => skipV, h))).bind fun r => k (s.upd (itemsDsts items) live r.2.1) r.2.2
def runItems (call : Call) (g : Bool) (pairs : List (Nat × Nat)) : List AItem → Env → Heap → (Env → Heap → Option J) → Option J
  | [], s, h, k => k s h
  | x :: xs, s, h, k => runItem call g pairs x s h fun s' h' => runItems call g pairs xs s' h' k
end

/-- The place of a way out. -/
def altOf : AExit → List (AExit × Live) → Nat → Option (Nat × Live)
  | _, [], _ => none
  | e, (e', l) :: r, i => bif decide (e = e') then some (i, l) else altOf e r (i + 1)

def leave (alts : List (AExit × Live)) (base : Nat) (e : AExit) (s : Env) (h : Heap) : Option J :=
  match altOf e alts base with
  | some (i, l) => (s.out l).bind fun xs => some (i, xs, h)
  | none => none

def enterAlt : List (AExit × Live) → Nat → (AExit → Env → Heap → Option J) → J → Option J
  | [], _, _, _ => none
  | (e, l) :: r, base, k, x => bif Nat.beq x.1 base then k e (Env.mk' l x.2.1) x.2.2 else enterAlt r (base + 1) k x

theorem enterAlt_spec : ∀ {alts : List (AExit × Live)} {base : Nat} {k : AExit → Env → Heap → Option J} {x r : J}, enterAlt alts base k x = some r →
    base ≤ x.1 ∧ ∃ e l, alts[x.1 - base]? = some (e, l) ∧ k e (Env.mk' l x.2.1) x.2.2 = some r
  | [], _, _, _, _, h => by cases h
  | (e, l) :: rest, base, k, x, r, h => by
    unfold enterAlt at h
    cases hb : Nat.beq x.1 base with
    | true =>
      rw [hb] at h
      have := Nat.eq_of_beq_eq_true hb
      exact ⟨by omega, e, l, by rw [this]; simp, h⟩
    | false =>
      rw [hb] at h
      obtain ⟨h1, e2, l2, h2, h3⟩ := enterAlt_spec h
      exact ⟨by omega, e2, l2, by rw [show x.1 - base = (x.1 - (base + 1)) + 1 by omega]; simpa using h2, h3⟩

theorem enterAlt_at : ∀ {alts : List (AExit × Live)} {base : Nat} (k : AExit → Env → Heap → Option J) {x : J} {e : AExit} {l : Live}, base ≤ x.1 → alts[x.1 - base]? = some (e, l) → enterAlt alts base k x = k e (Env.mk' l x.2.1) x.2.2
  | [], _, _, _, _, _, _, h => by simp at h
  | (e', l') :: rest, base, k, x, e, l, hb, h => by
    unfold enterAlt
    cases hq : Nat.beq x.1 base with
    | true =>
      have := Nat.eq_of_beq_eq_true hq
      rw [this] at h
      simp only [Nat.sub_self, List.getElem?_cons_zero, Option.some.injEq, Prod.mk.injEq] at h
      obtain ⟨rfl, rfl⟩ := h
      rfl
    | false =>
      have hne : x.1 ≠ base := fun hh => by rw [hh] at hq; simp at hq
      simp only [cond_false]
      refine enterAlt_at k (by omega) ?_
      rw [show x.1 - base = (x.1 - (base + 1)) + 1 by omega] at h
      simpa using h

/-- So many rounds; 0 of the answer: one more. -/
def iter (f : List AVal → Heap → Option J) : Nat → List AVal → Heap → Option J
  | 0, _, _ => none
  | n + 1, xs, h =>
    match f xs h with
    | some (0, xs', h') => iter f n xs' h'
    | r => r

/-- The limit of what grows. -/
noncomputable def lim {α : Type} (g : Nat → Option α) : Option α :=
  open Classical in if h : ∃ n r, g n = some r then g h.choose else none

noncomputable def loop (f : List AVal → Heap → Option J) (xs : List AVal) (h : Heap) : Option J := lim fun n => iter f n xs h

def condV (c : AVal) (a b : Option J) : Option J := match c with | .bool t => bif t then a else b | _ => none

def loopK (live : Live) (alts : List (AExit × Live)) (e : AExit) (s : Env) (h : Heap) : Option J :=
  match e with
  | .normal => (s.out live).bind fun ys => some (0, ys, h)
  | e => leave alts 1 e s h

noncomputable def runC (call : Call) : ACode → Env → Heap → (AExit → Env → Heap → Option J) → Option J
  | .skip, s, h, k => k .normal s h
  | .region items pairs, s, h, k => runItems call false pairs items s.noLog h fun s' h' => bif checkPairs s'.log pairs then k .normal s'.noLog h' else none
  | .regionF m items pairs, s, h, k => runItems call false pairs items { s.noLog with base := h.next } (h.res m) fun s' h' => bif checkPairs s'.log pairs then k .normal s'.noLog h' else none
  | .seq a b, s, h, k => runC call a s h fun e s' h' => match e with | .normal => runC call b s' h' k | e => k e s' h'
  | .cond c a b, s, h, k => condV (s.ev c) (runC call a s h k) (runC call b s h k)
  | .block id c, s, h, k => runC call c s h fun e s' h' => match e with | .exit i => bif Nat.beq i id then k .normal s' h' else k (.exit i) s' h' | e => k e s' h'
  | .loop live alts c, s, h, k =>
    (s.out live).bind fun xs =>
      (loop (fun xs h => runC call c (Env.mk' live xs) h (loopK live alts)) xs h).bind fun r => enterAlt alts 1 k r
  | .join alts c, s, h, k => (runC call c s h fun e s' h' => leave alts 0 e s' h').bind fun r => enterAlt alts 0 k r
  | .exit id, s, h, k => k (.exit id) s h
  | .ret, s, h, k => k .ret s h
  | .dead, _, _, _ => none

/-- How a result is read. -/
inductive ARes where
  | tmp (t : Nat)
  | cell (t : Nat) (agg : Bool) (n : Nat)

def resOf (s : Env) (h : Heap) : ARes → Option AVal
  | .tmp t => some (s.get t)
  | .cell t agg n =>
    match s.lad (.tmp t) with
    | some (l, off) => ((lookB s.locs l).bind fun cs => rdL cs off n).bind fun cs => fromCells agg cs
    | none => (aLoad h n (s.get t)).bind fun cs => fromCells agg cs

def resAll (s : Env) (h : Heap) : List ARes → Option (List AVal)
  | [] => some []
  | r :: rs => (resOf s h r).bind fun v => (resAll s h rs).bind fun vs => some (v :: vs)

def oneOr : List AVal → AVal
  | [v] => v
  | vs => .tuple vs

structure AFunc where
  nargs : Nat
  body : ACode
  results : List ARes

inductive AFn where
  | code (f : AFunc)
  | prim (sem : List AVal → Heap → Option (AVal × Heap))

def endF (res : List ARes) (e : AExit) (s : Env) (h : Heap) : Option J :=
  match e with
  | .exit _ => none
  | _ => (resAll s h res).bind fun vs => some (0, [oneOr vs], h)

def argEnv (args : List AVal) : Env := { vals := args.zipIdx.map fun p => (p.2, p.1), lads := [], locs := [], log := [] }

def ansOf (r : J) : Option (AVal × Heap) := match r with | (_, [v], h) => some (v, h) | _ => none

noncomputable def runFn (call : Call) : AFn → List AVal → Heap → Option (AVal × Heap)
  | .code f, args, h => bif Nat.beq args.length f.nargs then (runC call f.body (argEnv args) h (endF f.results)).bind ansOf else none
  | .prim sem, args, h => sem args h

noncomputable def runF (tbl : Nat → Option AFn) : Nat → Call
  | 0, _, _, _ => none
  | n + 1, f, args, h => match tbl f with | some a => runFn (runF tbl n) a args h | none => none

/-- What a function answers. -/
noncomputable def E (tbl : Nat → Option AFn) : Call := fun f args h => lim fun n => runF tbl n f args h

end Go.Fw
