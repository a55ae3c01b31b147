import GoSem.Dispatch
import Derived.Below
import Derived.Calls
import Derived.Laws.Sem
import Derived.Laws.World
import Derived.Laws.Rows
import Derived.Laws.CopyRow
import Derived.Laws.StructEq
import Derived.ChangeKeysEq
import Derived.Laws.Strings
/- The abstract semantics: values, heap, code; each step is a total function into Option. Plain definitions, no theorem about the program. -/
namespace Go.Fw
set_option linter.unusedSimpArgs false
set_option linter.unusedVariables false

/-- An abstract value. 'undef': nothing is known of it. -/
inductive AVal where
  | undef
  | bool (b : Bool)
  | int (k : IntKind) (n : Int)
  | str (s : List UInt8)
  | nilPtr
  | ptr (b off : Nat)
  | nilSlice
  | slice (b off len cap es : Nat) (exact : Bool)
  | func (f : Nat) (caps : List AVal)
  | nilFunc
  | iface (t : Nat) (v : AVal)
  | nilIface
  | agg (cells : List AVal)
  | tuple (vs : List AVal)
  | mapv (r : Nat)             -- a map, by the model's own number of its block
  deriving Inhabited

/-- A block of the abstract heap: the cells that are known, and whether it may be written. -/
structure Blk where
  cells : List AVal
  rw : Bool

structure Heap where
  next : Nat
  blk : Nat → Option Blk

/-- An answer: which way out, what is handed on, the heap. -/
abbrev J := Nat × List AVal × Heap

namespace AVal
set_option linter.unusedSimpArgs false
set_option linter.unusedVariables false
/-- A value that fills one cell of memory, surely. -/
def one : AVal → Bool
  | .undef | .agg _ | .tuple _ => false
  | _ => true
/-- The cells that a value fills. -/
def cells? : AVal → Option (List AVal)
  | .undef | .tuple _ => none
  | .agg cs => some cs
  | v => some [v]
def aggCells : AVal → List AVal
  | .agg cs => cs
  | _ => []
end AVal

namespace Heap
set_option linter.unusedSimpArgs false
set_option linter.unusedVariables false
def alloc (h : Heap) (cs : List AVal) : Heap := ⟨h.next + 1, fun i => bif Nat.beq i h.next then some ⟨cs, true⟩ else h.blk i⟩
def setBlk (h : Heap) (b : Nat) (x : Option Blk) : Heap := ⟨h.next, fun i => bif Nat.beq i b then x else h.blk i⟩
/-- Names are held ready. -/
def res (h : Heap) (m : Nat) : Heap := ⟨h.next + m, h.blk⟩
/-- n cells of a block, from off on. -/
def rd (h : Heap) (b off n : Nat) : Option (List AVal) :=
  match h.blk b with
  | some x => bif Nat.ble (off + n) x.cells.length then some ((x.cells.drop off).take n) else none
  | none => none
end Heap

/-- 'vs' laid over a list from 'off' on. -/
def splice (l : List AVal) (off : Nat) (vs : List AVal) : List AVal := l.take off ++ vs ++ l.drop (off + vs.length)

namespace Heap
set_option linter.unusedSimpArgs false
set_option linter.unusedVariables false
def wr (h : Heap) (b off : Nat) (vs : List AVal) : Option Heap :=
  match h.blk b with
  | some x => bif x.rw && Nat.ble (off + vs.length) x.cells.length then some (h.setBlk b (some ⟨splice x.cells off vs, true⟩)) else none
  | none => none
end Heap

/-- How '==' looks at values of a type. -/
inductive EqTag where
  | plain                     -- numbers, texts: by the values themselves
  | bool
  | ptr
  | slice
  | func
  | iface (c : Bool) (ints : List Nat)   -- c: one operand is a constant; the dynamic types that may meet: 2 t, t over an integer kind; 2 t + 1, t a pointer type
  | cells (kinds : List Nat)   -- a struct or an array, cell by cell: 0 bool, 1 number, 2 text
  deriving Inhabited

inductive AOpd where
  | tmp (t : Nat)
  | const (v : AVal)
  deriving Inhabited

inductive AConv where
  | toInt (k : IntKind)
  | strBytes
  | bytesStr
  | strStr
  | intStr
  | slBytes
  deriving Inhabited

inductive AIdx where
  | arr (len es : Nat) (agg : Bool)
  | str
  deriving Inhabited

inductive ASl where
  | str
  | sl (es : Nat)
  | arr (len es : Nat)
  deriving Inhabited

/-- One operation. -/
inductive AOp where
  | mov (d : Nat) (x : AOpd)
  | pick (d : Nat) (c a b : AOpd)
  | bin (d : Nat) (op : BinOp) (tag : EqTag) (x y : AOpd)
  | un (d : Nat) (op : UnOp) (x : AOpd)
  | conv (d : Nat) (c : AConv) (x : AOpd)
  | box (d : Nat) (loc : Bool) (x : AOpd)
  | alloc (d : Nat) (loc : Bool) (zero : List AVal)
  | build (d : Nat) (zero : List AVal) (parts : List (Nat × Nat × AOpd))
  | buildSl (d : Nat) (zero : List AVal) (es len : Nat) (parts : List (Nat × AOpd))
  | load (d : Nat) (agg : Bool) (n : Nat) (x : AOpd)
  | store (agg : Bool) (n : Nat) (x v : AOpd)
  | nilchk (d : Nat) (x : AOpd)
  | field (d : Nat) (agg : Bool) (off n : Nat) (x : AOpd)
  | faddr (d : Nat) (off : Nat) (x : AOpd)
  | iaddr (d : Nat) (arr : Option Nat) (es : Nat) (x i : AOpd)
  | index (d : Nat) (k : AIdx) (x i : AOpd)
  | slice (d : Nat) (k : ASl) (x : AOpd) (lo hi mx : Option AOpd)
  | mkSlice (d : Nat) (es bytes : Nat) (zero : List AVal) (len cap : AOpd)
  | mkIface (d : Nat) (t : Nat) (x : AOpd)
  | extract (d : Nat) (x : AOpd) (i : Nat)
  | mkFunc (d : Nat) (f : Nat) (caps : List AOpd)
  | call (d : Nat) (f : Nat) (args : List AOpd)
  | callv (d : Nat) (fn : AOpd) (args : List AOpd)
  | invoke (d : Nat) (tbl : List (Nat × Nat × Option (Nat × Nat × Bool))) (recv : AOpd) (args : List AOpd)
  | append (d : Nat) (es bytes : Nat) (zero : List AVal) (zeros : Bool) (s x : AOpd)
  | copy (d : Nat) (es : Nat) (dst src : AOpd)
  | clear (d : Nat) (zero : List AVal) (s : AOpd)   -- d: nothing is answered; any number
  | len (d : Nat) (str : Bool) (x : AOpd)
  | cap (d : Nat) (x : AOpd)
  | minmax (d : Nat) (mx : Bool) (xs : List AOpd)
  | tassert (d : Nat) (tbl : List (Nat × Bool)) (x : AOpd)      -- 'x.(I)' with comma-ok, I an interface type: of which dynamic types it holds
  | fl (d j : Nat) (sl : Option (Nat × Nat)) (zero : List AVal) (parts : List (Nat × AOpd))      -- a new block under a name that is held ready: a variable, or a row of constant length
  deriving Inhabited

/-- What is handed on where ways meet: temporaries, and local blocks by their names. -/
structure Live where
  vals : List Nat
  locs : List Nat
  deriving Inhabited

inductive AItem where
  | op (i : Nat) (o : AOp)
  | guard (t : Nat) (want : Bool) (items : List AItem) (pairs : List (Nat × Nat)) (live : List Nat)
  deriving Inhabited

inductive AExit where
  | normal
  | exit (id : Nat)
  | ret
  deriving DecidableEq, Inhabited

inductive ACode where
  | skip
  | region (items : List AItem) (pairs : List (Nat × Nat))
  | regionF (m : Nat) (items : List AItem) (pairs : List (Nat × Nat))      -- m names are held ready
  | seq (a b : ACode)
  | cond (c : AOpd) (a b : ACode)
  | block (id : Nat) (c : ACode)
  | loop (live : Live) (alts : List (AExit × Live)) (c : ACode)
  | join (alts : List (AExit × Live)) (c : ACode)
  | exit (id : Nat)
  | dead                       -- what is never reached
  | ret
  deriving Inhabited


/-- What an operation did, for the check that an order does not matter. -/
inductive Log where
  | rd (b off n : Nat)
  | lrd (l off n : Nat)
  | al (b : Nat)
  | lal (l : Nat)
  | ef (β : List (Nat × List AVal)) (h : Heap) (β' : List (Nat × List AVal)) (h' : Heap)

def look : List (Nat × AVal) → Nat → AVal
  | [], _ => .undef
  | (u, v) :: r, t => bif Nat.beq u t then v else look r t
def lookA : List (Nat × Nat × Nat) → Nat → Option (Nat × Nat)
  | [], _ => none
  | (u, v) :: r, t => bif Nat.beq u t then some v else lookA r t
def lookB : List (Nat × List AVal) → Nat → Option (List AVal)
  | [], _ => none
  | (u, v) :: r, t => bif Nat.beq u t then some v else lookB r t
def dropA : List (Nat × Nat × Nat) → Nat → List (Nat × Nat × Nat)
  | [], _ => []
  | (u, v) :: r, t => bif Nat.beq u t then dropA r t else (u, v) :: dropA r t
def setB : List (Nat × List AVal) → Nat → List AVal → List (Nat × List AVal)
  | [], _, _ => []
  | (u, v) :: r, t, c => bif Nat.beq u t then (u, c) :: r else (u, v) :: setB r t c

structure Env where
  vals : List (Nat × AVal)
  lads : List (Nat × Nat × Nat)
  locs : List (Nat × List AVal)
  log : List (Nat × Option Log)
  base : Nat := 0            -- the first of the names that a region holds ready for what it makes in whatever order

namespace Env
set_option linter.unusedSimpArgs false
set_option linter.unusedVariables false
def get (s : Env) (t : Nat) : AVal := match lookA s.lads t with | some _ => .undef | none => look s.vals t
def ev (s : Env) : AOpd → AVal
  | .tmp t => s.get t
  | .const v => v
def lad (s : Env) : AOpd → Option (Nat × Nat)
  | .tmp t => lookA s.lads t
  | .const _ => none
def set (s : Env) (d : Nat) (v : AVal) : Env := { s with vals := (d, v) :: s.vals, lads := dropA s.lads d }
def setL (s : Env) (d l off : Nat) : Env := { s with lads := (d, l, off) :: s.lads }
def newLoc (s : Env) (d : Nat) (cs : List AVal) : Env := { s with lads := (d, d, 0) :: s.lads, locs := (d, cs) :: s.locs }
def fresh (s : Env) (d : Nat) : Bool := match lookB s.locs d with | some _ => false | none => true
def addLog (s : Env) (i : Nat) (l : Option Log) : Env := { s with log := (i, l) :: s.log }
def noLog (s : Env) : Env := { s with log := [] }
end Env

def rdL (cs : List AVal) (off n : Nat) : Option (List AVal) := bif Nat.ble (off + n) cs.length then some ((cs.drop off).take n) else none
def fromCells : Bool → List AVal → Option AVal
  | true, cs => some (.agg cs)
  | false, [v] => some v
  | false, _ => none
def aCells (n : Nat) (v : AVal) : Option (List AVal) :=
  match v.cells? with
  | some cs => bif Nat.beq cs.length n then some cs else none
  | none => none

def aPick (c a b : AVal) : Option AVal := match c with | .bool t => some (bif t then a else b) | _ => none

def aInt (op : BinOp) (k : IntKind) (a b : Int) : Option AVal :=
  match op with
  | .add => some (.int k (k.wrap (a + b)))
  | .sub => some (.int k (k.wrap (a - b)))
  | .mul => some (.int k (k.wrap (a * b)))
  | .quo => if b = 0 then none else some (.int k (k.wrap (a.tdiv b)))
  | .rem => if b = 0 then none else some (.int k (a.tmod b))
  | .and => some (.int k (k.wrap (BitVec.ofInt k.bits a &&& BitVec.ofInt k.bits b).toNat))
  | .or => some (.int k (k.wrap (BitVec.ofInt k.bits a ||| BitVec.ofInt k.bits b).toNat))
  | .xor => some (.int k (k.wrap (BitVec.ofInt k.bits a ^^^ BitVec.ofInt k.bits b).toNat))
  | .andNot => some (.int k (k.wrap (BitVec.ofInt k.bits a &&& ~~~(BitVec.ofInt k.bits b)).toNat))
  | .eql => some (.bool (a == b))
  | .neq => some (.bool (a != b))
  | .lss => some (.bool (a < b))
  | .leq => some (.bool (a ≤ b))
  | .gtr => some (.bool (a > b))
  | .geq => some (.bool (a ≥ b))
  | _ => none

def aShift (op : BinOp) (k : IntKind) (a b : Int) : Option AVal :=
  if b < 0 then none else
  match op with
  | .shl => some (.int k (k.wrap (a * 2 ^ (min b.toNat k.bits))))
  | .shr => some (.int k (a.fdiv (2 ^ (min b.toNat k.bits))))
  | _ => none

def aStr (op : BinOp) (a b : List UInt8) : Option AVal :=
  match op with
  | .add => if a.length + b.length ≤ 4611686018427387904 then some (.str (a ++ b)) else none
  | .eql => some (.bool (a == b))
  | .neq => some (.bool !(a == b))
  | .lss => some (.bool (Op.bytesLess a b))
  | .leq => some (.bool (Op.bytesLess a b || a == b))
  | .gtr => some (.bool !(Op.bytesLess a b || a == b))
  | .geq => some (.bool !(Op.bytesLess a b))
  | _ => none

/-- Cell by cell. -/
def cellsEq : List Nat → List AVal → List AVal → Option Bool
  | [], [], [] => some true
  | 0 :: ks, .bool a :: as, .bool b :: bs => (cellsEq ks as bs).bind fun r => some ((a == b) && r)
  | 1 :: ks, .int k a :: as, .int j b :: bs => if k = j then (cellsEq ks as bs).bind fun r => some ((a == b) && r) else none
  | 2 :: ks, .str a :: as, .str b :: bs => (cellsEq ks as bs).bind fun r => some ((a == b) && r)
  | _, _, _ => none

def aEq : EqTag → AVal → AVal → Option Bool
  | .bool, .bool a, .bool b => some (a == b)
  | .ptr, .nilPtr, .nilPtr => some true
  | .ptr, .nilPtr, .ptr _ _ => some false
  | .ptr, .ptr _ _, .nilPtr => some false
  | .slice, .nilSlice, .nilSlice => some true
  | .slice, .nilSlice, .slice .. => some false
  | .slice, .slice .., .nilSlice => some false
  | .func, .nilFunc, .nilFunc => some true
  | .func, .nilFunc, .func .. => some false
  | .func, .func .., .nilFunc => some false
  | .iface _ _, .nilIface, .iface _ _ => some false
  | .iface _ _, .iface _ _, .nilIface => some false
  | .iface true _, .nilIface, .nilIface => some true
  | .iface _ ints, .iface t (.int k a), .iface u (.int j b) => if t = u then (if k = j ∧ 2 * t ∈ ints then some (a == b) else none) else some false
  | .iface _ ints, .iface t (.ptr a p), .iface u (.ptr b q) => if t = u then (if 2 * t + 1 ∈ ints ∧ a = b ∧ p = q then some true else none) else some false
  | .iface _ _, .iface t _, .iface u _ => if t = u then none else some false
  | .cells ks, .agg a, .agg b => cellsEq ks a b
  | _, _, _ => none

def aBin (op : BinOp) (tag : EqTag) (x y : AVal) : Option AVal :=
  match tag, x, y with
  | .plain, .int k a, .int j b =>
    match op with
    | .shl | .shr => aShift op k a b
    | _ => if k = j then aInt op k a b else none
  | .plain, .str a, .str b => aStr op a b
  | .plain, _, _ => none
  | tag, x, y =>
    match op with
    | .eql => (aEq tag x y).bind fun r => some (.bool r)
    | .neq => (aEq tag x y).bind fun r => some (.bool !r)
    | _ => none

def aUn (op : UnOp) (x : AVal) : Option AVal :=
  match op, x with
  | .neg, .int k n => some (.int k (k.wrap (0 - n)))
  | .xor, .int k n => some (.int k (k.wrap (BitVec.ofInt k.bits (if k.signed then -1 else k.max) ^^^ BitVec.ofInt k.bits n).toNat))
  | .not, .bool b => some (.bool !b)
  | _, _ => none

def byteCells (l : List UInt8) : List AVal := l.map fun b => .int .u8 b.toNat
def cellBytes : List AVal → Option (List UInt8)
  | [] => some []
  | .int .u8 n :: r => (cellBytes r).bind fun l => some (UInt8.ofNat n.toNat :: l)
  | _ :: _ => none

def aConv (c : AConv) (x : AVal) (h : Heap) : Option (AVal × Heap) :=
  match c, x with
  | .toInt k, .int _ n => some (.int k (k.wrap n), h)
  | .strBytes, .str l => some (.slice h.next 0 l.length l.length 1 false, h.alloc (byteCells l))
  | .bytesStr, .nilSlice => some (.str [], h)
  | .bytesStr, .slice b off len _ es _ => bif Nat.beq es 1 then (h.rd b off len).bind fun cs => (cellBytes cs).bind fun l => some (.str l, h) else none
  | .strStr, .str l => some (.str l, h)
  | .slBytes, .slice b off len cap es ex => bif Nat.beq len 0 then none else (match h.blk b with | some ⟨_, true⟩ => some (.slice b off len cap es ex, h) | _ => none)
  | .intStr, .int _ n => some (.str (Utf8.encode n).data.toList, h)
  | _, _ => none

/-- Parts laid over the zero cells. -/
def aFill : List AVal → List (Nat × Nat × AVal) → Option (List AVal)
  | cs, [] => some cs
  | cs, (off, n, v) :: r => (aCells n v).bind fun vs => bif Nat.ble (off + n) cs.length then aFill (splice cs off vs) r else none

def aLoad (h : Heap) (n : Nat) (x : AVal) : Option (List AVal) := match x with | .ptr b off => h.rd b off n | _ => none
def aStore (h : Heap) (x : AVal) (cs : List AVal) : Option Heap := match x with | .ptr b off => h.wr b off cs | _ => none
def aNilchk (x : AVal) : Option AVal := match x with | .ptr b o => some (.ptr b o) | .func f c => some (.func f c) | .iface t v => some (.iface t v) | _ => none
def aField (off n : Nat) (x : AVal) : Option (List AVal) := match x with | .agg cs => rdL cs off n | _ => none
def aFaddr (off : Nat) (x : AVal) : Option AVal := match x with | .ptr b o => some (.ptr b (o + off)) | _ => none
/-- An index that is within. -/
def aIdx (len : Nat) (i : AVal) : Option Nat := match i with | .int _ n => if 0 ≤ n ∧ n < len then some n.toNat else none | _ => none
def aIaddrA (len es : Nat) (x i : AVal) : Option AVal := match x with | .ptr b o => (aIdx len i).bind fun j => some (.ptr b (o + j * es)) | _ => none
def aIaddr (es : Nat) (x i : AVal) : Option AVal :=
  match x with
  | .slice b off len _ es' _ => bif Nat.beq es es' then (aIdx len i).bind fun j => some (.ptr b (off + j * es)) else none
  | _ => none
def aIndexStr (x i : AVal) : Option AVal := match x with | .str l => (aIdx l.length i).bind fun j => some (.int .u8 (l.getD j 0).toNat) | _ => none
def aIndexArr (len es : Nat) (x i : AVal) : Option (List AVal) := match x with | .agg cs => (aIdx len i).bind fun j => rdL cs (j * es) es | _ => none

def aBound (x : Option AVal) (dflt most : Nat) : Option Nat :=
  match x with
  | none => some dflt
  | some (.int _ n) => if 0 ≤ n ∧ n ≤ most then some n.toNat else none
  | some _ => none

def aSliceStr (x : AVal) (lo hi : Option AVal) : Option AVal :=
  match x with
  | .str l => (aBound hi l.length l.length).bind fun h => (aBound lo 0 h).bind fun a => some (.str ((l.take h).drop a))
  | _ => none
def aSliceSl (es : Nat) (x : AVal) (lo hi mx : Option AVal) : Option AVal :=
  match x with
  | .slice b off len cap es' exact =>
    bif Nat.beq es es' then
      (aBound mx cap cap).bind fun m => (aBound hi len m).bind fun h => (aBound lo 0 h).bind fun a =>
        some (.slice b (off + a * es) (h - a) (m - a) es (exact || mx.isSome))
    else none
  | .nilSlice => (aBound mx 0 0).bind fun m => (aBound hi 0 m).bind fun h => (aBound lo 0 h).bind fun _ => some .nilSlice
  | _ => none
def aSliceArr (_n _es : Nat) (_x : AVal) (_lo _hi _mx : Option AVal) : Option AVal := none

def reps (zero : List AVal) : Nat → List AVal
  | 0 => []
  | n + 1 => zero ++ reps zero n

def aMkSlice (es bytes : Nat) (zero : List AVal) (len cap : AVal) (h : Heap) : Option (AVal × Heap) :=
  match len, cap with
  | .int .i64 l, .int .i64 c =>
    if 0 ≤ l ∧ l ≤ c ∧ c * bytes ≤ 140737488355328 ∧ c ≤ 4611686018427387904 then some (.slice h.next 0 l.toNat c.toNat es true, h.alloc (reps zero c.toNat)) else none
  | _, _ => none

def aFn (x : AVal) : Option (Nat × List AVal) := match x with | .func f c => some (f, c) | _ => none
def lookM : List (Nat × Nat × Option (Nat × Nat × Bool)) → Nat → Option (Nat × Option (Nat × Nat × Bool))
  | [], _ => none
  | (u, v) :: r, t => bif Nat.beq u t then some v else lookM r t
def aMeth (tbl : List (Nat × Nat × Option (Nat × Nat × Bool))) (x : AVal) : Option (Nat × AVal) :=
  match x with
  | .iface t v =>
    match lookM tbl t with
    | some (f, none) => some (f, v)
    | some (f, some (off, n, agg)) => (aField off n v).bind fun cs => (fromCells agg cs).bind fun r => some (f, r)
    | none => none
  | _ => none

/-- What is appended: its cells. -/
def aNews (es bytes : Nat) (zero : List AVal) (zeros : Bool) (x : AVal) (h : Heap) : Option (Nat × List AVal) :=
  match zeros, x with
  | true, .int .i64 n => if 0 ≤ n ∧ n ≤ 140737488355328 ∧ n * bytes ≤ 140737488355328 then some (n.toNat, reps zero n.toNat) else none
  | false, .nilSlice => some (0, [])
  | false, .str l => bif Nat.beq es 1 then some (l.length, byteCells l) else none
  | false, .slice b off len _ es' _ =>
    bif Nat.beq len 0 then some (0, []) else
    bif Nat.beq es es' then (h.rd b off (len * es)).bind fun cs => some (len, cs) else none
  | _, _ => none

def aAppend (es bytes : Nat) (zero : List AVal) (zeros : Bool) (s x : AVal) (h : Heap) : Option (AVal × Heap) :=
  (aNews es bytes zero zeros x h).bind fun (n, news) =>
  match s with
  | .nilSlice =>
    bif Nat.beq n 0 then some (.nilSlice, h) else
    if n * bytes ≤ 140737488355328 ∧ n ≤ 4611686018427387904 then some (.slice h.next 0 n n es false, h.alloc news) else none
  | .slice b off len cap es' exact =>
    bif Nat.beq es es' then
      bif Nat.beq n 0 then some (s, h) else
      bif Nat.ble (len + n) cap then (h.wr b (off + len * es) news).bind fun h' => some (.slice b off (len + n) cap es exact, h')
      else
        if (len + n) * bytes ≤ 140737488355328 ∧ len + n ≤ 4611686018427387904 then
          bif exact then
            bif Nat.beq len 0 then some (.slice h.next 0 n n es false, h.alloc news) else
            (h.rd b off (len * es)).bind fun old => some (.slice h.next 0 (len + n) (len + n) es false, h.alloc (old ++ news))
          else
            match h.blk b with
            | some ⟨_, true⟩ => (h.rd b off (len * es)).bind fun old => some (.slice h.next 0 (len + n) (len + n) es false, (h.alloc (old ++ news)).setBlk b none)
            | _ => none
        else none
    else none
  | _ => none

def aCopy (es : Nat) (dst src : AVal) (h : Heap) : Option (AVal × Heap) :=
  match dst with
  | .nilSlice => (match src with | .slice .. | .nilSlice | .str _ => some (.int .i64 0, h) | _ => none)
  | .slice b off len _ es' _ =>
    bif Nat.beq es es' then
      match src with
      | .nilSlice => some (.int .i64 0, h)
      | .slice b2 off2 len2 _ es2 _ =>
        bif Nat.beq es es2 then
          bif Nat.beq (Nat.min len2 len) 0 then some (.int .i64 0, h) else
          (h.rd b2 off2 (Nat.min len2 len * es)).bind fun cs => (h.wr b off cs).bind fun h' => some (.int .i64 (Nat.min len2 len), h')
        else none
      | .str l =>
        bif Nat.beq es 1 then
          bif Nat.beq (Nat.min l.length len) 0 then some (.int .i64 0, h) else
          (h.wr b off (byteCells (l.take (Nat.min l.length len)))).bind fun h' => some (.int .i64 (Nat.min l.length len), h')
        else none
      | _ => none
    else none
  | _ => none

def aClear (zero : List AVal) (s : AVal) (h : Heap) : Option (AVal × Heap) :=
  match s with
  | .nilSlice => some (.tuple [], h)
  | .slice b off len _ es _ =>
    bif Nat.beq len 0 then some (.tuple [], h) else
    bif Nat.beq es zero.length then (h.wr b off (reps zero len)).bind fun h' => some (.tuple [], h') else none
  | _ => none

def aLen (str : Bool) (x : AVal) : Option AVal := match str, x with | true, .str l => some (.int .i64 l.length) | false, .slice _ _ len _ _ _ => some (.int .i64 len) | false, .nilSlice => some (.int .i64 0) | _, _ => none
def aCap (x : AVal) : Option AVal := match x with | .slice _ _ _ cap _ true => some (.int .i64 cap) | .nilSlice => some (.int .i64 0) | _ => none

def aMin2 (x y : AVal) : Option AVal := match x, y with | .int k a, .int j b => if k = j then some (.int k (if b < a then b else a)) else none | _, _ => none
def aMax2 (x y : AVal) : Option AVal := match x, y with | .int k a, .int j b => if k = j then some (.int k (if b > a then b else a)) else none | _, _ => none
def aMinMax (mx : Bool) : AVal → List AVal → Option AVal
  | v, [] => some v
  | v, w :: r => ((bif mx then aMax2 v w else aMin2 v w)).bind fun u => aMinMax mx u r
def aMinMaxL (mx : Bool) : List AVal → Option AVal
  | [] => none
  | v :: r => aMinMax mx v r
def flVal (sl : Option (Nat × Nat)) (b : Nat) : AVal := match sl with | none => .ptr b 0 | some (es, len) => .slice b 0 len len es true
def flCells (sl : Option (Nat × Nat)) (zero : List AVal) (parts : List (Nat × AVal)) : Option (List AVal) :=
  match sl with | none => some zero | some (es, len) => aFill (reps zero len) (parts.map fun p => (p.1 * es, es, p.2))
def aExtract (i : Nat) (x : AVal) : Option AVal := match x with | .tuple vs => vs[i]? | _ => none

def lookT : List (Nat × Bool) → Nat → Option Bool
  | [], _ => none
  | (u, b) :: r, t => bif Nat.beq u t then some b else lookT r t
def aAssert (tbl : List (Nat × Bool)) (x : AVal) : Option AVal :=
  match x with
  | .iface t v => (match lookT tbl t with | some true => some (.tuple [.iface t v, .bool true]) | some false => some (.tuple [.nilIface, .bool false]) | none => none)
  | .nilIface => some (.tuple [.nilIface, .bool false])
  | _ => none

abbrev Call := Nat → List AVal → Heap → Option (AVal × Heap)

/-- One operation. 'g': within a guard no local block is made or written. -/
def stepOp (call : Call) (g : Bool) (o : AOp) (s : Env) (h : Heap) (k : Env → Heap → Option J) : Option J :=
  match o with
  | .mov d x => (match s.lad x with | some (l, o) => k (s.setL d l o) h | none => k (s.set d (s.ev x)) h)
  | .pick d c a b => (aPick (s.ev c) (s.ev a) (s.ev b)).bind fun v => k (s.set d v) h
  | .bin d op tag x y => (aBin op tag (s.ev x) (s.ev y)).bind fun v => k (s.set d v) h
  | .un d op x => (aUn op (s.ev x)).bind fun v => k (s.set d v) h
  | .conv d c x => (aConv c (s.ev x) h).bind fun r => k (s.set d r.1) r.2
  | .box d true x => bif !g && s.fresh d then (s.ev x).cells?.bind fun cs => k (s.newLoc d cs) h else none
  | .box d false x => (s.ev x).cells?.bind fun cs => k (s.set d (.ptr h.next 0)) (h.alloc cs)
  | .alloc d true zero => bif !g && s.fresh d then k (s.newLoc d zero) h else none
  | .alloc d false zero => k (s.set d (.ptr h.next 0)) (h.alloc zero)
  | .build d zero parts => (aFill zero (parts.map fun p => (p.1, p.2.1, s.ev p.2.2))).bind fun cs => k (s.set d (.agg cs)) h
  | .buildSl d zero es len parts =>
    (aFill (reps zero len) (parts.map fun p => (p.1 * es, es, s.ev p.2))).bind fun cs => k (s.set d (.slice h.next 0 len len es true)) (h.alloc cs)
  | .load d agg n x =>
    (match s.lad x with
     | some (l, off) => ((lookB s.locs l).bind fun cs => rdL cs off n).bind fun cs => (fromCells agg cs).bind fun v => k (s.set d v) h
     | none => (aLoad h n (s.ev x)).bind fun cs => (fromCells agg cs).bind fun v => k (s.set d v) h)
  | .store _ n x v =>
    (aCells n (s.ev v)).bind fun cs =>
    (match s.lad x with
     | some (l, off) => bif !g then (lookB s.locs l).bind fun old => bif Nat.ble (off + n) old.length then k { s with locs := setB s.locs l (splice old off cs) } h else none else none
     | none => (aStore h (s.ev x) cs).bind fun h' => k s h')
  | .nilchk d x => (match s.lad x with | some (l, o) => k (s.setL d l o) h | none => (aNilchk (s.ev x)).bind fun v => k (s.set d v) h)
  | .field d agg off n x => (aField off n (s.ev x)).bind fun cs => (fromCells agg cs).bind fun v => k (s.set d v) h
  | .faddr d off x => (match s.lad x with | some (l, o) => k (s.setL d l (o + off)) h | none => (aFaddr off (s.ev x)).bind fun v => k (s.set d v) h)
  | .iaddr d (some len) es x i =>
    (match s.lad x with
     | some (l, o) => (aIdx len (s.ev i)).bind fun j => k (s.setL d l (o + j * es)) h
     | none => (aIaddrA len es (s.ev x) (s.ev i)).bind fun v => k (s.set d v) h)
  | .iaddr d none es x i => (aIaddr es (s.ev x) (s.ev i)).bind fun v => k (s.set d v) h
  | .index d .str x i => (aIndexStr (s.ev x) (s.ev i)).bind fun v => k (s.set d v) h
  | .index d (.arr len es agg) x i => (aIndexArr len es (s.ev x) (s.ev i)).bind fun cs => (fromCells agg cs).bind fun v => k (s.set d v) h
  | .slice d .str x lo hi _ => (aSliceStr (s.ev x) (lo.map s.ev) (hi.map s.ev)).bind fun v => k (s.set d v) h
  | .slice d (.sl es) x lo hi mx => (aSliceSl es (s.ev x) (lo.map s.ev) (hi.map s.ev) (mx.map s.ev)).bind fun v => k (s.set d v) h
  | .slice d (.arr n es) x lo hi mx => (aSliceArr n es (s.ev x) (lo.map s.ev) (hi.map s.ev) (mx.map s.ev)).bind fun v => k (s.set d v) h
  | .mkSlice d es bytes zero len cap => (aMkSlice es bytes zero (s.ev len) (s.ev cap) h).bind fun r => k (s.set d r.1) r.2
  | .mkIface d t x => k (s.set d (.iface t (s.ev x))) h
  | .extract d x i => (aExtract i (s.ev x)).bind fun v => k (s.set d v) h
  | .tassert d tbl x => (aAssert tbl (s.ev x)).bind fun v => k (s.set d v) h
  | .mkFunc d f caps => k (s.set d (.func f (caps.map s.ev))) h
  | .call d f args => (call f (args.map s.ev) h).bind fun r => k (s.set d r.1) r.2
  | .callv d fn args => (aFn (s.ev fn)).bind fun fc => (call fc.1 (args.map s.ev ++ fc.2) h).bind fun r => k (s.set d r.1) r.2
  | .invoke d tbl recv args => (aMeth tbl (s.ev recv)).bind fun fr => (call fr.1 (fr.2 :: args.map s.ev) h).bind fun r => k (s.set d r.1) r.2
  | .append d es bytes zero zeros sl x => (aAppend es bytes zero zeros (s.ev sl) (s.ev x) h).bind fun r => k (s.set d r.1) r.2
  | .copy d es dst src => (aCopy es (s.ev dst) (s.ev src) h).bind fun r => k (s.set d r.1) r.2
  | .clear _ zero sl => (aClear zero (s.ev sl) h).bind fun r => k s r.2
  | .len d str x => (aLen str (s.ev x)).bind fun v => k (s.set d v) h
  | .cap d x => (aCap (s.ev x)).bind fun v => k (s.set d v) h
  | .minmax d mx xs => (aMinMaxL mx (xs.map s.ev)).bind fun v => k (s.set d v) h
  | .fl d j sl zero parts => (flCells sl zero (parts.map fun p => (p.1, s.ev p.2))).bind fun cs => k (s.set d (flVal sl (s.base + j))) (h.setBlk (s.base + j) (some ⟨cs, true⟩))

end Go.Fw

/- The abstract semantics of regions, code, functions; the limit over the depth of calls. -/
namespace Go.Fw
set_option linter.unusedSimpArgs false
set_option linter.unusedVariables false

def logRd (v : AVal) (n : Nat) : Option Log := match v with | .ptr b off => some (.rd b off n) | _ => none
def logBs (v : AVal) : Option Log := match v with | .slice b off len _ _ _ => some (.rd b off len) | _ => none
/-- Which cells an operation reads, or which block it makes: for the check of pairs. -/
def logOf (o : AOp) (s : Env) (h : Heap) (s' : Env) (h' : Heap) : Option Log :=
  match o with
  | .load _ _ n x =>
    match s.lad x with
    | some (l, off) => some (.lrd l off n)
    | none => logRd (s.ev x) n
  | .conv _ .bytesStr x => logBs (s.ev x)
  | .box d true _ | .alloc d true _ => some (.lal d)
  | .box _ false _ | .alloc _ false _ | .buildSl .. | .mkSlice .. | .conv _ .strBytes _ => some (.al h.next)
  | .store .. | .call .. | .callv .. | .invoke .. | .append .. | .copy .. | .clear .. | .conv _ .slBytes _ => some (.ef s.locs h s'.locs h')
  | _ => none

mutual
def AVal.beq : AVal → AVal → Bool
  | .undef, .undef => true
  | .bool a, .bool b => a == b
  | .int k a, .int j b => decide (k = j) && a == b
  | .str a, .str b => a == b
  | .nilPtr, .nilPtr => true
  | .ptr a b, .ptr c d => Nat.beq a c && Nat.beq b d
  | .nilSlice, .nilSlice => true
  | .slice a b c d e f, .slice a' b' c' d' e' f' => Nat.beq a a' && Nat.beq b b' && Nat.beq c c' && Nat.beq d d' && Nat.beq e e' && f == f'
  | .func f c, .func g d => Nat.beq f g && AVal.beqL c d
  | .nilFunc, .nilFunc => true
  | .iface t v, .iface u w => Nat.beq t u && AVal.beq v w
  | .nilIface, .nilIface => true
  | .agg a, .agg b => AVal.beqL a b
  | .tuple a, .tuple b => AVal.beqL a b
  | .mapv a, .mapv b => Nat.beq a b
  | _, _ => false
def AVal.beqL : List AVal → List AVal → Bool
  | [], [] => true
  | a :: as, b :: bs => AVal.beq a b && AVal.beqL as bs
  | _, _ => false
end

def beqO : Option (List AVal) → Option (List AVal) → Bool
  | some a, some b => AVal.beqL a b
  | _, _ => false

/-- Does what was read (or made) stay through an effect? -/
def stays : Log → Log → Bool
  | .rd b off n, .ef _ h _ h' => beqO (h.rd b off n) (h'.rd b off n)
  | .lrd l off n, .ef β _ β' _ => beqO ((lookB β l).bind fun c => rdL c off n) ((lookB β' l).bind fun c => rdL c off n)
  | .rd b _ _, .al b' => !(Nat.beq b b')
  | .rd _ _ _, .lal _ => true
  | .lrd _ _ _, .al _ => true
  | .lrd l _ _, .lal l' => !(Nat.beq l l')
  | .al b, .ef _ h _ h' =>
    (match h.blk b, h'.blk b with
     | some x, some y => AVal.beqL x.cells y.cells && (x.rw == y.rw)
     | _, _ => false)
  | .lal l, .ef β _ β' _ => beqO (lookB β l) (lookB β' l)
  | _, _ => false

def lookLog : List (Nat × Option Log) → Nat → Option (Option Log)
  | [], _ => none
  | (u, v) :: r, t => bif Nat.beq u t then some v else lookLog r t

def pairOk : Option Log → Option Log → Bool
  | some a, some e => stays a e
  | none, some _ => true
  | _, none => false

/-- 'pairs': (what reads or makes, the effect). -/
def checkPairs (log : List (Nat × Option Log)) : List (Nat × Nat) → Bool
  | [] => true
  | (i, q) :: r =>
    (match lookLog log i, lookLog log q with
     | some a, some e => pairOk a e
     | _, _ => false) && checkPairs log r

def opDst : AOp → Option Nat
  | .mov d _ | .pick d _ _ _ | .bin d _ _ _ _ | .un d _ _ | .conv d _ _ | .box d _ _ | .alloc d _ _ | .build d _ _ | .buildSl d _ _ _ _ | .load d _ _ _
  | .nilchk d _ | .field d _ _ _ _ | .faddr d _ _ | .iaddr d _ _ _ _ | .index d _ _ _ | .slice d _ _ _ _ _ | .mkSlice d _ _ _ _ _ | .mkIface d _ _ | .extract d _ _
  | .mkFunc d _ _ | .call d _ _ | .callv d _ _ | .invoke d _ _ _ | .append d _ _ _ _ _ _ | .copy d _ _ _ | .len d _ _ | .cap d _ | .minmax d _ _ | .fl d _ _ _ _ | .tassert d _ _ => some d
  | .store .. | .clear .. => none

/-- Is it made under a name that is held ready? -/
def isFl : AOp → Bool
  | .fl .. => true
  | _ => false
/-- The same in the order of the text. -/
def unFl : AOp → AOp
  | .fl d _ none zero _ => .alloc d false zero
  | .fl d _ (some (es, len)) zero parts => .buildSl d zero es len parts
  | o => o

mutual
def itemDsts : AItem → List Nat
  | .op _ o => (opDst o).toList
  | .guard _ _ items _ _ => itemsDsts items
def itemsDsts : List AItem → List Nat
  | [] => []
  | x :: r => itemDsts x ++ itemsDsts r
end

def dropAs (lads : List (Nat × Nat × Nat)) : List Nat → List (Nat × Nat × Nat)
  | [] => lads
  | d :: r => dropAs (dropA lads d) r

namespace Env
set_option linter.unusedSimpArgs false
set_option linter.unusedVariables false
/-- Behind a guarded part: what it wrote is gone but for what is handed on. -/
def upd (s : Env) (dsts live : List Nat) (xs : List AVal) : Env :=
  { s with vals := (live.zipIdx.map fun p => (p.1, xs.getD p.2 .undef)) ++ (dsts.map fun d => (d, .undef)) ++ s.vals, lads := dropAs s.lads dsts }
/-- None of these is an address of a local block. -/
def noLads (s : Env) (live : List Nat) : Bool := live.all fun t => match lookA s.lads t with | none => true | some _ => false
def vout (s : Env) (live : List Nat) : List AVal := live.map s.get
def locOut (s : Env) : List Nat → Option (List AVal)
  | [] => some []
  | l :: r => match lookB s.locs l, lookA s.lads l with | some cs, some (l', 0) => bif Nat.beq l l' then (locOut s r).bind fun vs => some (.agg cs :: vs) else none | _, _ => none
/-- What is handed on where ways meet. -/
def out (s : Env) (live : Live) : Option (List AVal) := (s.locOut live.locs).bind fun cs => some (live.vals.map s.get ++ cs)
def mk' (live : Live) (xs : List AVal) : Env :=
  { vals := live.vals.zipIdx.map fun p => (p.1, xs.getD p.2 .undef)
    lads := live.locs.map fun l => (l, l, 0)
    locs := live.locs.zipIdx.map fun p => (p.1, (xs.getD (live.vals.length + p.2) .undef).aggCells)
    log := [] }
end Env

/-- What a skipped operation leaves. -/
def skipV : AVal := .tuple []

def inPairs (pairs : List (Nat × Nat)) (i : Nat) : Bool := pairs.any fun p => Nat.beq p.1 i || Nat.beq p.2 i

def guardV (t : AVal) (want : Bool) (a b : Option J) : Option J :=
  match t with
  | .bool x => bif (x == want) then a else b
  | .tuple [] => b
  | _ => none

mutual
def runItem (call : Call) (g : Bool) (pairs : List (Nat × Nat)) : AItem → Env → Heap → (Env → Heap → Option J) → Option J
  | .op i o, s, h, k =>
    stepOp call g o s h fun s' h' => k (bif inPairs pairs i then s'.addLog i (logOf o s h s' h') else s') h'
  | .guard t want items ps live, s, h, k =>
    (guardV (s.get t) want
      (runItems call true ps items s.noLog h fun s' h' => bif s'.noLads live && checkPairs s'.log ps then some (0, s'.vout live, h') else none)
      (some (0, live.map fun _ => skipV, h))).bind fun r => k (s.upd (itemsDsts items) live r.2.1) r.2.2
def runItems (call : Call) (g : Bool) (pairs : List (Nat × Nat)) : List AItem → Env → Heap → (Env → Heap → Option J) → Option J
  | [], s, h, k => k s h
  | x :: xs, s, h, k => runItem call g pairs x s h fun s' h' => runItems call g pairs xs s' h' k
end

/-- The place of a way out. -/
def altOf : AExit → List (AExit × Live) → Nat → Option (Nat × Live)
  | _, [], _ => none
  | e, (e', l) :: r, i => bif decide (e = e') then some (i, l) else altOf e r (i + 1)

def leave (alts : List (AExit × Live)) (base : Nat) (e : AExit) (s : Env) (h : Heap) : Option J :=
  match altOf e alts base with
  | some (i, l) => (s.out l).bind fun xs => some (i, xs, h)
  | none => none

def enterAlt : List (AExit × Live) → Nat → (AExit → Env → Heap → Option J) → J → Option J
  | [], _, _, _ => none
  | (e, l) :: r, base, k, x => bif Nat.beq x.1 base then k e (Env.mk' l x.2.1) x.2.2 else enterAlt r (base + 1) k x

theorem enterAlt_spec : ∀ {alts : List (AExit × Live)} {base : Nat} {k : AExit → Env → Heap → Option J} {x r : J}, enterAlt alts base k x = some r →
    base ≤ x.1 ∧ ∃ e l, alts[x.1 - base]? = some (e, l) ∧ k e (Env.mk' l x.2.1) x.2.2 = some r
  | [], _, _, _, _, h => by cases h
  | (e, l) :: rest, base, k, x, r, h => by
    unfold enterAlt at h
    cases hb : Nat.beq x.1 base with
    | true =>
      rw [hb] at h
      have := Nat.eq_of_beq_eq_true hb
      exact ⟨by omega, e, l, by rw [this]; simp, h⟩
    | false =>
      rw [hb] at h
      obtain ⟨h1, e2, l2, h2, h3⟩ := enterAlt_spec h
      exact ⟨by omega, e2, l2, by rw [show x.1 - base = (x.1 - (base + 1)) + 1 by omega]; simpa using h2, h3⟩

theorem enterAlt_at : ∀ {alts : List (AExit × Live)} {base : Nat} (k : AExit → Env → Heap → Option J) {x : J} {e : AExit} {l : Live}, base ≤ x.1 → alts[x.1 - base]? = some (e, l) → enterAlt alts base k x = k e (Env.mk' l x.2.1) x.2.2
  | [], _, _, _, _, _, _, h => by simp at h
  | (e', l') :: rest, base, k, x, e, l, hb, h => by
    unfold enterAlt
    cases hq : Nat.beq x.1 base with
    | true =>
      have := Nat.eq_of_beq_eq_true hq
      rw [this] at h
      simp only [Nat.sub_self, List.getElem?_cons_zero, Option.some.injEq, Prod.mk.injEq] at h
      obtain ⟨rfl, rfl⟩ := h
      rfl
    | false =>
      have hne : x.1 ≠ base := fun hh => by rw [hh] at hq; simp at hq
      simp only [cond_false]
      refine enterAlt_at k (by omega) ?_
      rw [show x.1 - base = (x.1 - (base + 1)) + 1 by omega] at h
      simpa using h

/-- So many rounds; 0 of the answer: one more. -/
def iter (f : List AVal → Heap → Option J) : Nat → List AVal → Heap → Option J
  | 0, _, _ => none
  | n + 1, xs, h =>
    match f xs h with
    | some (0, xs', h') => iter f n xs' h'
    | r => r

/-- The limit of what grows. -/
noncomputable def lim {α : Type} (g : Nat → Option α) : Option α :=
  open Classical in if h : ∃ n r, g n = some r then g h.choose else none

noncomputable def loop (f : List AVal → Heap → Option J) (xs : List AVal) (h : Heap) : Option J := lim fun n => iter f n xs h

def condV (c : AVal) (a b : Option J) : Option J := match c with | .bool t => bif t then a else b | _ => none

def loopK (live : Live) (alts : List (AExit × Live)) (e : AExit) (s : Env) (h : Heap) : Option J :=
  match e with
  | .normal => (s.out live).bind fun ys => some (0, ys, h)
  | e => leave alts 1 e s h

noncomputable def runC (call : Call) : ACode → Env → Heap → (AExit → Env → Heap → Option J) → Option J
  | .skip, s, h, k => k .normal s h
  | .region items pairs, s, h, k => runItems call false pairs items s.noLog h fun s' h' => bif checkPairs s'.log pairs then k .normal s'.noLog h' else none
  | .regionF m items pairs, s, h, k => runItems call false pairs items { s.noLog with base := h.next } (h.res m) fun s' h' => bif checkPairs s'.log pairs then k .normal s'.noLog h' else none
  | .seq a b, s, h, k => runC call a s h fun e s' h' => match e with | .normal => runC call b s' h' k | e => k e s' h'
  | .cond c a b, s, h, k => condV (s.ev c) (runC call a s h k) (runC call b s h k)
  | .block id c, s, h, k => runC call c s h fun e s' h' => match e with | .exit i => bif Nat.beq i id then k .normal s' h' else k (.exit i) s' h' | e => k e s' h'
  | .loop live alts c, s, h, k =>
    (s.out live).bind fun xs =>
      (loop (fun xs h => runC call c (Env.mk' live xs) h (loopK live alts)) xs h).bind fun r => enterAlt alts 1 k r
  | .join alts c, s, h, k => (runC call c s h fun e s' h' => leave alts 0 e s' h').bind fun r => enterAlt alts 0 k r
  | .exit id, s, h, k => k (.exit id) s h
  | .ret, s, h, k => k .ret s h
  | .dead, _, _, _ => none

/-- How a result is read. -/
inductive ARes where
  | tmp (t : Nat)
  | cell (t : Nat) (agg : Bool) (n : Nat)

def resOf (s : Env) (h : Heap) : ARes → Option AVal
  | .tmp t => some (s.get t)
  | .cell t agg n =>
    match s.lad (.tmp t) with
    | some (l, off) => ((lookB s.locs l).bind fun cs => rdL cs off n).bind fun cs => fromCells agg cs
    | none => (aLoad h n (s.get t)).bind fun cs => fromCells agg cs

def resAll (s : Env) (h : Heap) : List ARes → Option (List AVal)
  | [] => some []
  | r :: rs => (resOf s h r).bind fun v => (resAll s h rs).bind fun vs => some (v :: vs)

def oneOr : List AVal → AVal
  | [v] => v
  | vs => .tuple vs

structure AFunc where
  nargs : Nat
  body : ACode
  results : List ARes

inductive AFn where
  | code (f : AFunc)
  | prim (sem : List AVal → Heap → Option (AVal × Heap))

def endF (res : List ARes) (e : AExit) (s : Env) (h : Heap) : Option J :=
  match e with
  | .exit _ => none
  | _ => (resAll s h res).bind fun vs => some (0, [oneOr vs], h)

def argEnv (args : List AVal) : Env := { vals := args.zipIdx.map fun p => (p.2, p.1), lads := [], locs := [], log := [] }

def ansOf (r : J) : Option (AVal × Heap) := match r with | (_, [v], h) => some (v, h) | _ => none

noncomputable def runFn (call : Call) : AFn → List AVal → Heap → Option (AVal × Heap)
  | .code f, args, h => bif Nat.beq args.length f.nargs then (runC call f.body (argEnv args) h (endF f.results)).bind ansOf else none
  | .prim sem, args, h => sem args h

noncomputable def runF (tbl : Nat → Option AFn) : Nat → Call
  | 0, _, _, _ => none
  | n + 1, f, args, h => match tbl f with | some a => runFn (runF tbl n) a args h | none => none

/-- What a function answers. -/
noncomputable def E (tbl : Nat → Option AFn) : Call := fun f args h => lim fun n => runF tbl n f args h

end Go.Fw

/- What an abstract state says of a world: values, heap, frame; steps from state to state. -/
namespace Go.Fw
set_option linter.unusedSimpArgs false
set_option linter.unusedVariables false

/-- How many of the first blocks of the model's heap stand under their own numbers (the package-level variables and the types' names). -/
def pinsN : Nat := 0

/-- Where a block lies: the model's block, the first cell, how many cells the model's block has. -/
structure Loc where
  blk : Nat
  base : Nat
  size : Nat

abbrev Phi := Nat → Option Loc

mutual
def VRel (φ : Phi) : AVal → Value → Prop
  | .undef, _ => True
  | .bool b, v => v = .bool b
  | .int k n, v => v = .int k n
  | .str l, v => v = .string ⟨l.toArray⟩
  | .nilPtr, v => v = .pointer none
  | .ptr b off, v => ∃ L, φ b = some L ∧ v = .pointer (some ⟨L.blk, L.base + off, none⟩)
  | .nilSlice, v => v = .slice none 0 0
  | .slice b off len cap es exact, v => ∃ L a c, φ b = some L ∧ v = .slice (some a) len c ∧ len ≤ cap ∧ cap ≤ c ∧ (exact = true → c = cap) ∧
      (0 < c → a = ⟨L.blk, L.base + off, none⟩ ∧ L.base + off + c * es ≤ L.size)
  | .func f caps, v => ∃ cs, v = .func (.func f) #[] cs ∧ VRels φ caps cs.toList
  | .nilFunc, v => v = .nilFunc
  | .iface t x, v => ∃ y, v = .iface t y ∧ VRel φ x y
  | .nilIface, v => v = .nilIface
  | .agg cs, v => ∃ vs, v = .agg vs ∧ VRels φ cs vs.toList ∧ ∀ u ∈ vs.toList, u.oneCell' = true
  | .tuple cs, v => ∃ vs, v = .tuple vs ∧ VRels φ cs vs.toList
  | .mapv r, v => v = .map (some r)
def VRels (φ : Phi) : List AVal → List Value → Prop
  | [], [] => True
  | a :: as, v :: vs => VRel φ a v ∧ VRels φ as vs
  | _, _ => False
end

theorem Heap.setBlk_other (h : Heap) {b b' : Nat} (x : Option Blk) (hb : b' ≠ b) : (h.setBlk b x).blk b' = h.blk b' := by
  have : Nat.beq b' b = false := by
    cases hh : Nat.beq b' b with
    | false => rfl
    | true => exact (hb (Nat.eq_of_beq_eq_true hh)).elim
  simp [Heap.setBlk, this]
theorem Heap.setBlk_at (h : Heap) (b : Nat) (x : Option Blk) : (h.setBlk b x).blk b = x := by simp [Heap.setBlk]
theorem Heap.alloc_other (h : Heap) (cs : List AVal) {b : Nat} (hb : b ≠ h.next) : (h.alloc cs).blk b = h.blk b := by
  have : Nat.beq b h.next = false := by
    cases hh : Nat.beq b h.next with
    | false => rfl
    | true => exact (hb (Nat.eq_of_beq_eq_true hh)).elim
  simp [Heap.alloc, this]

def Ext (φ φ' : Phi) : Prop := ∀ b L, φ b = some L → φ' b = some L
theorem Ext.refl (φ : Phi) : Ext φ φ := fun _ _ h => h
theorem Ext.trans {φ φ' φ'' : Phi} (h : Ext φ φ') (k : Ext φ' φ'') : Ext φ φ'' := fun b L e => k b L (h b L e)

mutual
theorem VRel.ext {φ φ' : Phi} (h : Ext φ φ') : ∀ (a : AVal) {v : Value}, VRel φ a v → VRel φ' a v
  | .undef, _, r => by unfold VRel at *; trivial
  | .bool b, _, r => by unfold VRel at *; exact r
  | .int k n, _, r => by unfold VRel at *; exact r
  | .str l, _, r => by unfold VRel at *; exact r
  | .nilPtr, _, r => by unfold VRel at *; exact r
  | .ptr b off, _, r => by unfold VRel at *; obtain ⟨L, e, rfl⟩ := r; exact ⟨L, h b L e, rfl⟩
  | .nilSlice, _, r => by unfold VRel at *; exact r
  | .slice b off len cap es exact, _, r => by unfold VRel at *; obtain ⟨L, a, c, e, r⟩ := r; exact ⟨L, a, c, h b L e, r⟩
  | .func f caps, _, r => by unfold VRel at *; obtain ⟨cs, e, r⟩ := r; exact ⟨cs, e, VRels.ext h caps r⟩
  | .nilFunc, _, r => by unfold VRel at *; exact r
  | .iface t x, _, r => by unfold VRel at *; obtain ⟨y, e, r⟩ := r; exact ⟨y, e, VRel.ext h x r⟩
  | .nilIface, _, r => by unfold VRel at *; exact r
  | .agg cs, _, r => by unfold VRel at *; obtain ⟨vs, e, r, o⟩ := r; exact ⟨vs, e, VRels.ext h cs r, o⟩
  | .tuple cs, _, r => by unfold VRel at *; obtain ⟨vs, e, r⟩ := r; exact ⟨vs, e, VRels.ext h cs r⟩
  | .mapv r, _, e => by unfold VRel at *; exact e
theorem VRels.ext {φ φ' : Phi} (h : Ext φ φ') : ∀ (as : List AVal) {vs : List Value}, VRels φ as vs → VRels φ' as vs
  | [], [], _ => by simp [VRels]
  | [], _ :: _, r => by simp [VRels] at r
  | a :: as, [], r => by simp [VRels] at r
  | a :: as, v :: vs, r => by
    simp only [VRels] at *
    exact ⟨VRel.ext h a r.1, VRels.ext h as r.2⟩
end

theorem VRels.length {φ : Phi} : ∀ {as : List AVal} {vs : List Value}, VRels φ as vs → as.length = vs.length
  | [], [], _ => rfl
  | [], _ :: _, r => by simp [VRels] at r
  | _ :: _, [], r => by simp [VRels] at r
  | a :: as, v :: vs, r => by simp only [VRels] at r; simp [VRels.length r.2]

theorem VRels.get {φ : Phi} : ∀ {as : List AVal} {vs : List Value} (_ : VRels φ as vs) (i : Nat) (a : AVal), as[i]? = some a → ∃ v, vs[i]? = some v ∧ VRel φ a v
  | [], [], _, i, a, h => by simp at h
  | [], _ :: _, r, _, _, _ => by simp [VRels] at r
  | _ :: _, [], r, _, _, _ => by simp [VRels] at r
  | x :: as, v :: vs, r, i, a, h => by
    simp only [VRels] at r
    cases i with
    | zero => simp at h; subst h; exact ⟨v, rfl, r.1⟩
    | succ i => simpa using VRels.get r.2 i a (by simpa using h)

theorem VRels.of_get {φ : Phi} : ∀ {as : List AVal} {vs : List Value}, as.length = vs.length → (∀ (i : Nat) (a : AVal) (v : Value), as[i]? = some a → vs[i]? = some v → VRel φ a v) → VRels φ as vs
  | [], [], _, _ => by simp [VRels]
  | [], _ :: _, h, _ => by simp at h
  | _ :: _, [], h, _ => by simp at h
  | a :: as, v :: vs, h, r => by
    simp only [VRels]
    exact ⟨r 0 a v rfl rfl, VRels.of_get (by simpa using h) fun i a v ha hv => r (i + 1) a v (by simpa using ha) (by simpa using hv)⟩

theorem VRels.append {φ : Phi} : ∀ {as bs : List AVal} {vs us : List Value}, VRels φ as vs → VRels φ bs us → VRels φ (as ++ bs) (vs ++ us)
  | [], _, [], _, _, h => by simpa using h
  | [], _, _ :: _, _, r, _ => by simp [VRels] at r
  | _ :: _, _, [], _, r, _ => by simp [VRels] at r
  | a :: as, bs, v :: vs, us, r, h => by simp only [VRels, List.cons_append] at *; exact ⟨r.1, VRels.append r.2 h⟩

theorem VRels.take {φ : Phi} : ∀ {as : List AVal} {vs : List Value} (n : Nat), VRels φ as vs → VRels φ (as.take n) (vs.take n)
  | _, _, 0, _ => by simp [VRels]
  | [], [], _ + 1, _ => by simp [VRels]
  | [], _ :: _, _, r => by simp [VRels] at r
  | _ :: _, [], _, r => by simp [VRels] at r
  | a :: as, v :: vs, n + 1, r => by simp only [VRels, List.take_succ_cons] at *; exact ⟨r.1, VRels.take n r.2⟩

theorem VRels.drop {φ : Phi} : ∀ {as : List AVal} {vs : List Value} (n : Nat), VRels φ as vs → VRels φ (as.drop n) (vs.drop n)
  | _, _, 0, r => by simpa using r
  | [], [], _ + 1, _ => by simp [VRels]
  | [], _ :: _, _, r => by simp [VRels] at r
  | _ :: _, [], _, r => by simp [VRels] at r
  | a :: as, v :: vs, n + 1, r => by simp only [VRels, List.drop_succ_cons] at *; exact VRels.drop n r.2

theorem fz_free {fz : Nat × Nat} {n : Nat} (h : fz.1 = fz.2 ∨ n ≤ fz.1) : ∀ i, i < n → ¬ (fz.1 ≤ i ∧ i < fz.2) := fun i hi hh => by omega

/-- A block as it lies in the world. -/
def BlkOk (φ : Phi) (x : Blk) (L : Loc) (w : World) : Prop :=
  ∃ c e fz, w.heap[L.blk]? = some (.cells c e fz) ∧ c.size = L.size ∧ L.base + x.cells.length ≤ L.size ∧
    (x.rw = true → fz.1 = fz.2 ∨ c.size ≤ fz.1) ∧
    ∀ i v, x.cells[i]? = some v → ∃ u, c[L.base + i]? = some u ∧ VRel φ v u ∧ u.oneCell' = true

structure HRel (φ : Phi) (h : Heap) (w : World) : Prop where
  dom : ∀ b L, φ b = some L → b < h.next ∧ L.blk < w.heap.size
  live : ∀ b x, h.blk b = some x → b < h.next
  blk : ∀ b x L, h.blk b = some x → φ b = some L → BlkOk φ x L w
  apart : ∀ b b' x x' L L', b ≠ b' → h.blk b = some x → h.blk b' = some x' → x.rw = true → φ b = some L → φ b' = some L' → L.blk ≠ L'.blk
  pin : ∀ b, b < pinsN → ∃ m, φ b = some ⟨b, 0, m⟩

/-- What happened between two states: nothing but what may. -/
structure Step (φ : Phi) (h : Heap) (w : World) (φ' : Phi) (h' : Heap) (w' : World) : Prop where
  ext : Ext φ φ'
  next : h.next ≤ h'.next
  old : ∀ b x', b < h.next → h'.blk b = some x' → ∃ x, h.blk b = some x ∧ x.rw = x'.rw
  new : ∀ b L, φ b = none → φ' b = some L → h.next ≤ b ∧
    (w.heap.size ≤ L.blk ∨ ∃ b0 x0 L0, h.blk b0 = some x0 ∧ x0.rw = true ∧ φ b0 = some L0 ∧ L0.blk = L.blk)
  size : w.heap.size ≤ w'.heap.size
  keep : ∀ b, b < h.next → φ b = none → h'.blk b = h.blk b
  frame : ∀ k, k < w.heap.size → (∀ b x L, h.blk b = some x → x.rw = true → φ b = some L → L.blk ≠ k) → w'.heap[k]? = w.heap[k]?
  os : w'.os = w.os
  tape : w'.tape = w.tape
  output : w'.output = w.output

theorem Step.refl (φ : Phi) (h : Heap) (w : World) : Step φ h w φ h w :=
  ⟨Ext.refl φ, Nat.le_refl _, fun _ x _ hx => ⟨x, hx, rfl⟩, fun _ _ h1 h2 => (by rw [h1] at h2; cases h2), Nat.le_refl _, fun _ _ _ => rfl, fun _ _ _ => rfl, rfl, rfl, rfl⟩

theorem Step.trans {φ φ1 φ2 : Phi} {h h1 h2 : Heap} {w w1 w2 : World} (dom : ∀ b L, φ b = some L → b < h.next) (s : Step φ h w φ1 h1 w1) (t : Step φ1 h1 w1 φ2 h2 w2) : Step φ h w φ2 h2 w2 where
  ext := s.ext.trans t.ext
  next := Nat.le_trans s.next t.next
  old := fun b x' hb hx => by
    obtain ⟨x1, e1, r1⟩ := t.old b x' (Nat.lt_of_lt_of_le hb s.next) hx
    obtain ⟨x, e, r⟩ := s.old b x1 hb e1
    exact ⟨x, e, r.trans r1⟩
  new := fun b L hn hs => by
    cases h1b : φ1 b with
    | some L1 =>
      have := t.ext b L1 h1b
      rw [hs] at this
      cases this
      exact s.new b L hn h1b
    | none =>
      obtain ⟨hb, hh⟩ := t.new b L h1b hs
      refine ⟨Nat.le_trans s.next hb, ?_⟩
      rcases hh with hh | ⟨b0, x0, L0, e0, rw0, p0, l0⟩
      · exact .inl (Nat.le_trans s.size hh)
      · cases hb0 : φ b0 with
        | some L1 =>
          have := s.ext b0 L1 hb0
          rw [p0] at this
          cases this
          obtain ⟨x, e, r⟩ := s.old b0 x0 (dom b0 L0 hb0) e0
          exact .inr ⟨b0, x, L0, e, r.trans rw0, hb0, l0⟩
        | none =>
          have := (s.new b0 L0 hb0 p0).2
          rwa [l0] at this
  size := Nat.le_trans s.size t.size
  keep := fun b hb hn => by
    have h1 : φ1 b = none := by
      cases h1b : φ1 b with
      | none => rfl
      | some L => have := (s.new b L hn h1b).1; omega
    rw [t.keep b (Nat.lt_of_lt_of_le hb s.next) h1, s.keep b hb hn]
  frame := fun k hk hfree => by
    rw [t.frame k (Nat.lt_of_lt_of_le hk s.size) ?_, s.frame k hk hfree]
    intro b x1 L e1 rw1 p1 hL
    cases hb : φ b with
    | some L1 =>
      have := s.ext b L1 hb
      rw [p1] at this
      cases this
      obtain ⟨x, e, r⟩ := s.old b x1 (dom b L hb) e1
      exact hfree b x L e (r.trans rw1) hb hL
    | none =>
      rcases (s.new b L hb p1).2 with hh | ⟨b0, x0, L0, e0, rw0, p0, l0⟩
      · omega
      · exact hfree b0 x0 L0 e0 rw0 p0 (l0.trans hL)
  os := t.os.trans s.os
  tape := t.tape.trans s.tape
  output := t.output.trans s.output

/-- The frame's state. 'B': the first block of this call; 'L': where the local blocks lie; 'n': how many temporaries there are. -/
structure CRel (B : Nat) (n : Nat) (φ : Phi) (L : Nat → Nat) (s : Env) (h : Heap) (a : Act) (w : World) : Prop where
  heap : HRel φ h w
  size : a.tmps.size = n
  defers : a.defers = []
  vals : ∀ t, lookA s.lads t = none → VRel φ (look s.vals t) (a.tmps.getD t undef)
  lads : ∀ t l off, lookA s.lads t = some (l, off) → (∃ cs, lookB s.locs l = some cs) ∧ a.tmps.getD t undef = .pointer (some ⟨L l, off, none⟩)
  locs : ∀ l cs, lookB s.locs l = some cs → B ≤ L l ∧ L l < w.heap.size ∧ (∀ b loc, φ b = some loc → loc.blk ≠ L l) ∧
    ∃ c e, w.heap[L l]? = some (.cells c e (0, 0)) ∧ VRels φ cs c.toList ∧ ∀ u ∈ c.toList, u.oneCell' = true
  inj : ∀ l l' cs cs', lookB s.locs l = some cs → lookB s.locs l' = some cs' → L l = L l' → l = l'

/-- What a call of a function must do. -/
def CallOk (P : Program) (call : Call) : Prop :=
  ∀ f args h r h', call f args h = some (r, h') → ∀ φ w (vs : Array Value), HRel φ h w → VRels φ args vs.toList →
    (((callFunc f vs).run P w = .ok (.enter f vs) w) ∧
    Calls P f vs w fun e w' => ∃ φ' v, e = .returned v ∧ VRel φ' r v ∧ HRel φ' h' w' ∧ Step φ h w φ' h' w') ∨
    ∃ φ' v w', (callFunc f vs).run P w = .ok (.value v) w' ∧ VRel φ' r v ∧ HRel φ' h' w' ∧ Step φ h w φ' h' w'

theorem CRel.get {B n : Nat} {φ : Phi} {L : Nat → Nat} {s : Env} {h : Heap} {a : Act} {w : World} (c : CRel B n φ L s h a w) (t : Nat) : VRel φ (s.get t) (a.tmps.getD t undef) := by
  unfold Env.get
  split
  · unfold VRel; trivial
  · exact c.vals t ‹_›

/-- Constants. -/
def constOk : AVal → Value → Bool
  | .bool a, .bool b => a == b
  | .int k a, .int j b => decide (k = j) && a == b
  | .str l, .string s => s.data.toList == l
  | .nilPtr, .pointer none => true
  | .nilSlice, .slice none 0 0 => true
  | .nilFunc, .nilFunc => true
  | .nilIface, .nilIface => true
  | _, _ => false
def constsOk : List AVal → List Value → Bool
  | [], [] => true
  | a :: as, v :: vs => constOk a v && constsOk as vs
  | _, _ => false
def constTop : AVal → Value → Bool
  | .agg as, .agg vs => constsOk as vs.toList
  | .func f [], .func (.func g) first cs => Nat.beq f g && first.isEmpty && cs.isEmpty
  | a, v => constOk a v

theorem constOk_rel {a : AVal} {v : Value} (h : constOk a v = true) (φ : Phi) : VRel φ a v ∧ v.oneCell' = true := by
  unfold constOk at h
  split at h <;> first
    | (cases h; done)
    | (refine ⟨?_, rfl⟩; unfold VRel; simp_all; done)
    | skip
  refine ⟨?_, rfl⟩
  unfold VRel
  rename_i s
  have e := eq_of_beq h
  rw [← e]

theorem constsOk_rel : ∀ {as : List AVal} {vs : List Value}, constsOk as vs = true → ∀ φ, VRels φ as vs ∧ ∀ u ∈ vs, u.oneCell' = true
  | [], [], _, φ => ⟨by simp [VRels], by simp⟩
  | [], _ :: _, h, _ => by simp [constsOk] at h
  | _ :: _, [], h, _ => by simp [constsOk] at h
  | a :: as, v :: vs, h, φ => by
    simp only [constsOk, Bool.and_eq_true] at h
    obtain ⟨h1, h2⟩ := constOk_rel h.1 φ
    obtain ⟨h3, h4⟩ := constsOk_rel h.2 φ
    refine ⟨by simp only [VRels]; exact ⟨h1, h3⟩, ?_⟩
    intro u hu
    rcases List.mem_cons.1 hu with rfl | hu
    · exact h2
    · exact h4 u hu

theorem constTop_rel {a : AVal} {v : Value} (h : constTop a v = true) (φ : Phi) : VRel φ a v := by
  unfold constTop at h
  split at h
  · obtain ⟨h1, h2⟩ := constsOk_rel h φ
    unfold VRel
    exact ⟨_, rfl, h1, h2⟩
  · simp only [Bool.and_eq_true, Nat.beq_eq, Array.isEmpty_iff] at h
    obtain ⟨⟨rfl, rfl⟩, rfl⟩ := h
    unfold VRel
    exact ⟨#[], rfl, by simp [VRels]⟩
  · exact (constOk_rel h φ).1

def opdOk : Operand → AOpd → Bool
  | .tmp t, .tmp u => Nat.beq t u
  | .const v, .const a => constTop a v
  | .func f, .const (.func g []) => Nat.beq f g
  | .global i, .const (.ptr j 0) => Nat.beq i j && Nat.blt i pinsN
  | _, _ => false

theorem opd_rel {B n : Nat} {φ : Phi} {L : Nat → Nat} {s : Env} {h : Heap} {a : Act} {w : World} (c : CRel B n φ L s h a w) {x : Operand} {y : AOpd} (ho : opdOk x y = true) :
    VRel φ (s.ev y) (a.eval x) := by
  unfold opdOk at ho
  split at ho
  · have e : _ = _ := Nat.eq_of_beq_eq_true ho
    subst e
    exact c.get _
  · exact constTop_rel ho φ
  · have e : _ = _ := Nat.eq_of_beq_eq_true ho
    subst e
    unfold Env.ev VRel
    exact ⟨#[], rfl, by simp [VRels]⟩
  · simp only [Bool.and_eq_true] at ho
    have e : _ = _ := Nat.eq_of_beq_eq_true ho.1
    subst e
    obtain ⟨m, hm⟩ := c.heap.pin _ (by simpa [Nat.blt_eq] using ho.2)
    unfold Env.ev VRel
    exact ⟨_, hm, rfl⟩
  · cases ho

end Go.Fw

/- What one operation that only computes does in the model: numbers, texts, comparisons. -/
namespace Go.Fw
set_option linter.unusedSimpArgs false
set_option linter.unusedVariables false

theorem vrel_bool {φ : Phi} {b : Bool} {v : Value} : VRel φ (.bool b) v ↔ v = .bool b := by unfold VRel; exact Iff.rfl
theorem vrel_int {φ : Phi} {k : IntKind} {n : Int} {v : Value} : VRel φ (.int k n) v ↔ v = .int k n := by unfold VRel; exact Iff.rfl
theorem vrel_str {φ : Phi} {l : List UInt8} {v : Value} : VRel φ (.str l) v ↔ v = .string ⟨l.toArray⟩ := by unfold VRel; exact Iff.rfl
theorem vrel_nilPtr {φ : Phi} {v : Value} : VRel φ .nilPtr v ↔ v = .pointer none := by unfold VRel; exact Iff.rfl
theorem vrel_nilSlice {φ : Phi} {v : Value} : VRel φ .nilSlice v ↔ v = .slice none 0 0 := by unfold VRel; exact Iff.rfl
theorem vrel_nilFunc {φ : Phi} {v : Value} : VRel φ .nilFunc v ↔ v = .nilFunc := by unfold VRel; exact Iff.rfl
theorem vrel_nilIface {φ : Phi} {v : Value} : VRel φ .nilIface v ↔ v = .nilIface := by unfold VRel; exact Iff.rfl
theorem vrel_ptr {φ : Phi} {b off : Nat} {v : Value} : VRel φ (.ptr b off) v ↔ ∃ L, φ b = some L ∧ v = .pointer (some ⟨L.blk, L.base + off, none⟩) := by unfold VRel; exact Iff.rfl
theorem vrel_slice {φ : Phi} {b off len cap es : Nat} {ex : Bool} {v : Value} : VRel φ (.slice b off len cap es ex) v ↔
    ∃ L a c, φ b = some L ∧ v = .slice (some a) len c ∧ len ≤ cap ∧ cap ≤ c ∧ (ex = true → c = cap) ∧ (0 < c → a = ⟨L.blk, L.base + off, none⟩ ∧ L.base + off + c * es ≤ L.size) := by unfold VRel; exact Iff.rfl
theorem vrel_func {φ : Phi} {f : Nat} {caps : List AVal} {v : Value} : VRel φ (.func f caps) v ↔ ∃ cs, v = .func (.func f) #[] cs ∧ VRels φ caps cs.toList := by unfold VRel; exact Iff.rfl
theorem vrel_iface {φ : Phi} {t : Nat} {x : AVal} {v : Value} : VRel φ (.iface t x) v ↔ ∃ y, v = .iface t y ∧ VRel φ x y := by conv => lhs; unfold VRel
theorem vrel_agg {φ : Phi} {cs : List AVal} {v : Value} : VRel φ (.agg cs) v ↔ ∃ vs, v = .agg vs ∧ VRels φ cs vs.toList ∧ ∀ u ∈ vs.toList, u.oneCell' = true := by unfold VRel; exact Iff.rfl
theorem vrel_tuple {φ : Phi} {cs : List AVal} {v : Value} : VRel φ (.tuple cs) v ↔ ∃ vs, v = .tuple vs ∧ VRels φ cs vs.toList := by unfold VRel; exact Iff.rfl
theorem vrel_mapv {φ : Phi} {r : Nat} {v : Value} : VRel φ (.mapv r) v ↔ v = .map (some r) := by unfold VRel; exact Iff.rfl
theorem vrel_undef {φ : Phi} {v : Value} : VRel φ .undef v ↔ True := by unfold VRel; exact Iff.rfl

/-- A value that fills one cell does so in the model. -/
theorem one_cell {φ : Phi} {x : AVal} {v : Value} (h : VRel φ x v) (o : x.one = true) : v.oneCell' = true := by
  cases x <;> simp only [AVal.one] at o <;> first | (cases o; done) | skip
  case bool => rw [vrel_bool.1 h]; rfl
  case int => rw [vrel_int.1 h]; rfl
  case str => rw [vrel_str.1 h]; rfl
  case nilPtr => rw [vrel_nilPtr.1 h]; rfl
  case ptr => obtain ⟨_, _, rfl⟩ := vrel_ptr.1 h; rfl
  case nilSlice => rw [vrel_nilSlice.1 h]; rfl
  case slice => obtain ⟨_, _, _, _, rfl, _⟩ := vrel_slice.1 h; rfl
  case func => obtain ⟨_, rfl, _⟩ := vrel_func.1 h; rfl
  case nilFunc => rw [vrel_nilFunc.1 h]; rfl
  case iface => obtain ⟨_, rfl, _⟩ := vrel_iface.1 h; rfl
  case nilIface => rw [vrel_nilIface.1 h]; rfl
  case mapv => rw [vrel_mapv.1 h]; rfl

theorem oneCell_cells {v : Value} (h : v.oneCell' = true) : v.cells = #[v] := by
  cases v <;> first | rfl | (simp [Value.oneCell'] at h)

/-- The cells of a value. -/
theorem cells_rel {φ : Phi} {x : AVal} {v : Value} {cs : List AVal} (h : VRel φ x v) (e : x.cells? = some cs) : VRels φ cs v.cells.toList ∧ ∀ u ∈ v.cells.toList, u.oneCell' = true := by
  cases x <;> simp only [AVal.cells?] at e <;> first | (cases e; done) | skip
  case agg as =>
    cases e
    obtain ⟨vs, rfl, h1, h2⟩ := vrel_agg.1 h
    exact ⟨h1, h2⟩
  all_goals
    cases e
    have o := one_cell h rfl
    rw [oneCell_cells o]
    refine ⟨?_, by simpa using o⟩
    simp only [VRels, and_true]
    exact h

section
variable {P : Program} (w : World)

theorem run_eqGuard_int (op : BinOp) (t : TypeId) (x y : Operand) (k j : IntKind) (a b : Int) : (eqGuard op t x y (.int k a) (.int j b)).run P w = .ok () w := by
  cases op <;> simp [eqGuard]
theorem run_eqGuard_string (op : BinOp) (t : TypeId) (x y : Operand) (a b : ByteArray) : (eqGuard op t x y (.string a) (.string b)).run P w = .ok () w := by
  cases op <;> simp [eqGuard]

theorem run_shift {op : BinOp} {k j : IntKind} {a b : Int} {r : AVal} (h : aShift op k a b = some r) (φ : Phi) : ∃ z, (Op.shift op k a j b).run P w = .ok z w ∧ VRel φ r z := by
  unfold aShift at h
  split at h
  · cases h
  · rename_i hb
    cases op <;> simp only at h <;> first | (cases h; done) | skip
    all_goals
      cases h
      refine ⟨_, ?_, vrel_int.2 rfl⟩
      simp [Op.shift, hb]

theorem run_intOp {op : BinOp} {k : IntKind} {t : TypeId} {a b : Int} {r : AVal} (h : aInt op k a b = some r) (φ : Phi) (hs : op ≠ .shl) (hr : op ≠ .shr) :
    ∃ z, (binOp op t (.int k a) (.int k b)).run P w = .ok z w ∧ VRel φ r z := by
  cases op <;> simp only [aInt] at h <;> first | (exact absurd rfl hs) | (exact absurd rfl hr) | skip
  case quo =>
    split at h
    · cases h
    · rename_i hb
      cases h
      refine ⟨_, ?_, vrel_int.2 rfl⟩
      rw [show binOp .quo t (.int k a) (.int k b) = Op.intDiv .quo k a b by simp [binOp]]
      simp [Op.intDiv, hb]
  case rem =>
    split at h
    · cases h
    · rename_i hb
      cases h
      refine ⟨_, ?_, vrel_int.2 rfl⟩
      rw [show binOp .rem t (.int k a) (.int k b) = Op.intDiv .rem k a b by simp [binOp]]
      simp [Op.intDiv, hb]
  case add => cases h; exact ⟨_, by rw [show binOp .add t (.int k a) (.int k b) = Op.intArith .add k a b by simp [binOp]]; rfl, vrel_int.2 rfl⟩
  case sub => cases h; exact ⟨_, by rw [show binOp .sub t (.int k a) (.int k b) = Op.intArith .sub k a b by simp [binOp]]; rfl, vrel_int.2 rfl⟩
  case mul => cases h; exact ⟨_, by rw [show binOp .mul t (.int k a) (.int k b) = Op.intArith .mul k a b by simp [binOp]]; rfl, vrel_int.2 rfl⟩
  case and => cases h; exact ⟨_, by rw [show binOp .and t (.int k a) (.int k b) = Op.intBits .and k a b by simp [binOp]]; rfl, vrel_int.2 rfl⟩
  case or => cases h; exact ⟨_, by rw [show binOp .or t (.int k a) (.int k b) = Op.intBits .or k a b by simp [binOp]]; rfl, vrel_int.2 rfl⟩
  case xor => cases h; exact ⟨_, by rw [show binOp .xor t (.int k a) (.int k b) = Op.intBits .xor k a b by simp [binOp]]; rfl, vrel_int.2 rfl⟩
  case andNot => cases h; exact ⟨_, by rw [show binOp .andNot t (.int k a) (.int k b) = Op.intBits .andNot k a b by simp [binOp]]; rfl, vrel_int.2 rfl⟩
  case eql => cases h; exact ⟨_, by rw [show binOp .eql t (.int k a) (.int k b) = Op.intCmp .eql a b by simp [binOp]]; rfl, vrel_bool.2 rfl⟩
  case neq => cases h; exact ⟨_, by rw [show binOp .neq t (.int k a) (.int k b) = Op.intCmp .neq a b by simp [binOp]]; rfl, vrel_bool.2 rfl⟩
  case lss => cases h; exact ⟨_, by rw [show binOp .lss t (.int k a) (.int k b) = Op.intCmp .lss a b by simp [binOp]]; rfl, vrel_bool.2 rfl⟩
  case leq => cases h; exact ⟨_, by rw [show binOp .leq t (.int k a) (.int k b) = Op.intCmp .leq a b by simp [binOp]]; rfl, vrel_bool.2 rfl⟩
  case gtr => cases h; exact ⟨_, by rw [show binOp .gtr t (.int k a) (.int k b) = Op.intCmp .gtr a b by simp [binOp]]; rfl, vrel_bool.2 rfl⟩
  case geq => cases h; exact ⟨_, by rw [show binOp .geq t (.int k a) (.int k b) = Op.intCmp .geq a b by simp [binOp]]; rfl, vrel_bool.2 rfl⟩

theorem run_strOp {op : BinOp} {t : TypeId} {a b : List UInt8} {r : AVal} (h : aStr op a b = some r) (φ : Phi) :
    ∃ z, (binOp op t (.string ⟨a.toArray⟩) (.string ⟨b.toArray⟩)).run P w = .ok z w ∧ VRel φ r z := by
  cases op <;> simp only [aStr] at h <;> first | (cases h; done) | skip
  case add =>
    split at h
    · rename_i hle
      cases h
      refine ⟨.string ⟨(a ++ b).toArray⟩, ?_, vrel_str.2 rfl⟩
      have hm : ¬ (((ByteArray.mk a.toArray).size + (ByteArray.mk b.toArray).size : Nat) : Int) > IntKind.i64.max := by
        show ¬ ((a.toArray.size + b.toArray.size : Nat) : Int) > 9223372036854775807
        simp only [List.size_toArray]
        omega
      have he : ByteArray.mk a.toArray ++ ByteArray.mk b.toArray = ByteArray.mk (a ++ b).toArray := by
        apply ByteArray.ext
        rw [ByteArray.data_append]
        simp
      simp only [binOp, Op.stringOp]
      rw [if_neg hm, he]
      rfl
    · cases h
  all_goals
    cases h
    refine ⟨_, ?_, vrel_bool.2 rfl⟩
    simp only [binOp, Op.stringOp, ByteArray.toList_mk]
    rfl

/-- The kinds of a type's cells, if '==' asks them one by one. -/
def flatFs (rec : TypeId → Option (List Nat)) (P : Program) : Nat → List Field → Option (List Nat)
  | _, [] => some []
  | off, f :: fs =>
    if f.name ≠ "_" ∧ f.offset = off then
      match rec f.type with
      | some ks => if ks.length = P.cellsOf f.type then (match flatFs rec P (off + ks.length) fs with | some r => some (ks ++ r) | none => none) else none
      | none => none
    else none
def flatK (P : Program) : Nat → TypeId → Option (List Nat)
  | 0, _ => none
  | d + 1, t =>
    match P.underlying t with
    | some .bool => some [0]
    | some (.int _) => some [1]
    | some .string => some [2]
    | some (.struct fs) => if P.stoodInHeld t then none else flatFs (flatK P d) P 0 fs.toList
    | some (.array n e) => if P.cellsOf e = 1 ∧ flatK P d e = some [1] then some (List.replicate n 1) else none
    | _ => none

theorem cellsEq_append : ∀ (ks ls : List Nat) (as bs : List AVal) (r : Bool), cellsEq (ks ++ ls) as bs = some r →
    ∃ r1 r2, cellsEq ks (as.take ks.length) (bs.take ks.length) = some r1 ∧ cellsEq ls (as.drop ks.length) (bs.drop ks.length) = some r2 ∧ r = (r1 && r2)
  | [], ls, as, bs, r, h => ⟨true, r, by simp [cellsEq], by simpa using h, by simp⟩
  | k :: ks, ls, as, bs, r, h => by
    rw [List.cons_append] at h
    unfold cellsEq at h
    split at h
    · rename_i heq; cases heq
    all_goals first
      | (cases h; done)
      | (rename_i heq
         injection heq with e1 e2
         subst e1; subst e2
         simp only [Option.bind_eq_some_iff, Option.some.injEq] at h
         obtain ⟨q, hq, rfl⟩ := h
         obtain ⟨r1, r2, h1, h2, rfl⟩ := cellsEq_append _ _ _ _ _ hq
         refine ⟨_ && r1, r2, ?_, by simpa using h2, by rw [Bool.and_assoc]⟩
         simp only [List.length_cons, List.take_succ_cons, cellsEq, h1, Option.bind_some])
      | (rename_i heq
         injection heq with e1 e2
         subst e1; subst e2
         split at h
         · rename_i hk
           simp only [Option.bind_eq_some_iff, Option.some.injEq] at h
           obtain ⟨q, hq, rfl⟩ := h
           obtain ⟨r1, r2, h1, h2, rfl⟩ := cellsEq_append _ _ _ _ _ hq
           refine ⟨_ && r1, r2, ?_, by simpa using h2, by rw [Bool.and_assoc]⟩
           simp only [List.length_cons, List.take_succ_cons, cellsEq, hk, if_true, h1, Option.bind_some]
         · cases h)

/-- The value that some cells are, of a type. -/
def valOf (P : Program) (t : TypeId) (l : List Value) : Option Value :=
  match P.underlying t with
  | some (.struct _) | some (.array _ _) => some (.agg l.toArray)
  | _ => match l with | [v] => some v | _ => none

theorem run_part {t : TypeId} {d : TypeDesc} (hu : P.underlying t = some d) {i : TypeInfo} (hi : P.info? t = some i) (xs : Array Value) (off : Nat) {v : Value}
    (hv : valOf P t ((xs.toList.drop off).take (P.cellsOf t)) = some v) : (part t xs off).run P w = .ok v w := by
  unfold valOf at hv
  rw [hu] at hv
  have hex : xs.extract off (off + P.cellsOf t) = ((xs.toList.drop off).take (P.cellsOf t)).toArray := by
    apply Array.ext'
    rw [Array.toList_extract]
    simp [List.extract_eq_take_drop]
  split at hv
  all_goals first
    | (cases hv; rename_i h; cases h; simp [part, isAgg, run_underlying hu, run_sizeOf w hi, hex]; done)
    | (have hna : (isAgg t).run P w = .ok false w := by
         cases d <;> simp_all [isAgg, run_underlying hu]
       split at hv
       · rename_i u hl
         cases hv
         have hx := getElem?_of_chunk hl
         simp [part, hna, hx]
       · cases hv)

end
end Go.Fw
