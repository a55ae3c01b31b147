/- The abstract semantics: values, heap, code; each step is a total function into Option. Plain definitions, no theorem about the program. -/
import GoSem.Dispatch
namespace Go.Fw
set_option linter.unusedSimpArgs false
set_option linter.unusedVariables false

/-- An abstract value. 'undef': nothing is known of it. -/
inductive AVal where
  | undef
  | bool (b : Bool)
  | int (k : IntKind) (n : Int)
  | str (s : List UInt8)
  | nilPtr
  | ptr (b off : Nat)
  | nilSlice
  | slice (b off len cap es : Nat) (exact : Bool)
  | func (f : Nat) (caps : List AVal)
  | nilFunc
  | iface (t : Nat) (v : AVal)
  | nilIface
  | agg (cells : List AVal)
  | tuple (vs : List AVal)
  deriving Inhabited

/-- A block of the abstract heap: the cells that are known, and whether it may be written. -/
structure Blk where
  cells : List AVal
  rw : Bool

structure Heap where
  next : Nat
  blk : Nat → Option Blk

/-- An answer: which way out, what is handed on, the heap. -/
abbrev J := Nat × List AVal × Heap

namespace AVal
/-- A value that fills one cell of memory, surely. -/
def one : AVal → Bool
  | .undef | .agg _ | .tuple _ => false
  | _ => true
/-- The cells that a value fills. -/
def cells? : AVal → Option (List AVal)
  | .undef | .tuple _ => none
  | .agg cs => some cs
  | v => some [v]
def aggCells : AVal → List AVal
  | .agg cs => cs
  | _ => []
end AVal

namespace Heap
def alloc (h : Heap) (cs : List AVal) : Heap := ⟨h.next + 1, fun i => bif Nat.beq i h.next then some ⟨cs, true⟩ else h.blk i⟩
def setBlk (h : Heap) (b : Nat) (x : Option Blk) : Heap := ⟨h.next, fun i => bif Nat.beq i b then x else h.blk i⟩
/-- Names are held ready. -/
def res (h : Heap) (m : Nat) : Heap := ⟨h.next + m, h.blk⟩
/-- n cells of a block, from off on. -/
def rd (h : Heap) (b off n : Nat) : Option (List AVal) :=
  match h.blk b with
  | some x => bif Nat.ble (off + n) x.cells.length then some ((x.cells.drop off).take n) else none
  | none => none
end Heap

/-- 'vs' laid over a list from 'off' on. -/
def splice (l : List AVal) (off : Nat) (vs : List AVal) : List AVal := l.take off ++ vs ++ l.drop (off + vs.length)

namespace Heap
def wr (h : Heap) (b off : Nat) (vs : List AVal) : Option Heap :=
  match h.blk b with
  | some x => bif x.rw && Nat.ble (off + vs.length) x.cells.length then some (h.setBlk b (some ⟨splice x.cells off vs, true⟩)) else none
  | none => none
end Heap

/-- How '==' looks at values of a type. -/
inductive EqTag where
  | plain                     -- numbers, texts: by the values themselves
  | bool
  | ptr
  | slice
  | func
  | iface (c : Bool) (ints : List Nat)   -- c: one operand is a constant; the dynamic types over one integer kind that may meet
  | cells (kinds : List Nat)   -- a struct or an array, cell by cell: 0 bool, 1 number, 2 text
  deriving Inhabited

inductive AOpd where
  | tmp (t : Nat)
  | const (v : AVal)
  deriving Inhabited

inductive AConv where
  | toInt (k : IntKind)
  | strBytes
  | bytesStr
  | strStr
  | intStr
  | slBytes
  deriving Inhabited

inductive AIdx where
  | arr (len es : Nat) (agg : Bool)
  | str
  deriving Inhabited

inductive ASl where
  | str
  | sl (es : Nat)
  | arr (len es : Nat)
  deriving Inhabited

/-- One operation. -/
inductive AOp where
  | mov (d : Nat) (x : AOpd)
  | pick (d : Nat) (c a b : AOpd)
  | bin (d : Nat) (op : BinOp) (tag : EqTag) (x y : AOpd)
  | un (d : Nat) (op : UnOp) (x : AOpd)
  | conv (d : Nat) (c : AConv) (x : AOpd)
  | box (d : Nat) (loc : Bool) (x : AOpd)
  | alloc (d : Nat) (loc : Bool) (zero : List AVal)
  | build (d : Nat) (zero : List AVal) (parts : List (Nat × Nat × AOpd))
  | buildSl (d : Nat) (zero : List AVal) (es len : Nat) (parts : List (Nat × AOpd))
  | load (d : Nat) (agg : Bool) (n : Nat) (x : AOpd)
  | store (agg : Bool) (n : Nat) (x v : AOpd)
  | nilchk (d : Nat) (x : AOpd)
  | field (d : Nat) (agg : Bool) (off n : Nat) (x : AOpd)
  | faddr (d : Nat) (off : Nat) (x : AOpd)
  | iaddr (d : Nat) (arr : Option Nat) (es : Nat) (x i : AOpd)
  | index (d : Nat) (k : AIdx) (x i : AOpd)
  | slice (d : Nat) (k : ASl) (x : AOpd) (lo hi mx : Option AOpd)
  | mkSlice (d : Nat) (es bytes : Nat) (zero : List AVal) (len cap : AOpd)
  | mkIface (d : Nat) (t : Nat) (x : AOpd)
  | extract (d : Nat) (x : AOpd) (i : Nat)
  | mkFunc (d : Nat) (f : Nat) (caps : List AOpd)
  | call (d : Nat) (f : Nat) (args : List AOpd)
  | callv (d : Nat) (fn : AOpd) (args : List AOpd)
  | invoke (d : Nat) (tbl : List (Nat × Nat × Option (Nat × Nat × Bool))) (recv : AOpd) (args : List AOpd)
  | append (d : Nat) (es bytes : Nat) (zero : List AVal) (zeros : Bool) (s x : AOpd)
  | copy (d : Nat) (es : Nat) (dst src : AOpd)
  | clear (d : Nat) (zero : List AVal) (s : AOpd)   -- d: nothing is answered; any number
  | len (d : Nat) (str : Bool) (x : AOpd)
  | cap (d : Nat) (x : AOpd)
  | minmax (d : Nat) (mx : Bool) (xs : List AOpd)
  | fl (d j : Nat) (sl : Option (Nat × Nat)) (zero : List AVal) (parts : List (Nat × AOpd))      -- a new block under a name that is held ready: a variable, or a row of constant length
  deriving Inhabited

/-- What is handed on where ways meet: temporaries, and local blocks by their names. -/
structure Live where
  vals : List Nat
  locs : List Nat
  deriving Inhabited

inductive AItem where
  | op (i : Nat) (o : AOp)
  | guard (t : Nat) (want : Bool) (items : List AItem) (pairs : List (Nat × Nat)) (live : List Nat)
  deriving Inhabited

inductive AExit where
  | normal
  | exit (id : Nat)
  | ret
  deriving DecidableEq, Inhabited

inductive ACode where
  | skip
  | region (items : List AItem) (pairs : List (Nat × Nat))
  | regionF (m : Nat) (items : List AItem) (pairs : List (Nat × Nat))      -- m names are held ready
  | seq (a b : ACode)
  | cond (c : AOpd) (a b : ACode)
  | block (id : Nat) (c : ACode)
  | loop (live : Live) (alts : List (AExit × Live)) (c : ACode)
  | join (alts : List (AExit × Live)) (c : ACode)
  | exit (id : Nat)
  | dead                       -- what is never reached
  | ret
  deriving Inhabited


/-- What an operation did, for the check that an order does not matter. -/
inductive Log where
  | rd (b off n : Nat)
  | lrd (l off n : Nat)
  | al (b : Nat)
  | lal (l : Nat)
  | ef (β : List (Nat × List AVal)) (h : Heap) (β' : List (Nat × List AVal)) (h' : Heap)

def look : List (Nat × AVal) → Nat → AVal
  | [], _ => .undef
  | (u, v) :: r, t => bif Nat.beq u t then v else look r t
def lookA : List (Nat × Nat × Nat) → Nat → Option (Nat × Nat)
  | [], _ => none
  | (u, v) :: r, t => bif Nat.beq u t then some v else lookA r t
def lookB : List (Nat × List AVal) → Nat → Option (List AVal)
  | [], _ => none
  | (u, v) :: r, t => bif Nat.beq u t then some v else lookB r t
def dropA : List (Nat × Nat × Nat) → Nat → List (Nat × Nat × Nat)
  | [], _ => []
  | (u, v) :: r, t => bif Nat.beq u t then dropA r t else (u, v) :: dropA r t
def setB : List (Nat × List AVal) → Nat → List AVal → List (Nat × List AVal)
  | [], _, _ => []
  | (u, v) :: r, t, c => bif Nat.beq u t then (u, c) :: r else (u, v) :: setB r t c

structure Env where
  vals : List (Nat × AVal)
  lads : List (Nat × Nat × Nat)
  locs : List (Nat × List AVal)
  log : List (Nat × Option Log)
  base : Nat := 0            -- the first of the names that a region holds ready for what it makes in whatever order

namespace Env
def get (s : Env) (t : Nat) : AVal := match lookA s.lads t with | some _ => .undef | none => look s.vals t
def ev (s : Env) : AOpd → AVal
  | .tmp t => s.get t
  | .const v => v
def lad (s : Env) : AOpd → Option (Nat × Nat)
  | .tmp t => lookA s.lads t
  | .const _ => none
def set (s : Env) (d : Nat) (v : AVal) : Env := { s with vals := (d, v) :: s.vals, lads := dropA s.lads d }
def setL (s : Env) (d l off : Nat) : Env := { s with lads := (d, l, off) :: s.lads }
def newLoc (s : Env) (d : Nat) (cs : List AVal) : Env := { s with lads := (d, d, 0) :: s.lads, locs := (d, cs) :: s.locs }
def fresh (s : Env) (d : Nat) : Bool := match lookB s.locs d with | some _ => false | none => true
def addLog (s : Env) (i : Nat) (l : Option Log) : Env := { s with log := (i, l) :: s.log }
def noLog (s : Env) : Env := { s with log := [] }
end Env

def rdL (cs : List AVal) (off n : Nat) : Option (List AVal) := bif Nat.ble (off + n) cs.length then some ((cs.drop off).take n) else none
def fromCells : Bool → List AVal → Option AVal
  | true, cs => some (.agg cs)
  | false, [v] => some v
  | false, _ => none
def aCells (n : Nat) (v : AVal) : Option (List AVal) :=
  match v.cells? with
  | some cs => bif Nat.beq cs.length n then some cs else none
  | none => none

def aPick (c a b : AVal) : Option AVal := match c with | .bool t => some (bif t then a else b) | _ => none

def aInt (op : BinOp) (k : IntKind) (a b : Int) : Option AVal :=
  match op with
  | .add => some (.int k (k.wrap (a + b)))
  | .sub => some (.int k (k.wrap (a - b)))
  | .mul => some (.int k (k.wrap (a * b)))
  | .quo => if b = 0 then none else some (.int k (k.wrap (a.tdiv b)))
  | .rem => if b = 0 then none else some (.int k (a.tmod b))
  | .and => some (.int k (k.wrap (BitVec.ofInt k.bits a &&& BitVec.ofInt k.bits b).toNat))
  | .or => some (.int k (k.wrap (BitVec.ofInt k.bits a ||| BitVec.ofInt k.bits b).toNat))
  | .xor => some (.int k (k.wrap (BitVec.ofInt k.bits a ^^^ BitVec.ofInt k.bits b).toNat))
  | .andNot => some (.int k (k.wrap (BitVec.ofInt k.bits a &&& ~~~(BitVec.ofInt k.bits b)).toNat))
  | .eql => some (.bool (a == b))
  | .neq => some (.bool (a != b))
  | .lss => some (.bool (a < b))
  | .leq => some (.bool (a ≤ b))
  | .gtr => some (.bool (a > b))
  | .geq => some (.bool (a ≥ b))
  | _ => none

def aShift (op : BinOp) (k : IntKind) (a b : Int) : Option AVal :=
  if b < 0 then none else
  match op with
  | .shl => some (.int k (k.wrap (a * 2 ^ (min b.toNat k.bits))))
  | .shr => some (.int k (a.fdiv (2 ^ (min b.toNat k.bits))))
  | _ => none

def aStr (op : BinOp) (a b : List UInt8) : Option AVal :=
  match op with
  | .add => if a.length + b.length ≤ 4611686018427387904 then some (.str (a ++ b)) else none
  | .eql => some (.bool (a == b))
  | .neq => some (.bool !(a == b))
  | .lss => some (.bool (Op.bytesLess a b))
  | .leq => some (.bool (Op.bytesLess a b || a == b))
  | .gtr => some (.bool !(Op.bytesLess a b || a == b))
  | .geq => some (.bool !(Op.bytesLess a b))
  | _ => none

/-- Cell by cell. -/
def cellsEq : List Nat → List AVal → List AVal → Option Bool
  | [], [], [] => some true
  | 0 :: ks, .bool a :: as, .bool b :: bs => (cellsEq ks as bs).bind fun r => some ((a == b) && r)
  | 1 :: ks, .int k a :: as, .int j b :: bs => if k = j then (cellsEq ks as bs).bind fun r => some ((a == b) && r) else none
  | 2 :: ks, .str a :: as, .str b :: bs => (cellsEq ks as bs).bind fun r => some ((a == b) && r)
  | _, _, _ => none

def aEq : EqTag → AVal → AVal → Option Bool
  | .bool, .bool a, .bool b => some (a == b)
  | .ptr, .nilPtr, .nilPtr => some true
  | .ptr, .nilPtr, .ptr _ _ => some false
  | .ptr, .ptr _ _, .nilPtr => some false
  | .slice, .nilSlice, .nilSlice => some true
  | .slice, .nilSlice, .slice .. => some false
  | .slice, .slice .., .nilSlice => some false
  | .func, .nilFunc, .nilFunc => some true
  | .func, .nilFunc, .func .. => some false
  | .func, .func .., .nilFunc => some false
  | .iface _ _, .nilIface, .iface _ _ => some false
  | .iface _ _, .iface _ _, .nilIface => some false
  | .iface true _, .nilIface, .nilIface => some true
  | .iface _ ints, .iface t (.int k a), .iface u (.int j b) => if t = u then (if k = j ∧ t ∈ ints then some (a == b) else none) else some false
  | .iface _ _, .iface t _, .iface u _ => if t = u then none else some false
  | .cells ks, .agg a, .agg b => cellsEq ks a b
  | _, _, _ => none

def aBin (op : BinOp) (tag : EqTag) (x y : AVal) : Option AVal :=
  match tag, x, y with
  | .plain, .int k a, .int j b =>
    match op with
    | .shl | .shr => aShift op k a b
    | _ => if k = j then aInt op k a b else none
  | .plain, .str a, .str b => aStr op a b
  | .plain, _, _ => none
  | tag, x, y =>
    match op with
    | .eql => (aEq tag x y).bind fun r => some (.bool r)
    | .neq => (aEq tag x y).bind fun r => some (.bool !r)
    | _ => none

def aUn (op : UnOp) (x : AVal) : Option AVal :=
  match op, x with
  | .neg, .int k n => some (.int k (k.wrap (0 - n)))
  | .xor, .int k n => some (.int k (k.wrap (BitVec.ofInt k.bits (if k.signed then -1 else k.max) ^^^ BitVec.ofInt k.bits n).toNat))
  | .not, .bool b => some (.bool !b)
  | _, _ => none

def byteCells (l : List UInt8) : List AVal := l.map fun b => .int .u8 b.toNat
def cellBytes : List AVal → Option (List UInt8)
  | [] => some []
  | .int .u8 n :: r => (cellBytes r).bind fun l => some (UInt8.ofNat n.toNat :: l)
  | _ :: _ => none

def aConv (c : AConv) (x : AVal) (h : Heap) : Option (AVal × Heap) :=
  match c, x with
  | .toInt k, .int _ n => some (.int k (k.wrap n), h)
  | .strBytes, .str l => some (.slice h.next 0 l.length l.length 1 false, h.alloc (byteCells l))
  | .bytesStr, .nilSlice => some (.str [], h)
  | .bytesStr, .slice b off len _ es _ => bif Nat.beq es 1 then (h.rd b off len).bind fun cs => (cellBytes cs).bind fun l => some (.str l, h) else none
  | .strStr, .str l => some (.str l, h)
  | .slBytes, .slice b off len cap es ex => bif Nat.beq len 0 then none else (match h.blk b with | some ⟨_, true⟩ => some (.slice b off len cap es ex, h) | _ => none)
  | .intStr, .int _ n => some (.str (Utf8.encode n).data.toList, h)
  | _, _ => none

/-- Parts laid over the zero cells. -/
def aFill : List AVal → List (Nat × Nat × AVal) → Option (List AVal)
  | cs, [] => some cs
  | cs, (off, n, v) :: r => (aCells n v).bind fun vs => bif Nat.ble (off + n) cs.length then aFill (splice cs off vs) r else none

def aLoad (h : Heap) (n : Nat) (x : AVal) : Option (List AVal) := match x with | .ptr b off => h.rd b off n | _ => none
def aStore (h : Heap) (x : AVal) (cs : List AVal) : Option Heap := match x with | .ptr b off => h.wr b off cs | _ => none
def aNilchk (x : AVal) : Option AVal := match x with | .ptr b o => some (.ptr b o) | .func f c => some (.func f c) | .iface t v => some (.iface t v) | _ => none
def aField (off n : Nat) (x : AVal) : Option (List AVal) := match x with | .agg cs => rdL cs off n | _ => none
def aFaddr (off : Nat) (x : AVal) : Option AVal := match x with | .ptr b o => some (.ptr b (o + off)) | _ => none
/-- An index that is within. -/
def aIdx (len : Nat) (i : AVal) : Option Nat := match i with | .int _ n => if 0 ≤ n ∧ n < len then some n.toNat else none | _ => none
def aIaddrA (len es : Nat) (x i : AVal) : Option AVal := match x with | .ptr b o => (aIdx len i).bind fun j => some (.ptr b (o + j * es)) | _ => none
def aIaddr (es : Nat) (x i : AVal) : Option AVal :=
  match x with
  | .slice b off len _ es' _ => bif Nat.beq es es' then (aIdx len i).bind fun j => some (.ptr b (off + j * es)) else none
  | _ => none
def aIndexStr (x i : AVal) : Option AVal := match x with | .str l => (aIdx l.length i).bind fun j => some (.int .u8 (l.getD j 0).toNat) | _ => none
def aIndexArr (len es : Nat) (x i : AVal) : Option (List AVal) := match x with | .agg cs => (aIdx len i).bind fun j => rdL cs (j * es) es | _ => none

def aBound (x : Option AVal) (dflt most : Nat) : Option Nat :=
  match x with
  | none => some dflt
  | some (.int _ n) => if 0 ≤ n ∧ n ≤ most then some n.toNat else none
  | some _ => none

def aSliceStr (x : AVal) (lo hi : Option AVal) : Option AVal :=
  match x with
  | .str l => (aBound hi l.length l.length).bind fun h => (aBound lo 0 h).bind fun a => some (.str ((l.take h).drop a))
  | _ => none
def aSliceSl (es : Nat) (x : AVal) (lo hi mx : Option AVal) : Option AVal :=
  match x with
  | .slice b off len cap es' exact =>
    bif Nat.beq es es' then
      (aBound mx cap cap).bind fun m => (aBound hi len m).bind fun h => (aBound lo 0 h).bind fun a =>
        some (.slice b (off + a * es) (h - a) (m - a) es (exact || mx.isSome))
    else none
  | .nilSlice => (aBound mx 0 0).bind fun m => (aBound hi 0 m).bind fun h => (aBound lo 0 h).bind fun _ => some .nilSlice
  | _ => none
def aSliceArr (_n _es : Nat) (_x : AVal) (_lo _hi _mx : Option AVal) : Option AVal := none

def reps (zero : List AVal) : Nat → List AVal
  | 0 => []
  | n + 1 => zero ++ reps zero n

def aMkSlice (es bytes : Nat) (zero : List AVal) (len cap : AVal) (h : Heap) : Option (AVal × Heap) :=
  match len, cap with
  | .int .i64 l, .int .i64 c =>
    if 0 ≤ l ∧ l ≤ c ∧ c * bytes ≤ 140737488355328 ∧ c ≤ 4611686018427387904 then some (.slice h.next 0 l.toNat c.toNat es true, h.alloc (reps zero c.toNat)) else none
  | _, _ => none

def aFn (x : AVal) : Option (Nat × List AVal) := match x with | .func f c => some (f, c) | _ => none
def lookM : List (Nat × Nat × Option (Nat × Nat × Bool)) → Nat → Option (Nat × Option (Nat × Nat × Bool))
  | [], _ => none
  | (u, v) :: r, t => bif Nat.beq u t then some v else lookM r t
def aMeth (tbl : List (Nat × Nat × Option (Nat × Nat × Bool))) (x : AVal) : Option (Nat × AVal) :=
  match x with
  | .iface t v =>
    match lookM tbl t with
    | some (f, none) => some (f, v)
    | some (f, some (off, n, agg)) => (aField off n v).bind fun cs => (fromCells agg cs).bind fun r => some (f, r)
    | none => none
  | _ => none

/-- What is appended: its cells. -/
def aNews (es bytes : Nat) (zero : List AVal) (zeros : Bool) (x : AVal) (h : Heap) : Option (Nat × List AVal) :=
  match zeros, x with
  | true, .int .i64 n => if 0 ≤ n ∧ n ≤ 140737488355328 ∧ n * bytes ≤ 140737488355328 then some (n.toNat, reps zero n.toNat) else none
  | false, .nilSlice => some (0, [])
  | false, .str l => bif Nat.beq es 1 then some (l.length, byteCells l) else none
  | false, .slice b off len _ es' _ =>
    bif Nat.beq len 0 then some (0, []) else
    bif Nat.beq es es' then (h.rd b off (len * es)).bind fun cs => some (len, cs) else none
  | _, _ => none

def aAppend (es bytes : Nat) (zero : List AVal) (zeros : Bool) (s x : AVal) (h : Heap) : Option (AVal × Heap) :=
  (aNews es bytes zero zeros x h).bind fun (n, news) =>
  match s with
  | .nilSlice =>
    bif Nat.beq n 0 then some (.nilSlice, h) else
    if n * bytes ≤ 140737488355328 ∧ n ≤ 4611686018427387904 then some (.slice h.next 0 n n es false, h.alloc news) else none
  | .slice b off len cap es' exact =>
    bif Nat.beq es es' then
      bif Nat.beq n 0 then some (s, h) else
      bif Nat.ble (len + n) cap then (h.wr b (off + len * es) news).bind fun h' => some (.slice b off (len + n) cap es exact, h')
      else
        if (len + n) * bytes ≤ 140737488355328 ∧ len + n ≤ 4611686018427387904 then
          bif exact then
            bif Nat.beq len 0 then some (.slice h.next 0 n n es false, h.alloc news) else
            (h.rd b off (len * es)).bind fun old => some (.slice h.next 0 (len + n) (len + n) es false, h.alloc (old ++ news))
          else
            match h.blk b with
            | some ⟨_, true⟩ => (h.rd b off (len * es)).bind fun old => some (.slice h.next 0 (len + n) (len + n) es false, (h.alloc (old ++ news)).setBlk b none)
            | _ => none
        else none
    else none
  | _ => none

def aCopy (es : Nat) (dst src : AVal) (h : Heap) : Option (AVal × Heap) :=
  match dst with
  | .nilSlice => (match src with | .slice .. | .nilSlice | .str _ => some (.int .i64 0, h) | _ => none)
  | .slice b off len _ es' _ =>
    bif Nat.beq es es' then
      match src with
      | .nilSlice => some (.int .i64 0, h)
      | .slice b2 off2 len2 _ es2 _ =>
        bif Nat.beq es es2 then
          bif Nat.beq (Nat.min len2 len) 0 then some (.int .i64 0, h) else
          (h.rd b2 off2 (Nat.min len2 len * es)).bind fun cs => (h.wr b off cs).bind fun h' => some (.int .i64 (Nat.min len2 len), h')
        else none
      | .str l =>
        bif Nat.beq es 1 then
          bif Nat.beq (Nat.min l.length len) 0 then some (.int .i64 0, h) else
          (h.wr b off (byteCells (l.take (Nat.min l.length len)))).bind fun h' => some (.int .i64 (Nat.min l.length len), h')
        else none
      | _ => none
    else none
  | _ => none

def aClear (zero : List AVal) (s : AVal) (h : Heap) : Option (AVal × Heap) :=
  match s with
  | .nilSlice => some (.tuple [], h)
  | .slice b off len _ es _ =>
    bif Nat.beq len 0 then some (.tuple [], h) else
    bif Nat.beq es zero.length then (h.wr b off (reps zero len)).bind fun h' => some (.tuple [], h') else none
  | _ => none

def aLen (str : Bool) (x : AVal) : Option AVal := match str, x with | true, .str l => some (.int .i64 l.length) | false, .slice _ _ len _ _ _ => some (.int .i64 len) | false, .nilSlice => some (.int .i64 0) | _, _ => none
def aCap (x : AVal) : Option AVal := match x with | .slice _ _ _ cap _ true => some (.int .i64 cap) | .nilSlice => some (.int .i64 0) | _ => none

def aMin2 (x y : AVal) : Option AVal := match x, y with | .int k a, .int j b => if k = j then some (.int k (if b < a then b else a)) else none | _, _ => none
def aMax2 (x y : AVal) : Option AVal := match x, y with | .int k a, .int j b => if k = j then some (.int k (if b > a then b else a)) else none | _, _ => none
def aMinMax (mx : Bool) : AVal → List AVal → Option AVal
  | v, [] => some v
  | v, w :: r => ((bif mx then aMax2 v w else aMin2 v w)).bind fun u => aMinMax mx u r
def aMinMaxL (mx : Bool) : List AVal → Option AVal
  | [] => none
  | v :: r => aMinMax mx v r
def flVal (sl : Option (Nat × Nat)) (b : Nat) : AVal := match sl with | none => .ptr b 0 | some (es, len) => .slice b 0 len len es true
def flCells (sl : Option (Nat × Nat)) (zero : List AVal) (parts : List (Nat × AVal)) : Option (List AVal) :=
  match sl with | none => some zero | some (es, len) => aFill (reps zero len) (parts.map fun p => (p.1 * es, es, p.2))
def aExtract (i : Nat) (x : AVal) : Option AVal := match x with | .tuple vs => vs[i]? | _ => none

abbrev Call := Nat → List AVal → Heap → Option (AVal × Heap)

/-- One operation. 'g': within a guard no local block is made or written. -/
def stepOp (call : Call) (g : Bool) (o : AOp) (s : Env) (h : Heap) (k : Env → Heap → Option J) : Option J :=
  match o with
  | .mov d x => (match s.lad x with | some (l, o) => k (s.setL d l o) h | none => k (s.set d (s.ev x)) h)
  | .pick d c a b => (aPick (s.ev c) (s.ev a) (s.ev b)).bind fun v => k (s.set d v) h
  | .bin d op tag x y => (aBin op tag (s.ev x) (s.ev y)).bind fun v => k (s.set d v) h
  | .un d op x => (aUn op (s.ev x)).bind fun v => k (s.set d v) h
  | .conv d c x => (aConv c (s.ev x) h).bind fun r => k (s.set d r.1) r.2
  | .box d true x => bif !g && s.fresh d then (s.ev x).cells?.bind fun cs => k (s.newLoc d cs) h else none
  | .box d false x => (s.ev x).cells?.bind fun cs => k (s.set d (.ptr h.next 0)) (h.alloc cs)
  | .alloc d true zero => bif !g && s.fresh d then k (s.newLoc d zero) h else none
  | .alloc d false zero => k (s.set d (.ptr h.next 0)) (h.alloc zero)
  | .build d zero parts => (aFill zero (parts.map fun p => (p.1, p.2.1, s.ev p.2.2))).bind fun cs => k (s.set d (.agg cs)) h
  | .buildSl d zero es len parts =>
    (aFill (reps zero len) (parts.map fun p => (p.1 * es, es, s.ev p.2))).bind fun cs => k (s.set d (.slice h.next 0 len len es true)) (h.alloc cs)
  | .load d agg n x =>
    (match s.lad x with
     | some (l, off) => ((lookB s.locs l).bind fun cs => rdL cs off n).bind fun cs => (fromCells agg cs).bind fun v => k (s.set d v) h
     | none => (aLoad h n (s.ev x)).bind fun cs => (fromCells agg cs).bind fun v => k (s.set d v) h)
  | .store _ n x v =>
    (aCells n (s.ev v)).bind fun cs =>
    (match s.lad x with
     | some (l, off) => bif !g then (lookB s.locs l).bind fun old => bif Nat.ble (off + n) old.length then k { s with locs := setB s.locs l (splice old off cs) } h else none else none
     | none => (aStore h (s.ev x) cs).bind fun h' => k s h')
  | .nilchk d x => (match s.lad x with | some (l, o) => k (s.setL d l o) h | none => (aNilchk (s.ev x)).bind fun v => k (s.set d v) h)
  | .field d agg off n x => (aField off n (s.ev x)).bind fun cs => (fromCells agg cs).bind fun v => k (s.set d v) h
  | .faddr d off x => (match s.lad x with | some (l, o) => k (s.setL d l (o + off)) h | none => (aFaddr off (s.ev x)).bind fun v => k (s.set d v) h)
  | .iaddr d (some len) es x i =>
    (match s.lad x with
     | some (l, o) => (aIdx len (s.ev i)).bind fun j => k (s.setL d l (o + j * es)) h
     | none => (aIaddrA len es (s.ev x) (s.ev i)).bind fun v => k (s.set d v) h)
  | .iaddr d none es x i => (aIaddr es (s.ev x) (s.ev i)).bind fun v => k (s.set d v) h
  | .index d .str x i => (aIndexStr (s.ev x) (s.ev i)).bind fun v => k (s.set d v) h
  | .index d (.arr len es agg) x i => (aIndexArr len es (s.ev x) (s.ev i)).bind fun cs => (fromCells agg cs).bind fun v => k (s.set d v) h
  | .slice d .str x lo hi _ => (aSliceStr (s.ev x) (lo.map s.ev) (hi.map s.ev)).bind fun v => k (s.set d v) h
  | .slice d (.sl es) x lo hi mx => (aSliceSl es (s.ev x) (lo.map s.ev) (hi.map s.ev) (mx.map s.ev)).bind fun v => k (s.set d v) h
  | .slice d (.arr n es) x lo hi mx => (aSliceArr n es (s.ev x) (lo.map s.ev) (hi.map s.ev) (mx.map s.ev)).bind fun v => k (s.set d v) h
  | .mkSlice d es bytes zero len cap => (aMkSlice es bytes zero (s.ev len) (s.ev cap) h).bind fun r => k (s.set d r.1) r.2
  | .mkIface d t x => k (s.set d (.iface t (s.ev x))) h
  | .extract d x i => (aExtract i (s.ev x)).bind fun v => k (s.set d v) h
  | .mkFunc d f caps => k (s.set d (.func f (caps.map s.ev))) h
  | .call d f args => (call f (args.map s.ev) h).bind fun r => k (s.set d r.1) r.2
  | .callv d fn args => (aFn (s.ev fn)).bind fun fc => (call fc.1 (args.map s.ev ++ fc.2) h).bind fun r => k (s.set d r.1) r.2
  | .invoke d tbl recv args => (aMeth tbl (s.ev recv)).bind fun fr => (call fr.1 (fr.2 :: args.map s.ev) h).bind fun r => k (s.set d r.1) r.2
  | .append d es bytes zero zeros sl x => (aAppend es bytes zero zeros (s.ev sl) (s.ev x) h).bind fun r => k (s.set d r.1) r.2
  | .copy d es dst src => (aCopy es (s.ev dst) (s.ev src) h).bind fun r => k (s.set d r.1) r.2
  | .clear _ zero sl => (aClear zero (s.ev sl) h).bind fun r => k s r.2
  | .len d str x => (aLen str (s.ev x)).bind fun v => k (s.set d v) h
  | .cap d x => (aCap (s.ev x)).bind fun v => k (s.set d v) h
  | .minmax d mx xs => (aMinMaxL mx (xs.map s.ev)).bind fun v => k (s.set d v) h
  | .fl d j sl zero parts => (flCells sl zero (parts.map fun p => (p.1, s.ev p.2))).bind fun cs => k (s.set d (flVal sl (s.base + j))) (h.setBlk (s.base + j) (some ⟨cs, true⟩))

end Go.Fw
