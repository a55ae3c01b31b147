/- runs by the kernel -/
import Derived.Test.YtinkiihdnepfjaaGreatDoorDFwA
import Derived.Test.YtinkiihdnepfjaaGreatDoorDFwZc
set_option linter.unusedSimpArgs false
set_option linter.unusedVariables false
namespace Go.Fw.K
open Go.Fw
inductive Tr (α : Type) where
  | nil
  | node (v : Option α) (l r : Tr α)
namespace Tr
variable {α : Type}
noncomputable def get (t : Tr α) : Nat → Option α :=
  Tr.rec (motive := fun _ => Nat → Option α) (fun _ => none)
    (fun v _ _ gl gr k => Bool.rec (Bool.rec (gr (Nat.sub (Nat.div k 2) 1)) (gl (Nat.div k 2)) (Nat.beq (Nat.mod k 2) 1)) v (Nat.beq k 0)) t
noncomputable def setF (n : Nat) : Tr α → Nat → Option α → Tr α :=
  Nat.rec (motive := fun _ => Tr α → Nat → Option α → Tr α) (fun t _ _ => t)
    (fun _ ih t k x =>
      Tr.rec (motive := fun _ => Tr α)
        (Bool.rec (Bool.rec (.node none .nil (ih .nil (Nat.sub (Nat.div k 2) 1) x)) (.node none (ih .nil (Nat.div k 2) x) .nil) (Nat.beq (Nat.mod k 2) 1)) (.node x .nil .nil) (Nat.beq k 0))
        (fun v l r _ _ => Bool.rec (Bool.rec (.node v l (ih r (Nat.sub (Nat.div k 2) 1) x)) (.node v (ih l (Nat.div k 2) x) r) (Nat.beq (Nat.mod k 2) 1)) (.node x l r) (Nat.beq k 0)) t) n
noncomputable def set (t : Tr α) (k : Nat) (x : Option α) : Tr α := setF (Nat.succ k) t k x
end Tr
structure TH where
  next : Nat
  m : Tr Blk
inductive KJ where
  | no
  | out (i : Nat) (xs : List AVal) (h : TH)
inductive KR where
  | no
  | yes (v : AVal) (h : TH)
section bind
variable {α : Type}
noncomputable def V (x : Option α) (f : α → KJ) : KJ := Option.rec .no f x
noncomputable def VR (x : Option α) (f : α → KR) : KR := Option.rec .no f x
noncomputable def VO {β : Type} (x : Option α) (f : α → Option β) : Option β := Option.rec none f x
noncomputable def R (x : KR) (f : AVal → TH → KJ) : KJ := KR.rec .no f x
noncomputable def Jn (x : KJ) (f : Nat → List AVal → TH → KJ) : KJ := KJ.rec .no f x
noncomputable def ifB (b : Bool) (x y : α) : α := Bool.rec y x b
end bind
noncomputable def C (c : AVal) (a b : KJ) : KJ := AVal.rec (motive_1 := fun _ => KJ) (motive_2 := fun _ => KJ) .no (fun t => Bool.rec b a t) (fun _ _ => .no) (fun _ => .no) .no (fun _ _ => .no) .no (fun _ _ _ _ _ _ => .no) (fun _ _ _ => .no) .no (fun _ _ _ => .no) .no (fun _ _ => .no) (fun _ _ => .no) .no (fun _ _ _ _ => .no) c
section on
variable {α : Type}
noncomputable def onInt (x : AVal) (d : α) (f : IntKind → Int → α) : α := AVal.rec (motive_1 := fun _ => α) (motive_2 := fun _ => α) d (fun _ => d) f (fun _ => d) d (fun _ _ => d) d (fun _ _ _ _ _ _ => d) (fun _ _ _ => d) d (fun _ _ _ => d) d (fun _ _ => d) (fun _ _ => d) d (fun _ _ _ _ => d) x
noncomputable def onPtr (x : AVal) (d : α) (f : Nat → Nat → α) : α := AVal.rec (motive_1 := fun _ => α) (motive_2 := fun _ => α) d (fun _ => d) (fun _ _ => d) (fun _ => d) d f d (fun _ _ _ _ _ _ => d) (fun _ _ _ => d) d (fun _ _ _ => d) d (fun _ _ => d) (fun _ _ => d) d (fun _ _ _ _ => d) x
noncomputable def onSl (x : AVal) (d : α) (f : Nat → Nat → Nat → Nat → Nat → Bool → α) : α := AVal.rec (motive_1 := fun _ => α) (motive_2 := fun _ => α) d (fun _ => d) (fun _ _ => d) (fun _ => d) d (fun _ _ => d) d f (fun _ _ _ => d) d (fun _ _ _ => d) d (fun _ _ => d) (fun _ _ => d) d (fun _ _ _ _ => d) x
noncomputable def onAgg (x : AVal) (d : α) (f : List AVal → α) : α := AVal.rec (motive_1 := fun _ => α) (motive_2 := fun _ => α) d (fun _ => d) (fun _ _ => d) (fun _ => d) d (fun _ _ => d) d (fun _ _ _ _ _ _ => d) (fun _ _ _ => d) d (fun _ _ _ => d) d (fun l _ => f l) (fun _ _ => d) d (fun _ _ _ _ => d) x
noncomputable def onTup (x : AVal) (d : α) (f : List AVal → α) : α := AVal.rec (motive_1 := fun _ => α) (motive_2 := fun _ => α) d (fun _ => d) (fun _ _ => d) (fun _ => d) d (fun _ _ => d) d (fun _ _ _ _ _ _ => d) (fun _ _ _ => d) d (fun _ _ _ => d) d (fun _ _ => d) (fun l _ => f l) d (fun _ _ _ _ => d) x
noncomputable def onFn (x : AVal) (d : α) (f : Nat → List AVal → α) : α := AVal.rec (motive_1 := fun _ => α) (motive_2 := fun _ => α) d (fun _ => d) (fun _ _ => d) (fun _ => d) d (fun _ _ => d) d (fun _ _ _ _ _ _ => d) (fun g c _ => f g c) d (fun _ _ _ => d) d (fun _ _ => d) (fun _ _ => d) d (fun _ _ _ _ => d) x
end on
noncomputable def takeN (n : Nat) : List AVal → Option (List AVal) :=
  Nat.rec (motive := fun _ => List AVal → Option (List AVal)) (fun _ => some [])
    (fun _ ih l => List.rec (motive := fun _ => Option (List AVal)) none (fun a r _ => Option.rec none (fun q => some (a :: q)) (ih r)) l) n
noncomputable def cut (l : List AVal) (off n : Nat) : Option (List AVal) :=
  Nat.rec (motive := fun _ => List AVal → Option (List AVal)) (fun l => takeN n l) (fun _ ih l => List.rec (motive := fun _ => Option (List AVal)) none (fun _ r _ => ih r) l) off l
noncomputable def nth (l : List AVal) (off : Nat) : Option AVal :=
  Nat.rec (motive := fun _ => List AVal → Option AVal) (fun l => List.rec none (fun a _ _ => some a) l) (fun _ ih l => List.rec (motive := fun _ => Option AVal) none (fun _ r _ => ih r) l) off l
noncomputable def lay (vs : List AVal) : List AVal → Option (List AVal) :=
  List.rec (motive := fun _ => List AVal → Option (List AVal)) (fun l => some l)
    (fun v _ ih l => List.rec (motive := fun _ => Option (List AVal)) none (fun _ r _ => Option.rec none (fun q => some (v :: q)) (ih r)) l) vs
noncomputable def layAt (l : List AVal) (off : Nat) (vs : List AVal) : Option (List AVal) :=
  Nat.rec (motive := fun _ => List AVal → Option (List AVal)) (fun l => lay vs l)
    (fun _ ih l => List.rec (motive := fun _ => Option (List AVal)) none (fun a r _ => Option.rec none (fun q => some (a :: q)) (ih r)) l) off l
namespace TH
noncomputable def blk (h : TH) (b : Nat) : Option Blk := h.m.get b
noncomputable def setBlk (h : TH) (b : Nat) (x : Option Blk) : TH := ⟨h.next, h.m.set b x⟩
noncomputable def alloc (h : TH) (cs : List AVal) : TH := ⟨Nat.add h.next 1, h.m.set h.next (some ⟨cs, true⟩)⟩
noncomputable def res (h : TH) (n : Nat) : TH := ⟨Nat.add h.next n, h.m⟩
noncomputable def rd (h : TH) (b off n : Nat) : Option (List AVal) := VO (h.m.get b) fun x => cut x.cells off n
noncomputable def rd1 (h : TH) (b off : Nat) : Option AVal := VO (h.m.get b) fun x => nth x.cells off
noncomputable def wr (h : TH) (b off : Nat) (vs : List AVal) : Option TH :=
  VO (h.m.get b) fun x => ifB x.rw (VO (layAt x.cells off vs) fun cs => some (h.setBlk b (some ⟨cs, true⟩))) none
end TH
def VF : Nat := 1000000007
noncomputable def onLn {α : Type} (x : AVal) (d : α) (f : List AVal → α) : α := onFn x d fun g c => ifB (Nat.beq g VF) (f c) d
noncomputable def isB (b : Bool) (x : AVal) : Bool := AVal.rec (motive_1 := fun _ => Bool) (motive_2 := fun _ => Bool) false (fun t => Bool.rec (Bool.rec true false t) t b) (fun _ _ => false) (fun _ => false) false (fun _ _ => false) false (fun _ _ _ _ _ _ => false) (fun _ _ _ => false) false (fun _ _ _ => false) false (fun _ _ => false) (fun _ _ => false) false (fun _ _ _ _ => false) x
noncomputable def isI (x : AVal) : Bool := onInt x false fun _ _ => true
noncomputable def allB (p : AVal → Bool) (l : List AVal) : Bool := List.rec true (fun a _ ih => ifB (p a) ih false) l
noncomputable def unite (l : List AVal) : Option AVal :=
  List.rec none (fun a _ _ => ifB (isI a) (ifB (allB isI l) (some (.func VF l)) none) (ifB (allB (isB true) l) (some (.bool true)) (ifB (allB (isB false) l) (some (.bool false)) none))) l
noncomputable def mapO (f : AVal → Option AVal) (l : List AVal) : Option (List AVal) := List.rec (some []) (fun a _ ih => VO (f a) fun b => VO ih fun r => some (b :: r)) l
noncomputable def zipO (f : AVal → AVal → Option AVal) (l : List AVal) : List AVal → Option (List AVal) :=
  List.rec (motive := fun _ => List AVal → Option (List AVal)) (fun m => List.rec (some []) (fun _ _ _ => none) m) (fun a _ ih m => List.rec none (fun b r _ => VO (f a b) fun c => VO (ih r) fun q => some (c :: q)) m) l
noncomputable def lanes2 (f : AVal → AVal → Option AVal) (x y : AVal) : Option AVal :=
  onLn x (onLn y (f x y) fun m => VO (mapO (fun b => f x b) m) unite) fun l => onLn y (VO (mapO (fun a => f a y) l) unite) fun m => VO (zipO f l m) unite
noncomputable def kMax (k : IntKind) : Nat := IntKind.rec 127 32767 2147483647 9223372036854775807 255 65535 4294967295 18446744073709551615 k
noncomputable def kIdx (k : IntKind) : Nat := IntKind.rec 0 1 2 3 4 5 6 7 k
noncomputable def kBits (k : IntKind) : Nat := IntKind.rec 8 16 32 64 8 16 32 64 k
noncomputable def onNN {α : Type} (x y : AVal) (d : α) (f : IntKind → Nat → Nat → α) : α :=
  onInt x d fun k a => onInt y d fun j b => Int.rec (fun a => Int.rec (fun b => ifB (Nat.beq (kIdx k) (kIdx j)) (f k a b) d) (fun _ => d) b) (fun _ => d) a
noncomputable def kSlow (op : BinOp) (x y : AVal) : Option AVal := lanes2 (aBin op .plain) x y
noncomputable def kAdd (x y : AVal) : Option AVal := onNN x y (kSlow .add x y) fun k a b => ifB (Nat.ble (Nat.add a b) (kMax k)) (some (.int k (.ofNat (Nat.add a b)))) (kSlow .add x y)
noncomputable def kSub (x y : AVal) : Option AVal := onNN x y (kSlow .sub x y) fun k a b => ifB (Nat.ble b a) (ifB (Nat.ble a (kMax k)) (some (.int k (.ofNat (Nat.sub a b)))) (kSlow .sub x y)) (kSlow .sub x y)
noncomputable def kMul (x y : AVal) : Option AVal := onNN x y (kSlow .mul x y) fun k a b => ifB (Nat.ble (Nat.mul a b) (kMax k)) (some (.int k (.ofNat (Nat.mul a b)))) (some (.int k (k.wrap (.ofNat (Nat.mul a b)))))
noncomputable def kEql (x y : AVal) : Option AVal := onNN x y (kSlow .eql x y) fun _ a b => some (.bool (Nat.beq a b))
noncomputable def kNeq (x y : AVal) : Option AVal := onNN x y (kSlow .neq x y) fun _ a b => some (.bool (ifB (Nat.beq a b) false true))
noncomputable def kLss (x y : AVal) : Option AVal := onNN x y (kSlow .lss x y) fun _ a b => some (.bool (Nat.ble (Nat.succ a) b))
noncomputable def kLeq (x y : AVal) : Option AVal := onNN x y (kSlow .leq x y) fun _ a b => some (.bool (Nat.ble a b))
noncomputable def kGtr (x y : AVal) : Option AVal := onNN x y (kSlow .gtr x y) fun _ a b => some (.bool (Nat.ble (Nat.succ b) a))
noncomputable def kGeq (x y : AVal) : Option AVal := onNN x y (kSlow .geq x y) fun _ a b => some (.bool (Nat.ble b a))
noncomputable def kShr (x y : AVal) : Option AVal :=
  onInt x (kSlow .shr x y) fun k a => onInt y (kSlow .shr x y) fun _ b => Int.rec (fun a => Int.rec (fun b => ifB (Nat.ble b (kBits k)) (some (.int k (.ofNat (Nat.div a (Nat.pow 2 b))))) (kSlow .shr x y)) (fun _ => kSlow .shr x y) b) (fun _ => kSlow .shr x y) a
noncomputable def kShl (x y : AVal) : Option AVal :=
  onInt x (kSlow .shl x y) fun k a => onInt y (kSlow .shl x y) fun _ b => Int.rec (fun a => Int.rec (fun b => ifB (ifB (Nat.ble b 7) (Nat.ble (Nat.mul a (Nat.pow 2 b)) (kMax k)) false) (some (.int k (.ofNat (Nat.mul a (Nat.pow 2 b))))) (kSlow .shl x y)) (fun _ => kSlow .shl x y) b) (fun _ => kSlow .shl x y) a
noncomputable def kRem (x y : AVal) : Option AVal := onNN x y (kSlow .rem x y) fun k a b => ifB (Nat.beq b 0) none (some (.int k (.ofNat (Nat.mod a b))))
noncomputable def kPlain (op : BinOp) : AVal → AVal → Option AVal :=
  match op with
  | .add => kAdd | .sub => kSub | .mul => kMul | .rem => kRem | .eql => kEql | .neq => kNeq | .lss => kLss | .leq => kLeq | .gtr => kGtr | .geq => kGeq | .shr => kShr | .shl => kShl
  | op => kSlow op
noncomputable def kEqT (tag : EqTag) (x y : AVal) : Option Bool := match tag with | .func => none | tag => aEq tag x y
noncomputable def kEq (tag : EqTag) (x y : AVal) : Option AVal := VO (kEqT tag x y) fun b => some (.bool b)
noncomputable def kNe (tag : EqTag) (x y : AVal) : Option AVal := VO (kEqT tag x y) fun b => some (.bool (ifB b false true))
noncomputable def kTag (op : BinOp) (tag : EqTag) (x y : AVal) : Option AVal := match op with | .eql => kEq tag x y | .neq => kNe tag x y | _ => none
noncomputable def kBin (op : BinOp) (tag : EqTag) : AVal → AVal → Option AVal :=
  match tag with
  | .plain => kPlain op
  | tag => kTag op tag
noncomputable def kNot (x : AVal) : Option AVal := AVal.rec (motive_1 := fun _ => Option AVal) (motive_2 := fun _ => Option AVal) none (fun t => some (.bool (ifB t false true))) (fun _ _ => none) (fun _ => none) none (fun _ _ => none) none (fun _ _ _ _ _ _ => none) (fun _ _ _ => none) none (fun _ _ _ => none) none (fun _ _ => none) (fun _ _ => none) none (fun _ _ _ _ => none) x
noncomputable def kUn (op : UnOp) (x : AVal) : Option AVal := match op with | .not => kNot x | op => aUn op x
noncomputable def kPick (c a b : AVal) : Option AVal := AVal.rec (motive_1 := fun _ => Option AVal) (motive_2 := fun _ => Option AVal) none (fun t => some (ifB t a b)) (fun _ _ => none) (fun _ => none) none (fun _ _ => none) none (fun _ _ _ _ _ _ => none) (fun _ _ _ => none) none (fun _ _ _ => none) none (fun _ _ => none) (fun _ _ => none) none (fun _ _ _ _ => none) c
noncomputable def toInt1 (k : IntKind) (x : AVal) : Option AVal := onInt x none fun _ n => some (.int k (k.wrap n))
noncomputable def kToIntS (k : IntKind) (x : AVal) : Option AVal := onLn x (toInt1 k x) fun l => VO (mapO (toInt1 k) l) unite
noncomputable def kToInt (k : IntKind) (x : AVal) : Option AVal := onInt x (kToIntS k x) fun _ n => Int.rec (fun a => ifB (Nat.ble a (kMax k)) (some (.int k (.ofNat a))) (kToIntS k x)) (fun _ => kToIntS k x) n
noncomputable def kFrom (agg : Bool) (cs : List AVal) : Option AVal := ifB agg (some (.agg cs)) (List.rec none (fun v r _ => List.rec (some v) (fun _ _ _ => none) r) cs)
noncomputable def kOne (n : Nat) (v : AVal) : Option (List AVal) := ifB (Nat.beq n 1) (some [v]) none
noncomputable def kCells (n : Nat) (v : AVal) : Option (List AVal) :=
  AVal.rec (motive_1 := fun _ => Option (List AVal)) (motive_2 := fun _ => Option (List AVal)) none (fun _ => kOne n v) (fun _ _ => kOne n v) (fun _ => kOne n v) (kOne n v) (fun _ _ => kOne n v) (kOne n v) (fun _ _ _ _ _ _ => kOne n v) (fun _ _ _ => kOne n v) (kOne n v) (fun _ _ _ => kOne n v) (kOne n v) (fun l _ => ifB (Nat.beq l.length n) (some l) none) (fun _ _ => none) none (fun _ _ _ _ => none) v
noncomputable def kCellsQ (v : AVal) : Option (List AVal) := v.cells?
noncomputable def kBytes (x : AVal) (h : TH) : KR := .no
noncomputable def kStr (x : AVal) (h : TH) : Option AVal :=
  match x with
  | .nilSlice => some (.str [])
  | .slice b off len _ es _ => ifB (Nat.beq es 1) (VO (h.rd b off len) fun cs => VO (cellBytes cs) fun l => some (.str l)) none
  | _ => none
noncomputable def kStrStr (x : AVal) : Option AVal := match x with | .str l => some (.str l) | _ => none
noncomputable def kIntStr (x : AVal) : Option AVal := match x with | .int _ n => some (.str (Utf8.encode n).data.toList) | _ => none
noncomputable def kSlBytes (x : AVal) (h : TH) : Option AVal := none
noncomputable def kLd1 (h : TH) (x : AVal) : Option AVal := onPtr x none fun b off => h.rd1 b off
noncomputable def kLdA (h : TH) (n : Nat) (x : AVal) : Option AVal := onPtr x none fun b off => VO (h.rd b off n) fun cs => some (.agg cs)
noncomputable def kLdL (cs : List AVal) (agg : Bool) (off n : Nat) : Option AVal := VO (cut cs off n) fun cs => kFrom agg cs
noncomputable def kLoad (h : TH) (agg : Bool) (n : Nat) (x : AVal) : Option AVal := ifB agg (kLdA h n x) (ifB (Nat.beq n 1) (kLd1 h x) none)
noncomputable def kSt (h : TH) (n : Nat) (x v : AVal) : Option TH := onPtr x none fun b off => VO (kCells n v) fun cs => h.wr b off cs
noncomputable def kStL (old : List AVal) (off n : Nat) (v : AVal) : Option (List AVal) := VO (kCells n v) fun cs => layAt old off cs
noncomputable def kNil (x : AVal) : Option AVal := onPtr x (onFn x (match x with | .iface t v => some (.iface t v) | _ => none) fun f c => ifB (Nat.beq f VF) none (some (.func f c))) fun b o => some (.ptr b o)
noncomputable def kField (agg : Bool) (off n : Nat) (x : AVal) : Option AVal := onAgg x none fun cs => ifB agg (VO (cut cs off n) fun l => some (.agg l)) (ifB (Nat.beq n 1) (nth cs off) none)
noncomputable def kFaddr (off : Nat) (x : AVal) : Option AVal := onPtr x none fun b o => some (.ptr b (Nat.add o off))
noncomputable def kIx (len : Nat) (i : AVal) : Option Nat := onInt i none fun _ n => Int.rec (fun a => ifB (Nat.ble (Nat.succ a) len) (some a) none) (fun _ => none) n
noncomputable def kIaddr (es : Nat) (x i : AVal) : Option AVal := onSl x none fun b off len _ es' _ => ifB (Nat.beq es es') (VO (kIx len i) fun j => some (.ptr b (Nat.add off (Nat.mul j es)))) none
noncomputable def kIaddrA (len es : Nat) (x i : AVal) : Option AVal := onPtr x none fun b o => VO (kIx len i) fun j => some (.ptr b (Nat.add o (Nat.mul j es)))
noncomputable def kIndexArr (len es : Nat) (agg : Bool) (x i : AVal) : Option AVal := onAgg x none fun cs => VO (kIx len i) fun j => kLdL cs agg (Nat.mul j es) es
noncomputable def kIndexStr (x i : AVal) : Option AVal := aIndexStr x i
noncomputable def kSlStr (x : AVal) (lo hi : Option AVal) : Option AVal := aSliceStr x lo hi
noncomputable def kBound (x : Option AVal) (dflt most : Nat) : Option Nat :=
  Option.rec (some dflt) (fun v => onInt v none fun _ n => Int.rec (fun a => ifB (Nat.ble a most) (some a) none) (fun _ => none) n) x
noncomputable def kSlSl (es : Nat) (x : AVal) (lo hi mx : Option AVal) : Option AVal :=
  onSl x (aSliceSl es x lo hi mx) fun b off len cap es' exact =>
    ifB (Nat.beq es es') (VO (kBound mx cap cap) fun m => VO (kBound hi len m) fun h => VO (kBound lo 0 h) fun a => some (.slice b (Nat.add off (Nat.mul a es)) (Nat.sub h a) (Nat.sub m a) es (exact || mx.isSome))) none
noncomputable def kMkSlice (es bytes : Nat) (zero : List AVal) (len cap : AVal) (h : TH) : KR :=
  match len, cap with
  | .int .i64 l, .int .i64 c =>
    if 0 ≤ l ∧ l ≤ c ∧ c * bytes ≤ 140737488355328 ∧ c ≤ 4611686018427387904 then .yes (.slice h.next 0 l.toNat c.toNat es true) (h.alloc (reps zero c.toNat)) else .no
  | _, _ => .no
noncomputable def kNews (es bytes : Nat) (zero : List AVal) (zeros : Bool) (x : AVal) (h : TH) : Option (Nat × List AVal) :=
  match zeros, x with
  | true, .int .i64 n => if 0 ≤ n ∧ n ≤ 140737488355328 ∧ n * bytes ≤ 140737488355328 then some (n.toNat, reps zero n.toNat) else none
  | false, .nilSlice => some (0, [])
  | false, .str l => bif Nat.beq es 1 then some (l.length, byteCells l) else none
  | false, .slice b off len _ es' _ =>
    ifB (Nat.beq len 0) (some (0, [])) (ifB (Nat.beq es es') (VO (h.rd b off (Nat.mul len es)) fun cs => some (len, cs)) none)
  | _, _ => none
noncomputable def kGrow (n bytes : Nat) : Bool := ifB (Nat.ble (Nat.mul n bytes) 140737488355328) (Nat.ble n 4611686018427387904) false
noncomputable def kApp (es bytes : Nat) (s : AVal) (h : TH) (n : Nat) (news : List AVal) : KR :=
  match s with
  | .nilSlice => ifB (Nat.beq n 0) (.yes .nilSlice h) (ifB (kGrow n bytes) (.yes (.slice h.next 0 n n es false) (h.alloc news)) .no)
  | .slice b off len cap es' exact =>
    ifB (Nat.beq es es')
      (ifB (Nat.beq n 0) (.yes s h)
      (ifB (Nat.ble (Nat.add len n) cap) (VR (h.wr b (Nat.add off (Nat.mul len es)) news) fun h' => .yes (.slice b off (Nat.add len n) cap es exact) h')
        (ifB (kGrow (Nat.add len n) bytes)
          (ifB exact
            (ifB (Nat.beq len 0) (.yes (.slice h.next 0 n n es false) (h.alloc news))
            (VR (h.rd b off (Nat.mul len es)) fun old => .yes (.slice h.next 0 (Nat.add len n) (Nat.add len n) es false) (h.alloc (old ++ news))))
            (VR (h.m.get b) fun q => ifB q.rw (VR (h.rd b off (Nat.mul len es)) fun old => .yes (.slice h.next 0 (Nat.add len n) (Nat.add len n) es false) ((h.alloc (old ++ news)).setBlk b none)) .no))
          .no))) .no
  | _ => .no
noncomputable def kAppend (es bytes : Nat) (zero : List AVal) (zeros : Bool) (s x : AVal) (h : TH) : KR := VR (kNews es bytes zero zeros x h) fun p => kApp es bytes s h p.1 p.2
noncomputable def kCopy (es : Nat) (dst src : AVal) (h : TH) : KR :=
  match dst with
  | .nilSlice => (match src with | .slice .. | .nilSlice | .str _ => .yes (.int .i64 0) h | _ => .no)
  | .slice b off len _ es' _ =>
    ifB (Nat.beq es es')
      (match src with
      | .nilSlice => .yes (.int .i64 0) h
      | .slice b2 off2 len2 _ es2 _ =>
        ifB (Nat.beq es es2)
          (ifB (Nat.beq (Nat.min len2 len) 0) (.yes (.int .i64 0) h)
          (VR (h.rd b2 off2 (Nat.mul (Nat.min len2 len) es)) fun cs => VR (h.wr b off cs) fun h' => .yes (.int .i64 (Nat.min len2 len)) h')) .no
      | .str l =>
        ifB (Nat.beq es 1)
          (ifB (Nat.beq (Nat.min l.length len) 0) (.yes (.int .i64 0) h)
          (VR (h.wr b off (byteCells (l.take (Nat.min l.length len)))) fun h' => .yes (.int .i64 (Nat.min l.length len)) h')) .no
      | _ => .no) .no
  | _ => .no
noncomputable def kClear (zero : List AVal) (s : AVal) (h : TH) : KR :=
  match s with
  | .nilSlice => .yes (.tuple []) h
  | .slice b off len _ es _ => ifB (Nat.beq len 0) (.yes (.tuple []) h) (ifB (Nat.beq es zero.length) (VR (h.wr b off (reps zero len)) fun h' => .yes (.tuple []) h') .no)
  | _ => .no
noncomputable def kLen (str : Bool) (x : AVal) : Option AVal := ifB str (aLen true x) (onSl x (aLen false x) fun _ _ len _ _ _ => some (.int .i64 (.ofNat len)))
noncomputable def kExtract (i : Nat) (x : AVal) : Option AVal := onTup x none fun l => nth l i
noncomputable def kAggCells (x : AVal) : List AVal := onAgg x [] fun l => l
noncomputable def kFn (x : AVal) : Option (Nat × List AVal) := onFn x none fun f c => ifB (Nat.beq f VF) none (some (f, c))
noncomputable def kMeth (tbl : List (Nat × Nat × Option (Nat × Nat × Bool))) (x : AVal) : Option (Nat × AVal) := aMeth tbl x
abbrev TCall := Nat → List AVal → TH → KR
inductive KLog where
  | rd (b off n : Nat)
  | lrd (l off n : Nat)
  | al (b : Nat)
  | lal (l : Nat)
  | ef (β : List (Nat × List AVal)) (h : TH) (β' : List (Nat × List AVal)) (h' : TH)
noncomputable def kLogRd (v : AVal) (n : Nat) : Option KLog := onPtr v none fun b off => some (.rd b off n)
noncomputable def kLogBs (v : AVal) : Option KLog := onSl v none fun b off len _ _ _ => some (.rd b off len)
noncomputable def kStays (a e : KLog) : Bool :=
  match a, e with
  | .rd b off n, .ef _ h _ h' => beqO (h.rd b off n) (h'.rd b off n)
  | .lrd l off n, .ef β _ β' _ => beqO ((lookB β l).bind fun c => cut c off n) ((lookB β' l).bind fun c => cut c off n)
  | .rd b _ _, .al b' => !(Nat.beq b b')
  | .rd _ _ _, .lal _ => true
  | .lrd _ _ _, .al _ => true
  | .lrd l _ _, .lal l' => !(Nat.beq l l')
  | .al b, .ef _ h _ h' =>
    (match h.m.get b, h'.m.get b with
     | some x, some y => AVal.beqL x.cells y.cells && (x.rw == y.rw)
     | _, _ => false)
  | .lal l, .ef β _ β' _ => beqO (lookB β l) (lookB β' l)
  | _, _ => false
def kLookLog : List (Nat × Option KLog) → Nat → Option (Option KLog)
  | [], _ => none
  | (u, v) :: r, t => bif Nat.beq u t then some v else kLookLog r t
noncomputable def kPairOk : Option KLog → Option KLog → Bool
  | some a, some e => kStays a e
  | none, some _ => true
  | _, none => false
noncomputable def kCheck (log : List (Nat × Option KLog)) : List (Nat × Nat) → Bool
  | [] => true
  | (i, q) :: r =>
    (match kLookLog log i, kLookLog log q with
     | some a, some e => kPairOk a e
     | _, _ => false) && kCheck log r
noncomputable def G (t : AVal) (want : Bool) (a b : KJ) : KJ :=
  match t with
  | .bool x => ifB (ifB want x (ifB x false true)) a b
  | .tuple [] => b
  | _ => .no
noncomputable def kiter (n : Nat) (f : List AVal → TH → KJ) : List AVal → TH → KJ :=
  Nat.rec (motive := fun _ => List AVal → TH → KJ) (fun _ _ => .no)
    (fun _ ih xs h => Jn (f xs h) fun i ys h' => ifB (Nat.beq i 0) (ih ys h') (.out i ys h')) n
noncomputable def Lp (f : List AVal → TH → KJ) (xs : List AVal) (h : TH) : KJ := kiter 1000000 f xs h
noncomputable def ans (x : KJ) : KR := KJ.rec .no (fun _ xs h => List.rec .no (fun v r _ => List.rec (.yes v h) (fun _ _ _ => .no) r) xs) x
noncomputable def U0 (f : KJ) (xs : List AVal) : KJ := List.rec f (fun _ _ _ => .no) xs
noncomputable def U1 (f : AVal → KJ) (xs : List AVal) : KJ := List.rec .no (fun a r _ => U0 (f a) r) xs
noncomputable def U2 (f : AVal → AVal → KJ) (xs : List AVal) : KJ := List.rec .no (fun a r _ => U1 (f a) r) xs
noncomputable def U3 (f : AVal → AVal → AVal → KJ) (xs : List AVal) : KJ := List.rec .no (fun a r _ => U2 (f a) r) xs
noncomputable def U4 (f : AVal → AVal → AVal → AVal → KJ) (xs : List AVal) : KJ := List.rec .no (fun a r _ => U3 (f a) r) xs
noncomputable def U5 (f : AVal → AVal → AVal → AVal → AVal → KJ) (xs : List AVal) : KJ := List.rec .no (fun a r _ => U4 (f a) r) xs
noncomputable def U6 (f : AVal → AVal → AVal → AVal → AVal → AVal → KJ) (xs : List AVal) : KJ := List.rec .no (fun a r _ => U5 (f a) r) xs
noncomputable def U7 (f : AVal → AVal → AVal → AVal → AVal → AVal → AVal → KJ) (xs : List AVal) : KJ := List.rec .no (fun a r _ => U6 (f a) r) xs
noncomputable def U8 (f : AVal → AVal → AVal → AVal → AVal → AVal → AVal → AVal → KJ) (xs : List AVal) : KJ := List.rec .no (fun a r _ => U7 (f a) r) xs
noncomputable def U9 (f : AVal → AVal → AVal → AVal → AVal → AVal → AVal → AVal → AVal → KJ) (xs : List AVal) : KJ := List.rec .no (fun a r _ => U8 (f a) r) xs
noncomputable def U10 (f : AVal → AVal → AVal → AVal → AVal → AVal → AVal → AVal → AVal → AVal → KJ) (xs : List AVal) : KJ := List.rec .no (fun a r _ => U9 (f a) r) xs
noncomputable def U11 (f : AVal → AVal → AVal → AVal → AVal → AVal → AVal → AVal → AVal → AVal → AVal → KJ) (xs : List AVal) : KJ := List.rec .no (fun a r _ => U10 (f a) r) xs
noncomputable def U12 (f : AVal → AVal → AVal → AVal → AVal → AVal → AVal → AVal → AVal → AVal → AVal → AVal → KJ) (xs : List AVal) : KJ := List.rec .no (fun a r _ => U11 (f a) r) xs
noncomputable def U13 (f : AVal → AVal → AVal → AVal → AVal → AVal → AVal → AVal → AVal → AVal → AVal → AVal → AVal → KJ) (xs : List AVal) : KJ := List.rec .no (fun a r _ => U12 (f a) r) xs
noncomputable def U14 (f : AVal → AVal → AVal → AVal → AVal → AVal → AVal → AVal → AVal → AVal → AVal → AVal → AVal → AVal → KJ) (xs : List AVal) : KJ := List.rec .no (fun a r _ => U13 (f a) r) xs
noncomputable def U15 (f : AVal → AVal → AVal → AVal → AVal → AVal → AVal → AVal → AVal → AVal → AVal → AVal → AVal → AVal → AVal → KJ) (xs : List AVal) : KJ := List.rec .no (fun a r _ => U14 (f a) r) xs
noncomputable def U16 (f : AVal → AVal → AVal → AVal → AVal → AVal → AVal → AVal → AVal → AVal → AVal → AVal → AVal → AVal → AVal → AVal → KJ) (xs : List AVal) : KJ := List.rec .no (fun a r _ => U15 (f a) r) xs
noncomputable def U17 (f : AVal → AVal → AVal → AVal → AVal → AVal → AVal → AVal → AVal → AVal → AVal → AVal → AVal → AVal → AVal → AVal → AVal → KJ) (xs : List AVal) : KJ := List.rec .no (fun a r _ => U16 (f a) r) xs
noncomputable def U18 (f : AVal → AVal → AVal → AVal → AVal → AVal → AVal → AVal → AVal → AVal → AVal → AVal → AVal → AVal → AVal → AVal → AVal → AVal → KJ) (xs : List AVal) : KJ := List.rec .no (fun a r _ => U17 (f a) r) xs
noncomputable def U19 (f : AVal → AVal → AVal → AVal → AVal → AVal → AVal → AVal → AVal → AVal → AVal → AVal → AVal → AVal → AVal → AVal → AVal → AVal → AVal → KJ) (xs : List AVal) : KJ := List.rec .no (fun a r _ => U18 (f a) r) xs
noncomputable def U20 (f : AVal → AVal → AVal → AVal → AVal → AVal → AVal → AVal → AVal → AVal → AVal → AVal → AVal → AVal → AVal → AVal → AVal → AVal → AVal → AVal → KJ) (xs : List AVal) : KJ := List.rec .no (fun a r _ => U19 (f a) r) xs
noncomputable def U21 (f : AVal → AVal → AVal → AVal → AVal → AVal → AVal → AVal → AVal → AVal → AVal → AVal → AVal → AVal → AVal → AVal → AVal → AVal → AVal → AVal → AVal → KJ) (xs : List AVal) : KJ := List.rec .no (fun a r _ => U20 (f a) r) xs
noncomputable def U22 (f : AVal → AVal → AVal → AVal → AVal → AVal → AVal → AVal → AVal → AVal → AVal → AVal → AVal → AVal → AVal → AVal → AVal → AVal → AVal → AVal → AVal → AVal → KJ) (xs : List AVal) : KJ := List.rec .no (fun a r _ => U21 (f a) r) xs
noncomputable def U23 (f : AVal → AVal → AVal → AVal → AVal → AVal → AVal → AVal → AVal → AVal → AVal → AVal → AVal → AVal → AVal → AVal → AVal → AVal → AVal → AVal → AVal → AVal → AVal → KJ) (xs : List AVal) : KJ := List.rec .no (fun a r _ => U22 (f a) r) xs
noncomputable def U24 (f : AVal → AVal → AVal → AVal → AVal → AVal → AVal → AVal → AVal → AVal → AVal → AVal → AVal → AVal → AVal → AVal → AVal → AVal → AVal → AVal → AVal → AVal → AVal → AVal → KJ) (xs : List AVal) : KJ := List.rec .no (fun a r _ => U23 (f a) r) xs
noncomputable def U25 (f : AVal → AVal → AVal → AVal → AVal → AVal → AVal → AVal → AVal → AVal → AVal → AVal → AVal → AVal → AVal → AVal → AVal → AVal → AVal → AVal → AVal → AVal → AVal → AVal → AVal → KJ) (xs : List AVal) : KJ := List.rec .no (fun a r _ => U24 (f a) r) xs
noncomputable def U26 (f : AVal → AVal → AVal → AVal → AVal → AVal → AVal → AVal → AVal → AVal → AVal → AVal → AVal → AVal → AVal → AVal → AVal → AVal → AVal → AVal → AVal → AVal → AVal → AVal → AVal → AVal → KJ) (xs : List AVal) : KJ := List.rec .no (fun a r _ => U25 (f a) r) xs
noncomputable def U27 (f : AVal → AVal → AVal → AVal → AVal → AVal → AVal → AVal → AVal → AVal → AVal → AVal → AVal → AVal → AVal → AVal → AVal → AVal → AVal → AVal → AVal → AVal → AVal → AVal → AVal → AVal → AVal → KJ) (xs : List AVal) : KJ := List.rec .no (fun a r _ => U26 (f a) r) xs
noncomputable def U28 (f : AVal → AVal → AVal → AVal → AVal → AVal → AVal → AVal → AVal → AVal → AVal → AVal → AVal → AVal → AVal → AVal → AVal → AVal → AVal → AVal → AVal → AVal → AVal → AVal → AVal → AVal → AVal → AVal → KJ) (xs : List AVal) : KJ := List.rec .no (fun a r _ => U27 (f a) r) xs
noncomputable def U29 (f : AVal → AVal → AVal → AVal → AVal → AVal → AVal → AVal → AVal → AVal → AVal → AVal → AVal → AVal → AVal → AVal → AVal → AVal → AVal → AVal → AVal → AVal → AVal → AVal → AVal → AVal → AVal → AVal → AVal → KJ) (xs : List AVal) : KJ := List.rec .no (fun a r _ => U28 (f a) r) xs
noncomputable def U30 (f : AVal → AVal → AVal → AVal → AVal → AVal → AVal → AVal → AVal → AVal → AVal → AVal → AVal → AVal → AVal → AVal → AVal → AVal → AVal → AVal → AVal → AVal → AVal → AVal → AVal → AVal → AVal → AVal → AVal → AVal → KJ) (xs : List AVal) : KJ := List.rec .no (fun a r _ => U29 (f a) r) xs
end Go.Fw.K
namespace Go.Fw.K
open Go.Fw
structure KEnv where
  vals : List (Nat × AVal)
  lads : List (Nat × Nat × Nat)
  locs : List (Nat × List AVal)
  log : List (Nat × Option KLog)
  base : Nat
namespace KEnv
def get (s : KEnv) (t : Nat) : AVal := match lookA s.lads t with | some _ => .undef | none => look s.vals t
def ev (s : KEnv) : AOpd → AVal
  | .tmp t => s.get t
  | .const v => v
def lad (s : KEnv) : AOpd → Option (Nat × Nat)
  | .tmp t => lookA s.lads t
  | .const _ => none
def set (s : KEnv) (d : Nat) (v : AVal) : KEnv := { s with vals := (d, v) :: s.vals, lads := dropA s.lads d }
def setL (s : KEnv) (d l off : Nat) : KEnv := { s with lads := (d, l, off) :: s.lads }
def newLoc (s : KEnv) (d : Nat) (cs : List AVal) : KEnv := { s with lads := (d, d, 0) :: s.lads, locs := (d, cs) :: s.locs }
def fresh (s : KEnv) (d : Nat) : Bool := match lookB s.locs d with | some _ => false | none => true
def addLog (s : KEnv) (i : Nat) (l : Option KLog) : KEnv := { s with log := (i, l) :: s.log }
def noLog (s : KEnv) : KEnv := { s with log := [] }
def upd (s : KEnv) (dsts live : List Nat) (xs : List AVal) : KEnv :=
  { s with vals := (live.zipIdx.map fun p => (p.1, xs.getD p.2 .undef)) ++ (dsts.map fun d => (d, .undef)) ++ s.vals, lads := dropAs s.lads dsts }
def noLads (s : KEnv) (live : List Nat) : Bool := live.all fun t => match lookA s.lads t with | none => true | some _ => false
def vout (s : KEnv) (live : List Nat) : List AVal := live.map s.get
def locOut (s : KEnv) : List Nat → Option (List AVal)
  | [] => some []
  | l :: r => match lookB s.locs l, lookA s.lads l with | some cs, some (l', 0) => bif Nat.beq l l' then (locOut s r).bind fun vs => some (.agg cs :: vs) else none | _, _ => none
def out (s : KEnv) (live : Live) : Option (List AVal) := (s.locOut live.locs).bind fun cs => some (live.vals.map s.get ++ cs)
end KEnv
noncomputable def kMk (live : Live) (xs : List AVal) : KEnv :=
  { vals := live.vals.zipIdx.map fun p => (p.1, xs.getD p.2 .undef)
    lads := live.locs.map fun l => (l, l, 0)
    locs := live.locs.zipIdx.map fun p => (p.1, kAggCells (xs.getD (live.vals.length + p.2) .undef))
    log := [], base := 0 }
noncomputable def un (n : Nat) : (List AVal → KJ) → List AVal → KJ :=
  Nat.rec (motive := fun _ => (List AVal → KJ) → List AVal → KJ) (fun k xs => List.rec (k []) (fun _ _ _ => .no) xs)
    (fun _ ih k xs => List.rec .no (fun a r _ => ih (fun l => k (a :: l)) r) xs) n
noncomputable def kLogOf (o : AOp) (s : KEnv) (h : TH) (s' : KEnv) (h' : TH) : Option KLog :=
  match o with
  | .load _ _ n x =>
    match s.lad x with
    | some (l, off) => some (.lrd l off n)
    | none => kLogRd (s.ev x) n
  | .conv _ .bytesStr x => kLogBs (s.ev x)
  | .box d true _ | .alloc d true _ => some (.lal d)
  | .box _ false _ | .alloc _ false _ | .buildSl .. | .mkSlice .. | .conv _ .strBytes _ => some (.al h.next)
  | .store .. | .call .. | .callv .. | .invoke .. | .append .. | .copy .. | .clear .. | .conv _ .slBytes _ => some (.ef s.locs h s'.locs h')
  | _ => none
abbrev KK := KEnv → TH → KJ
noncomputable def kStep (call : TCall) (g : Bool) (o : AOp) (s : KEnv) (h : TH) (k : KK) : KJ :=
  match o with
  | .mov d x => (match s.lad x with | some (l, o) => k (s.setL d l o) h | none => k (s.set d (s.ev x)) h)
  | .pick d c a b => V (kPick (s.ev c) (s.ev a) (s.ev b)) fun v => k (s.set d v) h
  | .bin d op tag x y => V (kBin op tag (s.ev x) (s.ev y)) fun v => k (s.set d v) h
  | .un d op x => V (kUn op (s.ev x)) fun v => k (s.set d v) h
  | .conv d (.toInt ki) x => V (kToInt ki (s.ev x)) fun v => k (s.set d v) h
  | .conv d .strBytes x => R (kBytes (s.ev x) h) fun v h' => k (s.set d v) h'
  | .conv d .bytesStr x => V (kStr (s.ev x) h) fun v => k (s.set d v) h
  | .conv d .strStr x => V (kStrStr (s.ev x)) fun v => k (s.set d v) h
  | .conv d .intStr x => V (kIntStr (s.ev x)) fun v => k (s.set d v) h
  | .conv d .slBytes x => V (kSlBytes (s.ev x) h) fun v => k (s.set d v) h
  | .box d true x => bif !g && s.fresh d then V (kCellsQ (s.ev x)) fun cs => k (s.newLoc d cs) h else .no
  | .box d false x => V (kCellsQ (s.ev x)) fun cs => k (s.set d (.ptr h.next 0)) (h.alloc cs)
  | .alloc d true zero => bif !g && s.fresh d then k (s.newLoc d zero) h else .no
  | .alloc d false zero => k (s.set d (.ptr h.next 0)) (h.alloc zero)
  | .build d zero parts => V (aFill zero (parts.map fun p => (p.1, p.2.1, s.ev p.2.2))) fun cs => k (s.set d (.agg cs)) h
  | .buildSl d zero es len parts =>
    V (aFill (reps zero len) (parts.map fun p => (p.1 * es, es, s.ev p.2))) fun cs => k (s.set d (.slice h.next 0 len len es true)) (h.alloc cs)
  | .load d agg n x =>
    (match s.lad x with
     | some (l, off) => (match lookB s.locs l with | some cs => V (kLdL cs agg off n) fun v => k (s.set d v) h | none => .no)
     | none => V (kLoad h agg n (s.ev x)) fun v => k (s.set d v) h)
  | .store _ n x v =>
    (match s.lad x with
     | some (l, off) => bif !g then (match lookB s.locs l with | some old => V (kStL old off n (s.ev v)) fun cs => k { s with locs := setB s.locs l cs } h | none => .no) else .no
     | none => V (kSt h n (s.ev x) (s.ev v)) fun h' => k s h')
  | .nilchk d x => (match s.lad x with | some (l, o) => k (s.setL d l o) h | none => V (kNil (s.ev x)) fun v => k (s.set d v) h)
  | .field d agg off n x => V (kField agg off n (s.ev x)) fun v => k (s.set d v) h
  | .faddr d off x => (match s.lad x with | some (l, o) => k (s.setL d l (o + off)) h | none => V (kFaddr off (s.ev x)) fun v => k (s.set d v) h)
  | .iaddr d (some len) es x i =>
    (match s.lad x with
     | some (l, o) => V (kIx len (s.ev i)) fun j => k (s.setL d l (o + j * es)) h
     | none => V (kIaddrA len es (s.ev x) (s.ev i)) fun v => k (s.set d v) h)
  | .iaddr d none es x i => V (kIaddr es (s.ev x) (s.ev i)) fun v => k (s.set d v) h
  | .index d .str x i => V (kIndexStr (s.ev x) (s.ev i)) fun v => k (s.set d v) h
  | .index d (.arr len es agg) x i => V (kIndexArr len es agg (s.ev x) (s.ev i)) fun v => k (s.set d v) h
  | .slice d .str x lo hi _ => V (kSlStr (s.ev x) (lo.map s.ev) (hi.map s.ev)) fun v => k (s.set d v) h
  | .slice d (.sl es) x lo hi mx => V (kSlSl es (s.ev x) (lo.map s.ev) (hi.map s.ev) (mx.map s.ev)) fun v => k (s.set d v) h
  | .slice _ (.arr _ _) _ _ _ _ => .no
  | .mkSlice d es bytes zero len cap => R (kMkSlice es bytes zero (s.ev len) (s.ev cap) h) fun v h' => k (s.set d v) h'
  | .mkIface d t x => k (s.set d (.iface t (s.ev x))) h
  | .extract d x i => V (kExtract i (s.ev x)) fun v => k (s.set d v) h
  | .tassert d tbl x => V (aAssert tbl (s.ev x)) fun v => k (s.set d v) h
  | .mkFunc d f caps => k (s.set d (.func f (caps.map s.ev))) h
  | .call d f args => R (call f (args.map s.ev) h) fun v h' => k (s.set d v) h'
  | .callv d fn args => V (kFn (s.ev fn)) fun q => R (call q.1 (args.map s.ev ++ q.2) h) fun v h' => k (s.set d v) h'
  | .invoke d tbl recv args => V (kMeth tbl (s.ev recv)) fun q => R (call q.1 (q.2 :: args.map s.ev) h) fun v h' => k (s.set d v) h'
  | .append d es bytes zero zeros sl x => R (kAppend es bytes zero zeros (s.ev sl) (s.ev x) h) fun v h' => k (s.set d v) h'
  | .copy d es dst src => R (kCopy es (s.ev dst) (s.ev src) h) fun v h' => k (s.set d v) h'
  | .clear _ zero sl => R (kClear zero (s.ev sl) h) fun _ h' => k s h'
  | .len d str x => V (kLen str (s.ev x)) fun v => k (s.set d v) h
  | .cap d x => V (aCap (s.ev x)) fun v => k (s.set d v) h
  | .minmax d mx xs => V (aMinMaxL mx (xs.map s.ev)) fun v => k (s.set d v) h
  | .fl d j none zero _ => k (s.set d (.ptr (s.base + j) 0)) (h.setBlk (s.base + j) (some ⟨zero, true⟩))
  | .fl d j (some (es, len)) zero parts => V (aFill (reps zero len) (parts.map fun p => (p.1 * es, es, s.ev p.2))) fun cs => k (s.set d (.slice (s.base + j) 0 len len es true)) (h.setBlk (s.base + j) (some ⟨cs, true⟩))
noncomputable def kChk (log : List (Nat × Option KLog)) (ps : List (Nat × Nat)) (x : KJ) : KJ := match ps with | [] => x | _ :: _ => ifB (kCheck log ps) x .no
mutual
noncomputable def kItem (call : TCall) (g : Bool) (pairs : List (Nat × Nat)) : AItem → KEnv → TH → KK → KJ
  | .op i o, s, h, k => kStep call g o s h fun s' h' => k (bif inPairs pairs i then s'.addLog i (kLogOf o s h s' h') else s') h'
  | .guard t want items ps live, s, h, k =>
    Jn (G (s.get t) want
      (kItems call true ps items s.noLog h fun s' h' => bif s'.noLads live then kChk s'.log ps (.out 0 (s'.vout live) h') else .no)
      (.out 0 (live.map fun _ => skipV) h)) fun _ xs h' => un live.length (fun ys => k (s.upd (itemsDsts items) live ys) h') xs
noncomputable def kItems (call : TCall) (g : Bool) (pairs : List (Nat × Nat)) : List AItem → KEnv → TH → KK → KJ
  | [], s, h, k => k s h
  | x :: xs, s, h, k => kItem call g pairs x s h fun s' h' => kItems call g pairs xs s' h' k
end
noncomputable def kleave (alts : List (AExit × Live)) (base : Nat) (e : AExit) (s : KEnv) (h : TH) : KJ :=
  match altOf e alts base with
  | some (i, l) => (match s.out l with | some xs => .out i xs h | none => .no)
  | none => .no
abbrev KE := AExit → KEnv → TH → KJ
noncomputable def kenter : List (AExit × Live) → Nat → KE → Nat → List AVal → TH → KJ
  | [], _, _, _, _, _ => .no
  | (e, l) :: r, base, k, i, xs, h => ifB (Nat.beq i base) (un (l.vals.length + l.locs.length) (fun ys => k e (kMk l ys) h) xs) (kenter r (base + 1) k i xs h)
noncomputable def kloopK (live : Live) (alts : List (AExit × Live)) (e : AExit) (s : KEnv) (h : TH) : KJ :=
  match e with
  | .normal => (match s.out live with | some ys => .out 0 ys h | none => .no)
  | e => kleave alts 1 e s h
noncomputable def kC (call : TCall) : ACode → KEnv → TH → KE → KJ
  | .skip, s, h, k => k .normal s h
  | .region items pairs, s, h, k => kItems call false pairs items s.noLog h fun s' h' => kChk s'.log pairs (k .normal s'.noLog h')
  | .regionF m items pairs, s, h, k => kItems call false pairs items { s.noLog with base := h.next } (h.res m) fun s' h' => kChk s'.log pairs (k .normal s'.noLog h')
  | .seq a b, s, h, k => kC call a s h fun e s' h' => match e with | .normal => kC call b s' h' k | e => k e s' h'
  | .cond c a b, s, h, k => C (s.ev c) (kC call a s h k) (kC call b s h k)
  | .block id c, s, h, k => kC call c s h fun e s' h' => match e with | .exit i => bif Nat.beq i id then k .normal s' h' else k (.exit i) s' h' | e => k e s' h'
  | .loop live alts c, s, h, k =>
    match s.out live with
    | some xs => Jn (Lp (fun xs h => un (live.vals.length + live.locs.length) (fun ys => kC call c (kMk live ys) h (kloopK live alts)) xs) xs h) fun i ys h' => kenter alts 1 k i ys h'
    | none => .no
  | .join alts c, s, h, k => Jn (kC call c s h fun e s' h' => kleave alts 0 e s' h') fun i ys h' => kenter alts 0 k i ys h'
  | .exit id, s, h, k => k (.exit id) s h
  | .ret, s, h, k => k .ret s h
  | .dead, _, _, _ => .no
noncomputable def kRes (s : KEnv) (h : TH) (k : List AVal → KJ) : List ARes → KJ
  | [] => k []
  | .tmp t :: rs => kRes s h (fun vs => k (s.get t :: vs)) rs
  | .cell t agg n :: rs =>
    match s.lad (.tmp t) with
    | some (l, off) => (match lookB s.locs l with | some cs => V (kLdL cs agg off n) fun v => kRes s h (fun vs => k (v :: vs)) rs | none => .no)
    | none => V (kLoad h agg n (s.get t)) fun v => kRes s h (fun vs => k (v :: vs)) rs
noncomputable def kend (res : List ARes) (e : AExit) (s : KEnv) (h : TH) : KJ :=
  match e with
  | .exit _ => .no
  | _ => kRes s h (fun vs => .out 0 [oneOr vs] h) res
noncomputable def unR (n : Nat) : (List AVal → KJ) → List AVal → KJ := un n
noncomputable def kFunc (call : TCall) (f : AFunc) (args : List AVal) (h : TH) : KR :=
  ans (un f.nargs (fun ys => kC call f.body { vals := ys.zipIdx.map fun p => (p.2, p.1), lads := [], locs := [], log := [], base := 0 } h (kend f.results)) args)
end Go.Fw.K
namespace Go.Fw.K
open Go.Fw
def laneOf (j : Nat) (c : List AVal) : AVal := match c.getD (j % c.length) .undef with | .int k n => .int k n | .str s => .str s | .bool b => .bool b | _ => .int .i64 0
mutual
def rep (j : Nat) : AVal → AVal
  | .func f c => bif Nat.beq f VF then laneOf j c else .func f (repL j c)
  | .iface t v => .iface t (rep j v)
  | .agg cs => .agg (repL j cs)
  | .tuple vs => .tuple (repL j vs)
  | .undef => .undef
  | .bool b => .bool b
  | .int k n => .int k n
  | .str l => .str l
  | .nilPtr => .nilPtr
  | .ptr b o => .ptr b o
  | .nilSlice => .nilSlice
  | .slice a b c d e f => .slice a b c d e f
  | .nilFunc => .nilFunc
  | .nilIface => .nilIface
def repL (j : Nat) : List AVal → List AVal
  | [] => []
  | a :: l => rep j a :: repL j l
end
variable {j : Nat}
theorem repL_map (l : List AVal) : repL j l = l.map (rep j) := by induction l with | nil => rfl | cons a l ih => simp [repL, ih]
@[simp] theorem rep_bool (b : Bool) : rep j (.bool b) = .bool b := by simp [rep]
@[simp] theorem rep_int (k : IntKind) (n : Int) : rep j (.int k n) = .int k n := by simp [rep]
@[simp] theorem rep_str (l : List UInt8) : rep j (.str l) = .str l := by simp [rep]
@[simp] theorem rep_undef : rep j .undef = .undef := by simp [rep]
@[simp] theorem rep_nilPtr : rep j .nilPtr = .nilPtr := by simp [rep]
@[simp] theorem rep_ptr (b o : Nat) : rep j (.ptr b o) = .ptr b o := by simp [rep]
@[simp] theorem rep_nilSlice : rep j .nilSlice = .nilSlice := by simp [rep]
@[simp] theorem rep_slice (a b c d e : Nat) (f : Bool) : rep j (.slice a b c d e f) = .slice a b c d e f := by simp [rep]
@[simp] theorem rep_nilFunc : rep j .nilFunc = .nilFunc := by simp [rep]
@[simp] theorem rep_nilIface : rep j .nilIface = .nilIface := by simp [rep]
@[simp] theorem rep_agg (l : List AVal) : rep j (.agg l) = .agg (repL j l) := by simp [rep]
@[simp] theorem rep_tuple (l : List AVal) : rep j (.tuple l) = .tuple (repL j l) := by simp [rep]
@[simp] theorem rep_iface (t : Nat) (v : AVal) : rep j (.iface t v) = .iface t (rep j v) := by simp [rep]
theorem rep_func {f : Nat} (h : Nat.beq f VF = false) (c : List AVal) : rep j (.func f c) = .func f (repL j c) := by simp [rep, h]
theorem rep_lanes {f : Nat} (h : Nat.beq f VF = true) (c : List AVal) : rep j (.func f c) = laneOf j c := by simp [rep, h]
theorem laneOf_leaf (c : List AVal) : (∃ k n, laneOf j c = .int k n) ∨ (∃ s, laneOf j c = .str s) ∨ (∃ b, laneOf j c = .bool b) := by unfold laneOf; split <;> simp
@[simp] theorem repL_nil : repL j [] = [] := rfl
@[simp] theorem repL_cons (a : AVal) (l : List AVal) : repL j (a :: l) = rep j a :: repL j l := rfl
@[simp] theorem repL_length (l : List AVal) : (repL j l).length = l.length := by simp [repL_map]
@[simp] theorem repL_append (l m : List AVal) : repL j (l ++ m) = repL j l ++ repL j m := by simp [repL_map]
theorem repL_take (l : List AVal) (n : Nat) : repL j (l.take n) = (repL j l).take n := by simp [repL_map, List.map_take]
theorem repL_drop (l : List AVal) (n : Nat) : repL j (l.drop n) = (repL j l).drop n := by simp [repL_map, List.map_drop]
theorem repL_splice (l vs : List AVal) (off : Nat) : repL j (splice l off vs) = splice (repL j l) off (repL j vs) := by simp [splice, repL_take, repL_drop]
theorem repL_getD (l : List AVal) (i : Nat) : rep j (l.getD i .undef) = (repL j l).getD i .undef := by
  rw [repL_map, List.getD_eq_getElem?_getD, List.getD_eq_getElem?_getD, List.getElem?_map]
  cases l[i]? <;> simp
theorem repL_get? (l : List AVal) (i : Nat) : (repL j l)[i]? = (l[i]?).map (rep j) := by rw [repL_map, List.getElem?_map]
theorem repL_byteCells (l : List UInt8) : repL j (byteCells l) = byteCells l := by
  unfold byteCells; rw [repL_map, List.map_map]; apply List.map_congr_left; intro b _; simp
theorem repL_reps (z : List AVal) (n : Nat) : repL j (reps z n) = reps (repL j z) n := by induction n with | zero => rfl | succ n ih => simp [reps, ih]
mutual
def pv : AVal → Bool
  | .func f c => !(Nat.beq f VF) && pvL c
  | .iface _ v => pv v
  | .agg cs => pvL cs
  | .tuple vs => pvL vs
  | _ => true
def pvL : List AVal → Bool
  | [] => true
  | a :: l => pv a && pvL l
end
mutual
theorem pv_rep : ∀ v : AVal, pv v = true → rep j v = v
  | .func f c, h => by
    simp only [pv, Bool.and_eq_true, Bool.not_eq_true'] at h
    rw [rep_func h.1, pvL_rep c h.2]
  | .iface t v, h => by simp only [pv] at h; rw [rep_iface, pv_rep v h]
  | .agg cs, h => by simp only [pv] at h; rw [rep_agg, pvL_rep cs h]
  | .tuple cs, h => by simp only [pv] at h; rw [rep_tuple, pvL_rep cs h]
  | .undef, _ => by simp
  | .bool _, _ => by simp
  | .int _ _, _ => by simp
  | .str _, _ => by simp
  | .nilPtr, _ => by simp
  | .ptr _ _, _ => by simp
  | .nilSlice, _ => by simp
  | .slice .., _ => by simp
  | .nilFunc, _ => by simp
  | .nilIface, _ => by simp
theorem pvL_rep : ∀ l : List AVal, pvL l = true → repL j l = l
  | [], _ => rfl
  | a :: l, h => by
    simp only [pvL, Bool.and_eq_true] at h
    rw [repL_cons, pv_rep a h.1, pvL_rep l h.2]
end
theorem ifB_eq {α : Type} (b : Bool) (x y : α) : ifB b x y = bif b then x else y := by cases b <;> rfl
theorem VO_eq {α β : Type} (x : Option α) (f : α → Option β) : VO x f = x.bind f := by cases x <;> rfl
theorem VO_some {α β : Type} {x : Option α} {f : α → Option β} {b : β} (h : VO x f = some b) : ∃ a, x = some a ∧ f a = some b := by
  cases x with
  | none => cases h
  | some a => exact ⟨a, rfl, h⟩
theorem VR_yes {α : Type} {x : Option α} {f : α → KR} {v : AVal} {t : TH} (h : VR x f = .yes v t) : ∃ a, x = some a ∧ f a = .yes v t := by
  cases x with
  | none => cases h
  | some a => exact ⟨a, rfl, h⟩
theorem ifB_some {α : Type} {b : Bool} {x : Option α} {a : α} (h : ifB b x none = some a) : b = true ∧ x = some a := by
  cases b with
  | false => cases h
  | true => exact ⟨rfl, h⟩
theorem ifB_yes {b : Bool} {x : KR} {v : AVal} {t : TH} (h : ifB b x .no = .yes v t) : b = true ∧ x = .yes v t := by
  cases b with
  | false => cases h
  | true => exact ⟨rfl, h⟩
theorem onInt_some {α : Type} {x : AVal} {f : IntKind → Int → Option α} {a : α} (h : onInt x none f = some a) : ∃ k n, x = .int k n ∧ f k n = some a := by
  cases x <;> first | exact ⟨_, _, rfl, h⟩ | cases h
theorem onPtr_some {α : Type} {x : AVal} {f : Nat → Nat → Option α} {a : α} (h : onPtr x none f = some a) : ∃ b o, x = .ptr b o ∧ f b o = some a := by
  cases x <;> first | exact ⟨_, _, rfl, h⟩ | cases h
theorem onSl_some {α : Type} {x : AVal} {f : Nat → Nat → Nat → Nat → Nat → Bool → Option α} {a : α} (h : onSl x none f = some a) : ∃ b o l c e q, x = .slice b o l c e q ∧ f b o l c e q = some a := by
  cases x <;> first | exact ⟨_, _, _, _, _, _, rfl, h⟩ | cases h
theorem onAgg_some {α : Type} {x : AVal} {f : List AVal → Option α} {a : α} (h : onAgg x none f = some a) : ∃ l, x = .agg l ∧ f l = some a := by
  cases x <;> first | exact ⟨_, rfl, h⟩ | cases h
theorem onTup_some {α : Type} {x : AVal} {f : List AVal → Option α} {a : α} (h : onTup x none f = some a) : ∃ l, x = .tuple l ∧ f l = some a := by
  cases x <;> first | exact ⟨_, rfl, h⟩ | cases h
theorem onFn_some {α : Type} {x : AVal} {f : Nat → List AVal → Option α} {a : α} (h : onFn x none f = some a) : ∃ g c, x = .func g c ∧ f g c = some a := by
  cases x <;> first | exact ⟨_, _, rfl, h⟩ | cases h
theorem takeN_eq : ∀ (n : Nat) (l q : List AVal), takeN n l = some q → n ≤ l.length ∧ q = l.take n
  | 0, l, q, h => by cases h; simp
  | n + 1, [], q, h => by cases h
  | n + 1, a :: l, q, h => by
    obtain ⟨r, hr, h'⟩ := VO_some (show VO (takeN n l) (fun q => some (a :: q)) = some q from h)
    cases h'
    obtain ⟨h1, h2⟩ := takeN_eq n l r hr
    exact ⟨by simp; omega, by simp [h2]⟩
theorem cut_eq : ∀ (off : Nat) (l : List AVal) (n : Nat) (q : List AVal), cut l off n = some q → off + n ≤ l.length ∧ q = (l.drop off).take n
  | 0, l, n, q, h => by
    obtain ⟨h1, h2⟩ := takeN_eq n l q h
    exact ⟨by omega, by simpa using h2⟩
  | off + 1, [], n, q, h => by cases h
  | off + 1, a :: l, n, q, h => by
    obtain ⟨h1, h2⟩ := cut_eq off l n q h
    exact ⟨by simp; omega, by simpa using h2⟩
theorem nth_eq : ∀ (off : Nat) (l : List AVal) (v : AVal), nth l off = some v → l[off]? = some v
  | 0, [], v, h => by cases h
  | 0, a :: l, v, h => by cases h; rfl
  | off + 1, [], v, h => by cases h
  | off + 1, a :: l, v, h => by simpa using nth_eq off l v h
theorem lay_eq : ∀ (vs l q : List AVal), lay vs l = some q → vs.length ≤ l.length ∧ q = vs ++ l.drop vs.length
  | [], l, q, h => by cases h; simp
  | v :: vs, [], q, h => by cases h
  | v :: vs, a :: l, q, h => by
    obtain ⟨r, hr, h'⟩ := VO_some (show VO (lay vs l) (fun q => some (v :: q)) = some q from h)
    cases h'
    obtain ⟨h1, h2⟩ := lay_eq vs l r hr
    exact ⟨by simp; omega, by simp [h2]⟩
theorem layAt_eq : ∀ (off : Nat) (l vs q : List AVal), layAt l off vs = some q → off + vs.length ≤ l.length ∧ q = splice l off vs
  | 0, l, vs, q, h => by
    obtain ⟨h1, h2⟩ := lay_eq vs l q h
    exact ⟨by omega, by simp [splice, h2]⟩
  | off + 1, [], vs, q, h => by cases h
  | off + 1, a :: l, vs, q, h => by
    obtain ⟨r, hr, h'⟩ := VO_some (show VO (layAt l off vs) (fun q => some (a :: q)) = some q from h)
    cases h'
    obtain ⟨h1, h2⟩ := layAt_eq off l vs r hr
    refine ⟨by simp; omega, ?_⟩
    rw [h2, splice, splice]
    simp [show off + 1 + vs.length = (off + vs.length) + 1 by omega]
namespace Tr
variable {α : Type}
theorem get_nil (k : Nat) : (Tr.nil : Tr α).get k = none := rfl
theorem get_node (v : Option α) (l r : Tr α) (k : Nat) : (Tr.node v l r).get k = bif Nat.beq k 0 then v else bif Nat.beq (k % 2) 1 then l.get (k / 2) else r.get (k / 2 - 1) := by
  show (Bool.rec (Bool.rec (r.get (k / 2 - 1)) (l.get (k / 2)) (Nat.beq (k % 2) 1)) v (Nat.beq k 0) : Option α) = _
  cases Nat.beq k 0 <;> cases Nat.beq (k % 2) 1 <;> rfl
theorem setF_nil (n k : Nat) (x : Option α) : setF (n + 1) .nil k x = bif Nat.beq k 0 then .node x .nil .nil else bif Nat.beq (k % 2) 1 then .node none (setF n .nil (k / 2) x) .nil else .node none .nil (setF n .nil (k / 2 - 1) x) := by
  show (Bool.rec (Bool.rec (.node none .nil (setF n .nil (k / 2 - 1) x)) (.node none (setF n .nil (k / 2) x) .nil) (Nat.beq (k % 2) 1)) (.node x .nil .nil) (Nat.beq k 0) : Tr α) = _
  cases Nat.beq k 0 <;> cases Nat.beq (k % 2) 1 <;> rfl
theorem setF_node (n k : Nat) (x v : Option α) (l r : Tr α) : setF (n + 1) (.node v l r) k x = bif Nat.beq k 0 then .node x l r else bif Nat.beq (k % 2) 1 then .node v (setF n l (k / 2) x) r else .node v l (setF n r (k / 2 - 1) x) := by
  show (Bool.rec (Bool.rec (.node v l (setF n r (k / 2 - 1) x)) (.node v (setF n l (k / 2) x) r) (Nat.beq (k % 2) 1)) (.node x l r) (Nat.beq k 0) : Tr α) = _
  cases Nat.beq k 0 <;> cases Nat.beq (k % 2) 1 <;> rfl
theorem get_setF : ∀ (n : Nat) (t : Tr α) (k : Nat) (x : Option α) (i : Nat), k < n → (setF n t k x).get i = if i = k then x else t.get i
  | 0, _, _, _, _, h => by omega
  | n + 1, t, k, x, i, h => by
    have e1 : ∀ (a b : Nat), Nat.beq a b = decide (a = b) := beq_dec
    cases t with
    | nil =>
      rw [setF_nil, e1, e1]
      by_cases hk : k = 0
      · simp only [hk, decide_true, cond_true, get_node, e1, get_nil]
        by_cases hi : i = 0 <;> simp [hi]
      · by_cases ho : k % 2 = 1
        · simp only [hk, ho, decide_true, decide_false, cond_true, cond_false, get_node, e1, get_nil]
          rw [get_setF n .nil (k / 2) x (i / 2) (by omega), get_nil]
          by_cases hi : i = 0
          · simp only [hi, decide_true, cond_true]; rw [if_neg (by omega)]
          · by_cases hio : i % 2 = 1
            · simp only [hi, hio, decide_true, decide_false, cond_true, cond_false]
              by_cases hik : i = k
              · rw [if_pos (by omega), if_pos hik]
              · rw [if_neg (by omega), if_neg hik]
            · simp only [hi, hio, decide_true, decide_false, cond_true, cond_false]
              rw [if_neg (by omega)]
        · simp only [hk, ho, decide_true, decide_false, cond_true, cond_false, get_node, e1, get_nil]
          rw [get_setF n .nil (k / 2 - 1) x (i / 2 - 1) (by omega), get_nil]
          by_cases hi : i = 0
          · simp only [hi, decide_true, cond_true]; rw [if_neg (by omega)]
          · by_cases hio : i % 2 = 1
            · simp only [hi, hio, decide_true, decide_false, cond_true, cond_false]
              rw [if_neg (by omega)]
            · simp only [hi, hio, decide_true, decide_false, cond_true, cond_false]
              by_cases hik : i = k
              · rw [if_pos (by omega), if_pos hik]
              · rw [if_neg (by omega), if_neg hik]
    | node v l r =>
      rw [setF_node, e1, e1]
      by_cases hk : k = 0
      · simp only [hk, decide_true, cond_true, get_node, e1]
        by_cases hi : i = 0 <;> simp [hi]
      · by_cases ho : k % 2 = 1
        · simp only [hk, ho, decide_true, decide_false, cond_true, cond_false, get_node, e1]
          rw [get_setF n l (k / 2) x (i / 2) (by omega)]
          by_cases hi : i = 0
          · simp only [hi, decide_true, cond_true]; rw [if_neg (by omega)]
          · by_cases hio : i % 2 = 1
            · simp only [hi, hio, decide_true, decide_false, cond_true, cond_false]
              by_cases hik : i = k
              · rw [if_pos (by omega), if_pos hik]
              · rw [if_neg (by omega), if_neg hik]
            · simp only [hi, hio, decide_true, decide_false, cond_true, cond_false]
              rw [if_neg (by omega)]
        · simp only [hk, ho, decide_true, decide_false, cond_true, cond_false, get_node, e1]
          rw [get_setF n r (k / 2 - 1) x (i / 2 - 1) (by omega)]
          by_cases hi : i = 0
          · simp only [hi, decide_true, cond_true]; rw [if_neg (by omega)]
          · by_cases hio : i % 2 = 1
            · simp only [hi, hio, decide_true, decide_false, cond_true, cond_false]
              rw [if_neg (by omega)]
            · simp only [hi, hio, decide_true, decide_false, cond_true, cond_false]
              by_cases hik : i = k
              · rw [if_pos (by omega), if_pos hik]
              · rw [if_neg (by omega), if_neg hik]
theorem get_set (t : Tr α) (k : Nat) (x : Option α) (i : Nat) : (t.set k x).get i = if i = k then x else t.get i := get_setF _ t k x i (Nat.lt_succ_self k)
end Tr
structure Sub (j : Nat) (t : TH) (h : Heap) : Prop where
  next : t.next = h.next
  blk : ∀ b x, t.m.get b = some x → h.blk b = some ⟨repL j x.cells, x.rw⟩
theorem Sub.alloc {t : TH} {h : Heap} (S : Sub j t h) (cs : List AVal) : Sub j (t.alloc cs) (h.alloc (repL j cs)) where
  next := by show t.next + 1 = h.next + 1; rw [S.next]
  blk := fun b x hx => by
    have hx' : (t.m.set t.next (some ⟨cs, true⟩)).get b = some x := hx
    rw [Tr.get_set] at hx'
    by_cases hb : b = t.next
    · rw [if_pos hb] at hx'
      cases hx'
      rw [hb, S.next]
      exact alloc_same h _
    · rw [if_neg hb] at hx'
      rw [alloc_old _ _ (by rw [← S.next]; exact hb)]
      exact S.blk b x hx'
theorem Sub.set {t : TH} {h : Heap} (S : Sub j t h) (b : Nat) (x : Option Blk) : Sub j (t.setBlk b x) (h.setBlk b (x.map fun y => ⟨repL j y.cells, y.rw⟩)) where
  next := S.next
  blk := fun c y hy => by
    have hy' : (t.m.set b x).get c = some y := hy
    rw [Tr.get_set] at hy'
    by_cases hc : c = b
    · rw [if_pos hc] at hy'
      rw [hc, setBlk_same, hy']
      rfl
    · rw [if_neg hc] at hy'
      rw [setBlk_ne _ _ hc]
      exact S.blk c y hy'
theorem Sub.res {t : TH} {h : Heap} (S : Sub j t h) (n : Nat) : Sub j (t.res n) (h.res n) where
  next := by show t.next + n = h.next + n; rw [S.next]
  blk := S.blk
theorem Sub.rd {t : TH} {h : Heap} (S : Sub j t h) {b off n : Nat} {cs : List AVal} (e : t.rd b off n = some cs) : h.rd b off n = some (repL j cs) := by
  obtain ⟨x, hx, hc⟩ := VO_some e
  obtain ⟨h1, h2⟩ := cut_eq off _ n cs hc
  rw [rd_of (S.blk b x hx) off n (by simpa using h1), h2, repL_take, repL_drop]
theorem Sub.rd1 {t : TH} {h : Heap} (S : Sub j t h) {b off : Nat} {v : AVal} (e : t.rd1 b off = some v) : h.rd b off 1 = some [rep j v] := by
  obtain ⟨x, hx, hc⟩ := VO_some e
  have h1 := nth_eq off _ v hc
  have hl : off < x.cells.length := by
    rcases Nat.lt_or_ge off x.cells.length with h | h
    · exact h
    · rw [List.getElem?_eq_none h] at h1; cases h1
  rw [rd_of (S.blk b x hx) off 1 (by simp; omega)]
  have h2 : (repL j x.cells)[off]? = some (rep j v) := by rw [repL_get?, h1]; rfl
  rw [show ((repL j x.cells).drop off) = rep j v :: (repL j x.cells).drop (off + 1) from by
    rw [List.drop_eq_getElem_cons (by simpa using hl)]
    congr 1
    rw [List.getElem?_eq_getElem (by simpa using hl)] at h2
    exact Option.some.inj h2]
  simp
theorem Sub.wr {t : TH} {h : Heap} (S : Sub j t h) {b off : Nat} {vs : List AVal} {t' : TH} (e : t.wr b off vs = some t') : ∃ h', h.wr b off (repL j vs) = some h' ∧ Sub j t' h' := by
  obtain ⟨x, hx, hc⟩ := VO_some e
  obtain ⟨hrw, hc⟩ := ifB_some hc
  obtain ⟨cs, hcs, hc⟩ := VO_some hc
  cases hc
  obtain ⟨h1, h2⟩ := layAt_eq off _ vs cs hcs
  have hb := S.blk b x hx
  rw [hrw] at hb
  refine ⟨_, wr_of hb off (repL j vs) (by simpa using h1), ?_⟩
  have := S.set b (some ⟨cs, true⟩)
  simp only [Option.map_some, h2, repL_splice] at this
  rw [h2]
  exact this
end Go.Fw.K
namespace Go.Fw.K
open Go.Fw
variable {j : Nat}
theorem onLn_some {α : Type} {x : AVal} {d : Option α} {f : List AVal → Option α} {a : α} (h : onLn x d f = some a) :
    (∃ c, x = .func VF c ∧ f c = some a) ∨ ((∀ c, x ≠ .func VF c) ∧ d = some a) := by
  cases x with
  | func g c =>
    have h' : ifB (Nat.beq g VF) (f c) d = some a := h
    cases hg : Nat.beq g VF with
    | true =>
      rw [hg] at h'
      have := Nat.eq_of_beq_eq_true hg
      exact .inl ⟨c, by rw [this], h'⟩
    | false =>
      rw [hg] at h'
      exact .inr ⟨fun c' e => (by cases e; simp at hg), h'⟩
  | _ => exact .inr ⟨fun c e => (by cases e), h⟩
theorem rep_vec (c : List AVal) : rep j (.func VF c) = laneOf j c := rep_lanes (by simp) c
def leaf : AVal → Bool
  | .int _ _ | .str _ | .bool _ => true
  | _ => false
theorem leaf_rep {v : AVal} (h : leaf v = true) : rep j v = v := by cases v <;> first | (cases h; done) | simp
theorem laneOf_at {c : List AVal} {a : AVal} (h : c[j % c.length]? = some a) (hl : leaf a = true) : laneOf j c = a := by
  unfold laneOf
  rw [List.getD_eq_getElem?_getD, h]
  cases a <;> first | rfl | cases hl
theorem mapO_get {f : AVal → Option AVal} : ∀ {l m : List AVal}, mapO f l = some m → m.length = l.length ∧ ∀ (i : Nat) (a : AVal), l[i]? = some a → ∃ b, m[i]? = some b ∧ f a = some b
  | [], m, h => by cases h; simp
  | a :: l, m, h => by
    obtain ⟨b, hb, h⟩ := VO_some (show VO (f a) (fun b => VO (mapO f l) fun r => some (b :: r)) = some m from h)
    obtain ⟨r, hr, h⟩ := VO_some h
    cases h
    obtain ⟨h1, h2⟩ := mapO_get hr
    refine ⟨by simp [h1], fun i x hx => ?_⟩
    cases i with
    | zero => simp at hx; subst hx; exact ⟨b, rfl, hb⟩
    | succ i => simpa using h2 i x (by simpa using hx)
theorem zipO_get {f : AVal → AVal → Option AVal} : ∀ {l m q : List AVal}, zipO f l m = some q → l.length = m.length ∧ q.length = l.length ∧ ∀ (i : Nat) (a b : AVal), l[i]? = some a → m[i]? = some b → ∃ c, q[i]? = some c ∧ f a b = some c
  | [], [], q, h => by cases h; simp
  | [], _ :: _, q, h => by cases h
  | a :: l, [], q, h => by cases h
  | a :: l, b :: m, q, h => by
    obtain ⟨c, hc, h⟩ := VO_some (show VO (f a b) (fun c => VO (zipO f l m) fun q => some (c :: q)) = some q from h)
    obtain ⟨r, hr, h⟩ := VO_some h
    cases h
    obtain ⟨h1, h2, h3⟩ := zipO_get hr
    refine ⟨by simp [h1], by simp [h2], fun i x y hx hy => ?_⟩
    cases i with
    | zero => simp at hx hy; subst hx; subst hy; exact ⟨c, rfl, hc⟩
    | succ i => simpa using h3 i x y (by simpa using hx) (by simpa using hy)
theorem allB_mem {p : AVal → Bool} : ∀ {l : List AVal}, allB p l = true → ∀ a ∈ l, p a = true
  | [], _, _, h => by cases h
  | b :: l, h, a, ha => by
    have h' : ifB (p b) (allB p l) false = true := h
    cases hb : p b with
    | false => rw [hb] at h'; cases h'
    | true =>
      rw [hb] at h'
      rcases List.mem_cons.1 ha with rfl | ha
      · exact hb
      · exact allB_mem h' a ha
theorem isI_leaf {a : AVal} (h : isI a = true) : leaf a = true := by cases a <;> first | rfl | cases h
theorem isB_eq {b : Bool} {a : AVal} (h : isB b a = true) : a = .bool b := by
  cases a <;> first | (cases h; done) | skip
  rename_i t
  cases t <;> cases b <;> first | rfl | cases h
theorem unite_some {l : List AVal} {r : AVal} (h : unite l = some r) : l ≠ [] ∧ ((r = .func VF l ∧ ∀ a ∈ l, leaf a = true) ∨ ∃ b, r = .bool b ∧ ∀ a ∈ l, a = .bool b) := by
  cases l with
  | nil => cases h
  | cons a l =>
    refine ⟨by simp, ?_⟩
    have h' : ifB (isI a) (ifB (allB isI (a :: l)) (some (.func VF (a :: l))) none) (ifB (allB (isB true) (a :: l)) (some (.bool true)) (ifB (allB (isB false) (a :: l)) (some (.bool false)) none)) = some r := h
    cases h1 : isI a with
    | true =>
      rw [h1] at h'
      obtain ⟨h2, h'⟩ := ifB_some (show ifB _ _ none = some r from h')
      cases h'
      exact .inl ⟨rfl, fun b hb => isI_leaf (allB_mem h2 b hb)⟩
    | false =>
      rw [h1] at h'
      cases h2 : allB (isB true) (a :: l) with
      | true =>
        rw [h2] at h'
        cases h'
        exact .inr ⟨true, rfl, fun b hb => isB_eq (allB_mem h2 b hb)⟩
      | false =>
        rw [h2] at h'
        obtain ⟨h3, h'⟩ := ifB_some (show ifB _ _ none = some r from h')
        cases h'
        exact .inr ⟨false, rfl, fun b hb => isB_eq (allB_mem h3 b hb)⟩
theorem unite_rep {l : List AVal} {r : AVal} (h : unite l = some r) {n : Nat} (hn : l.length = n) : ∃ a, l[j % n]? = some a ∧ rep j r = a := by
  subst hn
  obtain ⟨hne, hh⟩ := unite_some h
  have hlt : j % l.length < l.length := Nat.mod_lt _ (List.length_pos_iff.2 hne)
  refine ⟨l[j % l.length], List.getElem?_eq_getElem hlt, ?_⟩
  rcases hh with ⟨rfl, hl⟩ | ⟨b, rfl, hl⟩
  · rw [rep_vec]
    exact laneOf_at (List.getElem?_eq_getElem hlt) (hl _ (List.getElem_mem hlt))
  · rw [rep_bool, hl _ (List.getElem_mem hlt)]
theorem lanes2_rep {f : AVal → AVal → Option AVal} (hf : ∀ x y r, f x y = some r → leaf x = true ∧ leaf y = true ∧ leaf r = true) {x y r : AVal} (h0 : lanes2 f x y = some r) : f (rep j x) (rep j y) = some (rep j r) := by
  rcases onLn_some h0 with ⟨l, rfl, h1⟩ | ⟨hx, h1⟩
  · rcases onLn_some h1 with ⟨m, rfl, h⟩ | ⟨hy, h⟩
    · obtain ⟨q, hq, h⟩ := VO_some h
      obtain ⟨h1, h2, h3⟩ := zipO_get hq
      obtain ⟨c, hc, hr⟩ := unite_rep (j := j) h h2
      have hlt : j % l.length < l.length := by
        have := List.getElem?_eq_some_iff.1 hc
        obtain ⟨w, _⟩ := this
        omega
      obtain ⟨c', hc', hf'⟩ := h3 (j % l.length) _ _ (List.getElem?_eq_getElem hlt) (List.getElem?_eq_getElem (by omega))
      rw [hc] at hc'
      cases hc'
      obtain ⟨l1, l2, _⟩ := hf _ _ _ hf'
      rw [rep_vec, rep_vec, laneOf_at (List.getElem?_eq_getElem hlt) l1, laneOf_at (c := m) (a := m[j % l.length]'(by omega)) (by rw [← List.getElem?_eq_getElem, h1]) l2, hf', hr]
    · obtain ⟨q, hq, h⟩ := VO_some h
      obtain ⟨h2, h3⟩ := mapO_get hq
      obtain ⟨c, hc, hr⟩ := unite_rep (j := j) h h2
      have hlt : j % l.length < l.length := by
        obtain ⟨w, _⟩ := List.getElem?_eq_some_iff.1 hc
        omega
      obtain ⟨c', hc', hf'⟩ := h3 (j % l.length) _ (List.getElem?_eq_getElem hlt)
      rw [hc] at hc'
      cases hc'
      obtain ⟨l1, l2, _⟩ := hf _ _ _ hf'
      rw [rep_vec, leaf_rep l2, laneOf_at (List.getElem?_eq_getElem hlt) l1, hf', hr]
  · rcases onLn_some h1 with ⟨m, rfl, h⟩ | ⟨hy, h⟩
    · obtain ⟨q, hq, h⟩ := VO_some h
      obtain ⟨h2, h3⟩ := mapO_get hq
      obtain ⟨c, hc, hr⟩ := unite_rep (j := j) h h2
      have hlt : j % m.length < m.length := by
        obtain ⟨w, _⟩ := List.getElem?_eq_some_iff.1 hc
        omega
      obtain ⟨c', hc', hf'⟩ := h3 (j % m.length) _ (List.getElem?_eq_getElem hlt)
      rw [hc] at hc'
      cases hc'
      obtain ⟨l1, l2, _⟩ := hf _ _ _ hf'
      rw [rep_vec, leaf_rep l1, laneOf_at (List.getElem?_eq_getElem hlt) l2, hf', hr]
    · obtain ⟨l1, l2, l3⟩ := hf _ _ _ h
      rw [leaf_rep l1, leaf_rep l2, leaf_rep l3, h]
theorem aInt_leaf {op : BinOp} {k : IntKind} {a b : Int} {r : AVal} (h : aInt op k a b = some r) : leaf r = true := by
  unfold aInt at h
  split at h <;> first | (split at h <;> first | (cases h; rfl) | cases h) | (cases h; rfl) | cases h
theorem aShift_leaf {op : BinOp} {k : IntKind} {a b : Int} {r : AVal} (h : aShift op k a b = some r) : leaf r = true := by
  unfold aShift at h
  split at h
  · cases h
  · split at h <;> first | (cases h; rfl) | cases h
theorem aStr_leaf {op : BinOp} {a b : List UInt8} {r : AVal} (h : aStr op a b = some r) : leaf r = true := by
  unfold aStr at h
  split at h <;> first | (split at h <;> first | (cases h; rfl) | cases h) | (cases h; rfl) | cases h
theorem aBin_plain {op : BinOp} {x y r : AVal} (h : aBin op .plain x y = some r) : leaf x = true ∧ leaf y = true ∧ leaf r = true := by
  unfold aBin at h
  split at h
  · refine ⟨rfl, rfl, ?_⟩
    split at h
    · exact aShift_leaf h
    · exact aShift_leaf h
    · split at h
      · exact aInt_leaf h
      · cases h
  · exact ⟨rfl, rfl, aStr_leaf h⟩
  · cases h
  · rename_i h1 h2 h3
    exact (h1 rfl).elim
theorem kSlow_rep {op : BinOp} {x y r : AVal} (h : kSlow op x y = some r) : aBin op .plain (rep j x) (rep j y) = some (rep j r) :=
  lanes2_rep (fun x y r h => aBin_plain h) h
theorem kMax_wrap (k : IntKind) (n : Nat) (h : n ≤ kMax k) : k.wrap (.ofNat n) = .ofNat n := by
  cases k <;> simp only [IntKind.wrap, IntKind.bits, IntKind.signed, kMax, Int.ofNat_eq_natCast, Bool.true_and, Bool.false_and, decide_eq_true_eq, Bool.false_eq_true, if_false, ge_iff_le] at h ⊢ <;> omega
theorem kIdx_inj {k i : IntKind} (h : Nat.beq (kIdx k) (kIdx i) = true) : k = i := by
  cases k <;> cases i <;> first | rfl | cases h
theorem onNN_some {x y : AVal} {d : Option AVal} {f : IntKind → Nat → Nat → Option AVal} {r : AVal} (h : onNN x y d f = some r) :
    d = some r ∨ ∃ k a b, x = .int k (.ofNat a) ∧ y = .int k (.ofNat b) ∧ f k a b = some r := by
  cases x with
  | int k a =>
    cases y with
    | int i b =>
      cases a with
      | ofNat a =>
        cases b with
        | ofNat b =>
          have h' : ifB (Nat.beq (kIdx k) (kIdx i)) (f k a b) d = some r := h
          cases hk : Nat.beq (kIdx k) (kIdx i) with
          | false => rw [hk] at h'; exact .inl h'
          | true =>
            rw [hk] at h'
            have := kIdx_inj hk
            subst this
            exact .inr ⟨k, a, b, rfl, rfl, h'⟩
        | negSucc b => exact .inl h
      | negSucc a => cases b <;> exact .inl h
    | _ => exact .inl h
  | _ => exact .inl h
theorem ifB_or {α : Type} {b : Bool} {x y : Option α} {a : α} (h : ifB b x y = some a) : (b = true ∧ x = some a) ∨ y = some a := by
  cases b with
  | false => exact .inr h
  | true => exact .inl ⟨rfl, h⟩
theorem kAdd_rep {x y r : AVal} (h : kAdd x y = some r) : aBin .add .plain (rep j x) (rep j y) = some (rep j r) := by
  rcases onNN_some h with h1 | ⟨k, a, b, rfl, rfl, h2⟩
  · exact kSlow_rep h1
  · rcases ifB_or h2 with ⟨h1, h⟩ | h
    · cases h
      have h1' : a + b ≤ kMax k := Nat.le_of_ble_eq_true h1
      have e : Int.ofNat a + Int.ofNat b = Int.ofNat (a + b) := rfl
      simp only [rep_int, bin_add, e, kMax_wrap k _ h1']
      rfl
    · exact kSlow_rep h
theorem kSub_rep {x y r : AVal} (h : kSub x y = some r) : aBin .sub .plain (rep j x) (rep j y) = some (rep j r) := by
  rcases onNN_some h with h1 | ⟨k, a, b, rfl, rfl, h2⟩
  · exact kSlow_rep h1
  · rcases ifB_or h2 with ⟨h1, h⟩ | h
    · rcases ifB_or h with ⟨h3, h⟩ | h
      · cases h
        have h1' : b ≤ a := Nat.le_of_ble_eq_true h1
        have h2' : a ≤ kMax k := Nat.le_of_ble_eq_true h3
        have e : Int.ofNat a - Int.ofNat b = Int.ofNat (a - b) := by simp only [Int.ofNat_eq_natCast]; omega
        simp only [rep_int, bin_sub, e, kMax_wrap k (a - b) (by omega)]
        rfl
      · exact kSlow_rep h
    · exact kSlow_rep h
theorem kMul_rep {x y r : AVal} (h : kMul x y = some r) : aBin .mul .plain (rep j x) (rep j y) = some (rep j r) := by
  rcases onNN_some h with h1 | ⟨k, a, b, rfl, rfl, h2⟩
  · exact kSlow_rep h1
  · have e : Int.ofNat a * Int.ofNat b = Int.ofNat (a * b) := rfl
    cases h1 : Nat.ble (Nat.mul a b) (kMax k) with
    | true =>
      rw [h1] at h2
      cases h2
      have h1' : a * b ≤ kMax k := Nat.le_of_ble_eq_true h1
      simp only [rep_int, bin_mul, e, kMax_wrap k _ h1']
      rfl
    | false =>
      rw [h1] at h2
      cases h2
      simp only [rep_int, bin_mul, e]
      rfl
theorem kEql_rep {x y r : AVal} (h : kEql x y = some r) : aBin .eql .plain (rep j x) (rep j y) = some (rep j r) := by
  rcases onNN_some h with h1 | ⟨k, a, b, rfl, rfl, h2⟩
  · exact kSlow_rep h1
  · cases h2
    simp only [rep_int, bin_eql, rep_bool, beq_dec]
    congr 2
    rw [Bool.eq_iff_iff]
    simp; omega
theorem kNeq_rep {x y r : AVal} (h : kNeq x y = some r) : aBin .neq .plain (rep j x) (rep j y) = some (rep j r) := by
  rcases onNN_some h with h1 | ⟨k, a, b, rfl, rfl, h2⟩
  · exact kSlow_rep h1
  · cases h2
    simp only [rep_int, bin_neq, rep_bool, beq_dec, ifB_eq]
    congr 2
    rw [Bool.eq_iff_iff]
    by_cases e : a = b
    · simp [e]
    · simp [e]; omega
theorem kLss_rep {x y r : AVal} (h : kLss x y = some r) : aBin .lss .plain (rep j x) (rep j y) = some (rep j r) := by
  rcases onNN_some h with h1 | ⟨k, a, b, rfl, rfl, h2⟩
  · exact kSlow_rep h1
  · cases h2
    simp only [rep_int, bin_lss, rep_bool]
    congr 2
    rw [Bool.eq_iff_iff]
    simp [Nat.ble_eq]; omega
theorem kLeq_rep {x y r : AVal} (h : kLeq x y = some r) : aBin .leq .plain (rep j x) (rep j y) = some (rep j r) := by
  rcases onNN_some h with h1 | ⟨k, a, b, rfl, rfl, h2⟩
  · exact kSlow_rep h1
  · cases h2
    simp only [rep_int, bin_leq, rep_bool]
    congr 2
    rw [Bool.eq_iff_iff]
    simp [Nat.ble_eq]
theorem kGtr_rep {x y r : AVal} (h : kGtr x y = some r) : aBin .gtr .plain (rep j x) (rep j y) = some (rep j r) := by
  rcases onNN_some h with h1 | ⟨k, a, b, rfl, rfl, h2⟩
  · exact kSlow_rep h1
  · cases h2
    simp only [rep_int, bin_gtr, rep_bool]
    congr 2
    rw [Bool.eq_iff_iff]
    simp [Nat.ble_eq]; omega
theorem kGeq_rep {x y r : AVal} (h : kGeq x y = some r) : aBin .geq .plain (rep j x) (rep j y) = some (rep j r) := by
  rcases onNN_some h with h1 | ⟨k, a, b, rfl, rfl, h2⟩
  · exact kSlow_rep h1
  · cases h2
    simp only [rep_int, bin_geq, rep_bool]
    congr 2
    rw [Bool.eq_iff_iff]
    simp [Nat.ble_eq]
theorem kRem_rep {x y r : AVal} (h : kRem x y = some r) : aBin .rem .plain (rep j x) (rep j y) = some (rep j r) := by
  rcases onNN_some h with h1 | ⟨k, a, b, rfl, rfl, h2⟩
  · exact kSlow_rep h1
  · cases hb : Nat.beq b 0 with
    | true => rw [hb] at h2; cases h2
    | false =>
      rw [hb] at h2
      cases h2
      have : b ≠ 0 := fun e => by rw [e] at hb; cases hb
      simp only [rep_int, bin_rem]
      rw [if_neg (by simp only [Int.ofNat_eq_natCast]; omega)]
      rfl
theorem onII {x y : AVal} {d : Option AVal} {f : IntKind → Int → IntKind → Int → Option AVal} {r : AVal} (h : (onInt x d fun k a => onInt y d fun i b => f k a i b) = some r) :
    d = some r ∨ ∃ k a i b, x = .int k a ∧ y = .int i b ∧ f k a i b = some r := by
  cases x with
  | int k a =>
    cases y with
    | int i b => exact .inr ⟨k, a, i, b, rfl, rfl, h⟩
    | _ => exact .inl h
  | _ => exact .inl h
theorem kBits_eq (k : IntKind) : kBits k = k.bits := by cases k <;> rfl
theorem kShr_rep {x y r : AVal} (h : kShr x y = some r) : aBin .shr .plain (rep j x) (rep j y) = some (rep j r) := by
  rcases onII h with h1 | ⟨k, a, i, b, rfl, rfl, h'⟩
  · exact kSlow_rep h1
  · cases a with
    | negSucc a => exact kSlow_rep h'
    | ofNat a =>
      cases b with
      | negSucc b => exact kSlow_rep h'
      | ofNat b =>
        rcases ifB_or h' with ⟨h1, h⟩ | h
        · cases h
          have h1' : b ≤ k.bits := by rw [← kBits_eq]; exact Nat.le_of_ble_eq_true h1
          simp only [rep_int, aBin, aShift]
          rw [if_neg (by simp only [Int.ofNat_eq_natCast]; omega)]
          simp only [Int.ofNat_eq_natCast, Int.toNat_natCast, Nat.min_eq_left h1', Option.some.injEq, AVal.int.injEq, true_and]
          rw [show ((2 : Int) ^ b) = ((2 ^ b : Nat) : Int) by simp, Int.fdiv_eq_ediv_of_nonneg _ (Int.natCast_nonneg _)]
          rfl
        · exact kSlow_rep h
theorem kShl_rep {x y r : AVal} (h : kShl x y = some r) : aBin .shl .plain (rep j x) (rep j y) = some (rep j r) := by
  rcases onII h with h1 | ⟨k, a, i, b, rfl, rfl, h'⟩
  · exact kSlow_rep h1
  · cases a with
    | negSucc a => exact kSlow_rep h'
    | ofNat a =>
      cases b with
      | negSucc b => exact kSlow_rep h'
      | ofNat b =>
        rcases ifB_or h' with ⟨h1, h⟩ | h
        · cases h
          cases h2 : Nat.ble b 7 with
          | false => rw [h2] at h1; cases h1
          | true =>
            rw [h2] at h1
            have h3 : b ≤ 7 := Nat.le_of_ble_eq_true h2
            have h4 : a * 2 ^ b ≤ kMax k := Nat.le_of_ble_eq_true h1
            have h5 : b ≤ k.bits := by cases k <;> simp [IntKind.bits] <;> omega
            simp only [rep_int, aBin, aShift]
            rw [if_neg (by simp only [Int.ofNat_eq_natCast]; omega)]
            simp only [Int.ofNat_eq_natCast, Int.toNat_natCast, Nat.min_eq_left h5, Option.some.injEq, AVal.int.injEq, true_and]
            rw [show ((a : Int) * (2 : Int) ^ b) = Int.ofNat (a * 2 ^ b) by simp, kMax_wrap k _ h4]
            rfl
        · exact kSlow_rep h
theorem kPlain_rep {op : BinOp} {x y r : AVal} (h : kPlain op x y = some r) : aBin op .plain (rep j x) (rep j y) = some (rep j r) := by
  cases op with
  | add => exact kAdd_rep h
  | sub => exact kSub_rep h
  | mul => exact kMul_rep h
  | rem => exact kRem_rep h
  | eql => exact kEql_rep h
  | neq => exact kNeq_rep h
  | lss => exact kLss_rep h
  | leq => exact kLeq_rep h
  | gtr => exact kGtr_rep h
  | geq => exact kGeq_rep h
  | shr => exact kShr_rep h
  | shl => exact kShl_rep h
  | _ => exact kSlow_rep h
theorem cellsEq_rep {ks : List Nat} {a b : List AVal} {r : Bool} (h : cellsEq ks a b = some r) : repL j a = a ∧ repL j b = b := by
  induction ks, a, b using cellsEq.induct generalizing r with
  | case1 => exact ⟨rfl, rfl⟩
  | case2 ks a as b bs ih =>
    rw [cellsEq] at h
    cases he : cellsEq ks as bs with
    | none => rw [he] at h; cases h
    | some q => obtain ⟨h1, h2⟩ := ih he; simp [h1, h2]
  | case3 ks a as k b bs ih =>
    rw [cellsEq, if_pos rfl] at h
    cases he : cellsEq ks as bs with
    | none => rw [he] at h; cases h
    | some q => obtain ⟨h1, h2⟩ := ih he; simp [h1, h2]
  | case4 ks k a as i b bs hk => rw [cellsEq, if_neg hk] at h; cases h
  | case5 ks a as b bs ih =>
    rw [cellsEq] at h
    cases he : cellsEq ks as bs with
    | none => rw [he] at h; cases h
    | some q => obtain ⟨h1, h2⟩ := ih he; simp [h1, h2]
  | case6 t x y h1 h2 h3 h4 =>
    rw [cellsEq] at h
    · cases h
    · exact h1
    · exact h2
    · exact h3
    · exact h4
theorem aEq_iface {c : Bool} {ints : List Nat} {t u : Nat} (h : ¬ t = u) (v w : AVal) : aEq (.iface c ints) (.iface t v) (.iface u w) = some false := by
  cases v <;> cases w <;> simp [aEq, h]
theorem aEq_rep {tag : EqTag} (ht : tag ≠ .func) {x y : AVal} {r : Bool} (h : aEq tag x y = some r) : aEq tag (rep j x) (rep j y) = some r := by
  unfold aEq at h
  split at h
  all_goals first
    | (cases h; done)
    | (exact (ht rfl).elim)
    | (simp only [rep_bool, rep_nilPtr, rep_ptr, rep_nilSlice, rep_slice, rep_iface, rep_nilIface, rep_int]; exact h)
    | skip
  · rename_i c ints t v u w h1 h2
    split at h
    · cases h
    · rename_i hne
      cases h
      simp only [rep_iface]
      exact aEq_iface hne _ _
  · rename_i ks a b
    obtain ⟨h1, h2⟩ := cellsEq_rep (j := j) h
    simp only [rep_agg, h1, h2]
    exact h
theorem kEqT_rep {tag : EqTag} {x y : AVal} {r : Bool} (h : kEqT tag x y = some r) : aEq tag (rep j x) (rep j y) = some r := by
  unfold kEqT at h
  split at h
  · cases h
  · rename_i h1
    exact aEq_rep (fun e => h1 e) h
theorem aBin_tag {op : BinOp} {tag : EqTag} (ht : tag ≠ .plain) (a b : AVal) : aBin op tag a b = match op with
      | .eql => (aEq tag a b).bind fun r => some (.bool r)
      | .neq => (aEq tag a b).bind fun r => some (.bool !r)
      | _ => none := by
  unfold aBin
  split
  · exact (ht rfl).elim
  · exact (ht rfl).elim
  · exact (ht rfl).elim
  · rfl
theorem kTag_rep {op : BinOp} {tag : EqTag} (ht : tag ≠ .plain) {x y r : AVal} (h : kTag op tag x y = some r) : aBin op tag (rep j x) (rep j y) = some (rep j r) := by
  rw [aBin_tag ht]
  cases op with
  | eql =>
    obtain ⟨b, h1, h2⟩ := VO_some (show VO (kEqT tag x y) _ = some r from h)
    cases h2
    simp only [kEqT_rep (j := j) h1, Option.bind_some, rep_bool]
  | neq =>
    obtain ⟨b, h1, h2⟩ := VO_some (show VO (kEqT tag x y) _ = some r from h)
    cases h2
    simp only [kEqT_rep (j := j) h1, Option.bind_some, rep_bool]
    cases b <;> rfl
  | _ => cases h
theorem kBin_rep {op : BinOp} {tag : EqTag} {x y r : AVal} (h : kBin op tag x y = some r) : aBin op tag (rep j x) (rep j y) = some (rep j r) := by
  cases tag with
  | plain => exact kPlain_rep h
  | _ => exact kTag_rep (by simp) h
theorem aUn_leaf {op : UnOp} {x r : AVal} (h : aUn op x = some r) : leaf x = true ∧ leaf r = true := by
  unfold aUn at h
  split at h <;> first | (cases h; exact ⟨rfl, rfl⟩) | cases h
theorem kNot_eq {x r : AVal} (h : kNot x = some r) : ∃ b, x = .bool b ∧ r = .bool !b := by
  cases x <;> first | (cases h; done) | skip
  rename_i b
  refine ⟨b, rfl, ?_⟩
  have h' : some (AVal.bool (ifB b false true)) = some r := h
  cases h'
  cases b <;> rfl
theorem kUn_rep {op : UnOp} {x r : AVal} (h : kUn op x = some r) : aUn op (rep j x) = some (rep j r) := by
  cases op with
  | not =>
    obtain ⟨b, rfl, rfl⟩ := kNot_eq h
    simp
  | neg =>
    obtain ⟨h1, h2⟩ := aUn_leaf (show aUn .neg x = some r from h)
    rw [leaf_rep h1, leaf_rep h2]
    exact h
  | xor =>
    obtain ⟨h1, h2⟩ := aUn_leaf (show aUn .xor x = some r from h)
    rw [leaf_rep h1, leaf_rep h2]
    exact h
  | _ => cases h
theorem kPick_rep {c a b r : AVal} (h : kPick c a b = some r) : aPick (rep j c) (rep j a) (rep j b) = some (rep j r) := by
  cases c <;> first | (cases h; done) | skip
  rename_i t
  have h' : some (ifB t a b) = some r := h
  cases h'
  cases t <;> simp [ifB]
theorem toInt1_eq {k : IntKind} {x r : AVal} (h : toInt1 k x = some r) : ∃ i n, x = .int i n ∧ r = .int k (k.wrap n) := by
  obtain ⟨i, n, rfl, h⟩ := onInt_some h
  cases h
  exact ⟨i, n, rfl, rfl⟩
theorem kToIntS_eq {k : IntKind} {x r : AVal} (h : kToIntS k x = some r) : ∃ i n, rep j x = .int i n ∧ rep j r = .int k (k.wrap n) := by
  rcases onLn_some h with ⟨l, rfl, h⟩ | ⟨hx, h⟩
  · obtain ⟨q, hq, h⟩ := VO_some h
    obtain ⟨h2, h3⟩ := mapO_get hq
    obtain ⟨c, hc, hr⟩ := unite_rep (j := j) h h2
    have hlt : j % l.length < l.length := by
      obtain ⟨w, _⟩ := List.getElem?_eq_some_iff.1 hc
      omega
    obtain ⟨c', hc', hf'⟩ := h3 (j % l.length) _ (List.getElem?_eq_getElem hlt)
    rw [hc] at hc'
    cases hc'
    obtain ⟨i, n, e1, e2⟩ := toInt1_eq hf'
    refine ⟨i, n, ?_, by rw [hr, e2]⟩
    rw [rep_vec, laneOf_at (List.getElem?_eq_getElem hlt) (by rw [e1]; rfl), e1]
  · obtain ⟨i, n, rfl, rfl⟩ := toInt1_eq h
    exact ⟨i, n, by simp, by simp⟩
theorem kToInt_eq {k : IntKind} {x r : AVal} (h : kToInt k x = some r) : ∃ i n, rep j x = .int i n ∧ rep j r = .int k (k.wrap n) := by
  cases x with
  | int i n =>
    cases n with
    | ofNat a =>
      rcases ifB_or (show ifB (Nat.ble a (kMax k)) _ _ = some r from h) with ⟨h1, h⟩ | h
      · cases h
        exact ⟨i, .ofNat a, by simp, by rw [kMax_wrap k a (Nat.le_of_ble_eq_true h1)]; simp⟩
      · exact kToIntS_eq h
    | negSucc a => exact kToIntS_eq h
  | _ => exact kToIntS_eq h
theorem kFrom_rep {agg : Bool} {cs : List AVal} {v : AVal} (h : kFrom agg cs = some v) : fromCells agg (repL j cs) = some (rep j v) := by
  cases agg with
  | true => cases h; simp
  | false =>
    cases cs with
    | nil => cases h
    | cons a r =>
      cases r with
      | nil => cases h; simp
      | cons b r => cases h
theorem kOne_rep {n : Nat} {v : AVal} {cs : List AVal} (h : kOne n v = some cs) (hv : AVal.cells? (rep j v) = some [rep j v]) : aCells n (rep j v) = some (repL j cs) := by
  obtain ⟨h1, h⟩ := ifB_some h
  cases h
  have := Nat.eq_of_beq_eq_true h1
  subst this
  simp [aCells, hv]
theorem func_cells (f : Nat) (c : List AVal) : AVal.cells? (rep j (.func f c)) = some [rep j (.func f c)] := by
  cases hf : Nat.beq f VF with
  | false => rw [rep_func hf]; rfl
  | true =>
    rw [rep_lanes hf]
    rcases laneOf_leaf (j := j) c with ⟨k, n, e⟩ | ⟨s, e⟩ | ⟨b, e⟩ <;> rw [e] <;> rfl
theorem kCells_rep {n : Nat} {v : AVal} {cs : List AVal} (h : kCells n v = some cs) : aCells n (rep j v) = some (repL j cs) := by
  cases v with
  | undef => cases h
  | tuple l => cases h
  | agg l =>
    obtain ⟨h1, h⟩ := ifB_some (show ifB (Nat.beq l.length n) (some l) none = some cs from h)
    cases h
    simp only [rep_agg, aCells, AVal.cells?, repL_length, h1, cond_true]
  | func f c => exact kOne_rep h (func_cells f c)
  | iface t x => exact kOne_rep h (by simp [AVal.cells?])
  | _ => exact kOne_rep h (by simp [AVal.cells?])
theorem cellsQ_rep {v : AVal} {cs : List AVal} (h : v.cells? = some cs) : (rep j v).cells? = some (repL j cs) := by
  cases v with
  | undef => cases h
  | tuple l => cases h
  | agg l => cases h; simp [AVal.cells?]
  | func f c => cases h; rw [func_cells]; rfl
  | _ => cases h; simp [AVal.cells?]
theorem aCells_rep {n : Nat} {v : AVal} {cs : List AVal} (h : aCells n v = some cs) : aCells n (rep j v) = some (repL j cs) := by
  unfold aCells at h ⊢
  split at h
  · rename_i c hc
    rw [cellsQ_rep hc]
    simp only [repL_length]
    cases hb : Nat.beq c.length n with
    | false => rw [hb] at h; cases h
    | true => rw [hb] at h; cases h; rfl
  · cases h
theorem aFill_rep : ∀ {parts : List (Nat × Nat × AVal)} {cs q : List AVal}, aFill cs parts = some q → aFill (repL j cs) (parts.map fun p => (p.1, p.2.1, rep j p.2.2)) = some (repL j q)
  | [], cs, q, h => by cases h; rfl
  | (off, n, v) :: r, cs, q, h => by
    rw [aFill] at h
    cases hc : aCells n v with
    | none => rw [hc] at h; cases h
    | some vs =>
      rw [hc] at h
      simp only [Option.bind_some] at h
      simp only [List.map_cons, aFill, aCells_rep hc, Option.bind_some, repL_length]
      cases hb : Nat.ble (off + n) cs.length with
      | false => rw [hb] at h; cases h
      | true =>
        rw [hb] at h
        simp only [cond_true] at h ⊢
        rw [← repL_splice]
        exact aFill_rep h
theorem cellBytes_rep {cs : List AVal} {l : List UInt8} (h : cellBytes cs = some l) : cellBytes (repL j cs) = some l := by
  induction cs generalizing l with
  | nil => exact h
  | cons c r ih =>
    cases c with
    | int k n =>
      cases k <;> first | (cases h; done) | skip
      rw [cellBytes] at h
      simp only [repL_cons, rep_int]
      rw [cellBytes]
      cases hc : cellBytes r with
      | none => rw [hc] at h; cases h
      | some q => rw [hc] at h; rw [ih hc]; exact h
    | _ => cases h
theorem kIx_rep {len : Nat} {i : AVal} {n : Nat} (h : kIx len i = some n) : aIdx len (rep j i) = some n := by
  obtain ⟨k, a, rfl, h⟩ := onInt_some h
  cases a with
  | ofNat a =>
    obtain ⟨h1, h⟩ := ifB_some (show ifB (Nat.ble (Nat.succ a) len) (some a) none = some n from h)
    cases h
    have := Nat.le_of_ble_eq_true h1
    simp only [rep_int, aIdx]
    rw [if_pos ⟨by simp, by simp only [Int.ofNat_eq_natCast]; omega⟩]
    simp
  | negSucc a => cases h
theorem kIaddr_rep {es : Nat} {x i v : AVal} (h : kIaddr es x i = some v) : aIaddr es (rep j x) (rep j i) = some (rep j v) := by
  obtain ⟨b, o, l, c, e, q, rfl, h⟩ := onSl_some h
  obtain ⟨h1, h⟩ := ifB_some h
  obtain ⟨n, hn, h⟩ := VO_some h
  cases h
  simp only [rep_slice, aIaddr, h1, cond_true, kIx_rep hn, Option.bind_some, rep_ptr]
  rfl
theorem kIaddrA_rep {len es : Nat} {x i v : AVal} (h : kIaddrA len es x i = some v) : aIaddrA len es (rep j x) (rep j i) = some (rep j v) := by
  obtain ⟨b, o, rfl, h⟩ := onPtr_some h
  obtain ⟨n, hn, h⟩ := VO_some h
  cases h
  simp only [rep_ptr, aIaddrA, kIx_rep hn, Option.bind_some]
  rfl
theorem cut_rdL {l : List AVal} {off n : Nat} {q : List AVal} (h : cut l off n = some q) : rdL (repL j l) off n = some (repL j q) := by
  obtain ⟨h1, h2⟩ := cut_eq off l n q h
  unfold rdL
  rw [repL_length, Nat.ble_eq_true_of_le h1, h2, repL_take, repL_drop]
  rfl
theorem rdL_at {cs : List AVal} {i : Nat} {v : AVal} (h : cs[i]? = some v) : rdL cs i 1 = some [v] := by
  obtain ⟨hi, e⟩ := List.getElem?_eq_some_iff.1 h
  unfold rdL
  rw [Nat.ble_eq_true_of_le (by omega), List.drop_eq_getElem_cons hi, e]
  simp
theorem nth_rdL {l : List AVal} {off : Nat} {v : AVal} (h : nth l off = some v) : rdL (repL j l) off 1 = some [rep j v] := by
  have h1 := nth_eq off l v h
  refine rdL_at ?_
  rw [repL_get?, h1]; rfl
theorem kLdL_rep {cs : List AVal} {agg : Bool} {off n : Nat} {v : AVal} (h : kLdL cs agg off n = some v) : ((rdL (repL j cs) off n).bind fun c => fromCells agg c) = some (rep j v) := by
  obtain ⟨c, hc, h⟩ := VO_some h
  rw [cut_rdL hc]
  exact kFrom_rep h
theorem kField_rep {agg : Bool} {off n : Nat} {x v : AVal} (h : kField agg off n x = some v) : ((aField off n (rep j x)).bind fun c => fromCells agg c) = some (rep j v) := by
  obtain ⟨l, rfl, h⟩ := onAgg_some h
  simp only [rep_agg, aField]
  cases agg with
  | true =>
    obtain ⟨c, hc, h⟩ := VO_some (show VO (cut l off n) _ = some v from h)
    cases h
    rw [cut_rdL hc]
    simp
  | false =>
    obtain ⟨h1, h⟩ := ifB_some (show ifB (Nat.beq n 1) (nth l off) none = some v from h)
    have := Nat.eq_of_beq_eq_true h1
    subst this
    rw [nth_rdL h]
    simp
theorem kIndexArr_rep {len es : Nat} {agg : Bool} {x i v : AVal} (h : kIndexArr len es agg x i = some v) : ((aIndexArr len es (rep j x) (rep j i)).bind fun c => fromCells agg c) = some (rep j v) := by
  obtain ⟨l, rfl, h⟩ := onAgg_some h
  obtain ⟨n, hn, h⟩ := VO_some h
  simp only [rep_agg, aIndexArr, kIx_rep hn, Option.bind_some]
  exact kLdL_rep h
theorem aIdx_leaf {len : Nat} {i : AVal} {n : Nat} (h : aIdx len i = some n) : leaf i = true := by
  unfold aIdx at h
  split at h
  · rfl
  · cases h
theorem kIndexStr_rep {x i v : AVal} (h : kIndexStr x i = some v) : aIndexStr (rep j x) (rep j i) = some (rep j v) := by
  have h' : aIndexStr x i = some v := h
  unfold aIndexStr at h'
  split at h'
  · rename_i l
    cases hi : aIdx l.length i with
    | none => rw [hi] at h'; cases h'
    | some n =>
      rw [hi] at h'
      cases h'
      simp only [rep_str, leaf_rep (aIdx_leaf hi), aIndexStr, hi, Option.bind_some, rep_int]
  · cases h'
theorem aBound_leaf {x : Option AVal} {d m n : Nat} (h : aBound x d m = some n) : x.map (rep j) = x := by
  unfold aBound at h
  split at h
  · rfl
  · simp
  · cases h
theorem kSlStr_rep {x : AVal} {lo hi : Option AVal} {v : AVal} (h : kSlStr x lo hi = some v) : aSliceStr (rep j x) (lo.map (rep j)) (hi.map (rep j)) = some (rep j v) := by
  have h' : aSliceStr x lo hi = some v := h
  unfold aSliceStr at h'
  split at h'
  · rename_i l
    cases h1 : aBound hi l.length l.length with
    | none => rw [h1] at h'; cases h'
    | some a =>
      rw [h1] at h'
      simp only [Option.bind_some] at h'
      cases h2 : aBound lo 0 a with
      | none => rw [h2] at h'; cases h'
      | some c =>
        rw [h2] at h'
        cases h'
        simp only [rep_str, aBound_leaf (j := j) h1, aBound_leaf (j := j) h2, aSliceStr, h1, h2, Option.bind_some]
  · cases h'
theorem kBound_eq {x : Option AVal} {d m n : Nat} (h : kBound x d m = some n) : aBound (x.map (rep j)) d m = some n := by
  cases x with
  | none => cases h; rfl
  | some v =>
    obtain ⟨k, a, rfl, h⟩ := onInt_some h
    cases a with
    | ofNat a =>
      obtain ⟨h1, h⟩ := ifB_some (show ifB (Nat.ble a m) (some a) none = some n from h)
      cases h
      have := Nat.le_of_ble_eq_true h1
      simp only [Option.map_some, rep_int, aBound]
      rw [if_pos ⟨by simp, by simp only [Int.ofNat_eq_natCast]; omega⟩]
      simp
    | negSucc a => cases h
theorem onSl_or {α : Type} {x : AVal} {d : Option α} {f : Nat → Nat → Nat → Nat → Nat → Bool → Option α} {a : α} (h : onSl x d f = some a) : (∃ b o l c e q, x = .slice b o l c e q ∧ f b o l c e q = some a) ∨ ((∀ b o l c e q, x ≠ .slice b o l c e q) ∧ d = some a) := by
  cases x <;> first | exact .inl ⟨_, _, _, _, _, _, rfl, h⟩ | exact .inr ⟨fun _ _ _ _ _ _ e => (by cases e), h⟩
theorem kSlSl_rep {es : Nat} {x : AVal} {lo hi mx : Option AVal} {v : AVal} (h : kSlSl es x lo hi mx = some v) : aSliceSl es (rep j x) (lo.map (rep j)) (hi.map (rep j)) (mx.map (rep j)) = some (rep j v) := by
  rcases onSl_or h with ⟨b, o, l, c, e, q, rfl, h1⟩ | ⟨hne, h1⟩
  · obtain ⟨h2, h3⟩ := ifB_some h1
    obtain ⟨m, hm, h3⟩ := VO_some h3
    obtain ⟨a, ha, h3⟩ := VO_some h3
    obtain ⟨f, hf, h3⟩ := VO_some h3
    cases h3
    simp only [rep_slice, aSliceSl, h2, cond_true, kBound_eq hm, kBound_eq ha, kBound_eq hf, Option.bind_some, Option.isSome_map]
    rfl
  · unfold aSliceSl at h1
    split at h1
    · exact (hne _ _ _ _ _ _ rfl).elim
    · cases h2 : aBound mx 0 0 with
      | none => rw [h2] at h1; cases h1
      | some m =>
        rw [h2] at h1
        simp only [Option.bind_some] at h1
        cases h3 : aBound hi 0 m with
        | none => rw [h3] at h1; cases h1
        | some a =>
          rw [h3] at h1
          simp only [Option.bind_some] at h1
          cases h4 : aBound lo 0 a with
          | none => rw [h4] at h1; cases h1
          | some f =>
            rw [h4] at h1
            cases h1
            simp only [rep_nilSlice, aSliceSl, aBound_leaf (j := j) h2, aBound_leaf (j := j) h3, aBound_leaf (j := j) h4, h2, h3, h4, Option.bind_some]
    · cases h1
theorem kNil_rep {x v : AVal} (h : kNil x = some v) : aNilchk (rep j x) = some (rep j v) := by
  cases x with
  | ptr b o => cases h; simp
  | func f c =>
    cases hf : Nat.beq f VF with
    | true =>
      have h' : ifB (Nat.beq f VF) none (some (.func f c)) = some v := h
      rw [hf] at h'
      cases h'
    | false =>
      have h' : ifB (Nat.beq f VF) none (some (.func f c)) = some v := h
      rw [hf] at h'
      cases h'
      rw [rep_func hf]
      rfl
  | iface t x => cases h; simp [aNilchk]
  | _ => cases h
theorem kFaddr_rep {off : Nat} {x v : AVal} (h : kFaddr off x = some v) : aFaddr off (rep j x) = some (rep j v) := by
  obtain ⟨b, o, rfl, h⟩ := onPtr_some h
  cases h
  simp
theorem kLen_rep {str : Bool} {x v : AVal} (h : kLen str x = some v) : aLen str (rep j x) = some (rep j v) := by
  cases str with
  | true =>
    have h' : aLen true x = some v := h
    cases x <;> first | (cases h'; done) | skip
    cases h'
    simp [aLen]
  | false =>
    rcases onSl_or (show onSl x (aLen false x) _ = some v from h) with ⟨b, o, l, c, e, q, rfl, h1⟩ | ⟨hne, h1⟩
    · cases h1; simp [aLen]
    · cases x <;> first | (cases h1; done) | skip
      · cases h1; simp [aLen]
      · exact (hne _ _ _ _ _ _ rfl).elim
theorem aCap_rep {x v : AVal} (h : aCap x = some v) : aCap (rep j x) = some (rep j v) := by
  unfold aCap at h
  split at h
  · cases h; simp [aCap]
  · cases h; simp [aCap]
  · cases h
theorem kExtract_rep {i : Nat} {x v : AVal} (h : kExtract i x = some v) : aExtract i (rep j x) = some (rep j v) := by
  obtain ⟨l, rfl, h⟩ := onTup_some h
  simp only [rep_tuple, aExtract, repL_get?, nth_eq i l v h, Option.map_some]
theorem aMax2_leaf {x y r : AVal} (h : aMax2 x y = some r) : leaf x = true ∧ leaf y = true ∧ leaf r = true := by
  unfold aMax2 at h
  split at h
  · split at h
    · cases h; exact ⟨rfl, rfl, rfl⟩
    · cases h
  · cases h
theorem aMin2_leaf {x y r : AVal} (h : aMin2 x y = some r) : leaf x = true ∧ leaf y = true ∧ leaf r = true := by
  unfold aMin2 at h
  split at h
  · split at h
    · cases h; exact ⟨rfl, rfl, rfl⟩
    · cases h
  · cases h
theorem aMinMax_rep {mx : Bool} : ∀ {l : List AVal} {v r : AVal}, aMinMax mx v l = some r → aMinMax mx (rep j v) (repL j l) = some (rep j r)
  | [], v, r, h => by cases h; rfl
  | w :: l, v, r, h => by
    rw [aMinMax] at h
    rw [repL_cons, aMinMax]
    cases mx with
    | true =>
      simp only [cond_true] at h ⊢
      cases hm : aMax2 v w with
      | none => rw [hm] at h; cases h
      | some u =>
        rw [hm] at h
        obtain ⟨h1, h2, h3⟩ := aMax2_leaf hm
        rw [leaf_rep h1, leaf_rep h2, hm]
        have := aMinMax_rep (show aMinMax true u l = some r from h)
        rw [leaf_rep h3] at this
        exact this
    | false =>
      simp only [cond_false] at h ⊢
      cases hm : aMin2 v w with
      | none => rw [hm] at h; cases h
      | some u =>
        rw [hm] at h
        obtain ⟨h1, h2, h3⟩ := aMin2_leaf hm
        rw [leaf_rep h1, leaf_rep h2, hm]
        have := aMinMax_rep (show aMinMax false u l = some r from h)
        rw [leaf_rep h3] at this
        exact this
theorem aMinMaxL_rep {mx : Bool} {l : List AVal} {r : AVal} (h : aMinMaxL mx l = some r) : aMinMaxL mx (repL j l) = some (rep j r) := by
  cases l with
  | nil => cases h
  | cons v l => exact aMinMax_rep h
theorem aAssert_rep {tbl : List (Nat × Bool)} {x v : AVal} (h : aAssert tbl x = some v) : aAssert tbl (rep j x) = some (rep j v) := by
  unfold aAssert at h
  split at h
  · rename_i t y
    split at h
    · rename_i e; cases h; simp [aAssert, e]
    · rename_i e; cases h; simp [aAssert, e]
    · cases h
  · cases h; simp [aAssert]
  · cases h
theorem kFn_rep {x : AVal} {q : Nat × List AVal} (h : kFn x = some q) : aFn (rep j x) = some (q.1, repL j q.2) := by
  obtain ⟨f, c, rfl, h1⟩ := onFn_some h
  cases hf : Nat.beq f VF with
  | true => rw [hf] at h1; cases h1
  | false => rw [hf] at h1; cases h1; rw [rep_func hf]; rfl
theorem fromCells_rep {agg : Bool} {cs : List AVal} {v : AVal} (h : fromCells agg cs = some v) : fromCells agg (repL j cs) = some (rep j v) := by
  unfold fromCells at h
  split at h
  · cases h; simp
  · cases h; simp
  · cases h
theorem rdL_rep {l : List AVal} {off n : Nat} {q : List AVal} (h : rdL l off n = some q) : rdL (repL j l) off n = some (repL j q) := by
  unfold rdL at h ⊢
  rw [repL_length]
  cases hb : Nat.ble (off + n) l.length with
  | false => rw [hb] at h; cases h
  | true => rw [hb] at h; cases h; simp [repL_take, repL_drop]
theorem kMeth_rep {tbl : List (Nat × Nat × Option (Nat × Nat × Bool))} {x : AVal} {q : Nat × AVal} (h : kMeth tbl x = some q) : aMeth tbl (rep j x) = some (q.1, rep j q.2) := by
  have h' : aMeth tbl x = some q := h
  unfold aMeth at h'
  split at h'
  · rename_i t v
    split at h'
    · rename_i f e; cases h'; simp [aMeth, e]
    · rename_i f off n agg e
      unfold aField at h'
      split at h'
      · rename_i cs
        cases h1 : rdL cs off n with
        | none => rw [h1] at h'; cases h'
        | some c =>
          rw [h1] at h'
          simp only [Option.bind_some] at h'
          cases h2 : fromCells agg c with
          | none => rw [h2] at h'; cases h'
          | some r =>
            rw [h2] at h'
            cases h'
            simp only [rep_iface, rep_agg, aMeth, e, aField, rdL_rep h1, Option.bind_some, fromCells_rep h2]
      · cases h'
    · cases h'
  · cases h'
end Go.Fw.K
