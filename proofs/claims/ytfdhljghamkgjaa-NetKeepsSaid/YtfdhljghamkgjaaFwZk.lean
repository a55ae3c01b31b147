/- Chapter 2: numbers as bytes, in plain arithmetic. -/
import Derived.Test.YtfdhljghamkgjaaFwZj
namespace Go.Fw
set_option linter.unusedSimpArgs false
set_option linter.unusedVariables false

def bU8 (n : Int) : UInt8 := UInt8.ofNat (IntKind.u8.wrap n).toNat
theorem bU8_int (n : Int) : ((bU8 n).toNat : Int) = IntKind.u8.wrap n := by
  unfold bU8
  rw [UInt8.toNat_ofNat', IntKind.wrap_u8]
  omega

def byteAt (n : Int) (k : Nat) : UInt8 := bU8 (n.fdiv (2 ^ k))
/-- The first so many of a number's eight bytes. -/
def pre8 (n : Int) (j : Nat) : List UInt8 := (List.range j).map fun q => byteAt n (8 * (7 - q))
def be8 (n : Int) : List UInt8 := pre8 n 8
theorem pre8_succ (n : Int) (j : Nat) : pre8 n (j + 1) = pre8 n j ++ [byteAt n (8 * (7 - j))] := by simp [pre8, List.range_succ]
@[simp] theorem be8_len (n : Int) : (be8 n).length = 8 := by simp [be8, pre8]

def dec (l : List UInt8) : Int := l.foldl (fun n c => n * 256 + c.toNat) 0
theorem dec_snoc (l : List UInt8) (c : UInt8) : dec (l ++ [c]) = dec l * 256 + c.toNat := by simp [dec]

theorem dec_be8 (n : Int) (h : -9223372036854775808 ≤ n ∧ n ≤ 9223372036854775807) : IntKind.i64.wrap (dec (be8 n)) = n := by
  have hb : ∀ k : Nat, ((byteAt n k).toNat : Int) = (n / 2 ^ k) % 256 := by
    intro k
    unfold byteAt
    rw [bU8_int, IntKind.wrap_u8, Int.fdiv_eq_ediv_of_nonneg _ (by exact Int.pow_nonneg (by decide))]
  have hd : dec (be8 n) = (((((((n / 2 ^ 56 % 256) * 256 + n / 2 ^ 48 % 256) * 256 + n / 2 ^ 40 % 256) * 256 + n / 2 ^ 32 % 256) * 256 + n / 2 ^ 24 % 256) * 256 + n / 2 ^ 16 % 256) * 256 + n / 2 ^ 8 % 256) * 256 + n / 2 ^ 0 % 256 := by
    have : be8 n = [byteAt n 56, byteAt n 48, byteAt n 40, byteAt n 32, byteAt n 24, byteAt n 16, byteAt n 8, byteAt n 0] := rfl
    rw [this]
    simp only [dec, List.foldl_cons, List.foldl_nil, hb]
    omega
  rw [hd, IntKind.wrap_i64]
  have e1 : n / 2 ^ 8 = n / 256 := rfl
  have e2 : n / 2 ^ 16 = n / 2 ^ 8 / 256 := by omega
  have e3 : n / 2 ^ 24 = n / 2 ^ 16 / 256 := by omega
  have e4 : n / 2 ^ 32 = n / 2 ^ 24 / 256 := by omega
  have e5 : n / 2 ^ 40 = n / 2 ^ 32 / 256 := by omega
  have e6 : n / 2 ^ 48 = n / 2 ^ 40 / 256 := by omega
  have e7 : n / 2 ^ 56 = n / 2 ^ 48 / 256 := by omega
  have e0 : n / 2 ^ 0 = n := by simp
  rw [e7, e6, e5, e4, e3, e2, e1, e0]
  generalize ha1 : n / 256 = a1
  generalize ha2 : a1 / 256 = a2
  generalize ha3 : a2 / 256 = a3
  generalize ha4 : a3 / 256 = a4
  generalize ha5 : a4 / 256 = a5
  generalize ha6 : a5 / 256 = a6
  generalize ha7 : a6 / 256 = a7
  omega

/-- One byte more, on the left. -/
theorem or_byte (k : IntKind) (hk : k = .i64 ∨ k = .u64) (m : Int) (c : Nat) (hc : c < 256) : aBin .or .plain (.int k (k.wrap (k.wrap m * 2 ^ 8))) (.int k (c : Int)) = some (.int k (k.wrap (m * 256 + c))) := by
  have h1 : ∀ x : Int, (BitVec.ofInt 64 x).toNat = (x % 2 ^ 64).toNat := fun x => BitVec.toNat_ofInt ..
  have hq : ((k.wrap (k.wrap m * 2 ^ 8)) % 2 ^ 64).toNat = 2 ^ 8 * (m % 2 ^ 56).toNat := by
    rcases hk with rfl | rfl
    · rw [IntKind.wrap_i64, IntKind.wrap_i64]; omega
    · rw [IntKind.wrap_u64, IntKind.wrap_u64]; omega
  have hcc : ((c : Int) % 2 ^ 64).toNat = c := by omega
  have hor : 2 ^ 8 * (m % 2 ^ 56).toNat ||| c = 2 ^ 8 * (m % 2 ^ 56).toNat + c := (Nat.two_pow_add_eq_or_of_lt (by omega) _).symm
  have hbits : k.bits = 64 := by rcases hk with rfl | rfl <;> rfl
  have key : aBin .or .plain (.int k (k.wrap (k.wrap m * 2 ^ 8))) (.int k (c : Int)) = some (.int k (k.wrap (BitVec.ofInt 64 (k.wrap (k.wrap m * 2 ^ 8)) ||| BitVec.ofInt 64 (c : Int)).toNat)) := by
    rcases hk with rfl | rfl <;> rfl
  rw [key, BitVec.toNat_or, h1, h1, hq, hcc, hor]
  simp only [Option.some.injEq, AVal.int.injEq, true_and]
  rcases hk with rfl | rfl
  · rw [IntKind.wrap_i64, IntKind.wrap_i64]; omega
  · rw [IntKind.wrap_u64, IntKind.wrap_u64]; omega

theorem shl_byte (k : IntKind) (hk : k = .i64 ∨ k = .u64) (x : Int) : aBin .shl .plain (.int k x) (.int .u64 8) = some (.int k (k.wrap (x * 2 ^ 8))) := by
  rcases hk with rfl | rfl <;> simp [aBin, aShift, IntKind.bits]

theorem shr_eq (n : Int) (j : IntKind) (k : Nat) (hk : k ≤ 64) : aBin .shr .plain (.int .i64 n) (.int j (k : Int)) = some (.int .i64 (n.fdiv (2 ^ k))) := by
  have h1 : ¬ (k : Int) < 0 := by omega
  have h2 : min k 64 = k := by omega
  simp [aBin, aShift, h1, IntKind.bits, h2]

end Go.Fw
