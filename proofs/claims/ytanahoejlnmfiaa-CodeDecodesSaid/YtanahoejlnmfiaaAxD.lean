/- The codec's numbers, as plain functions on lists of bytes, and the arithmetic that its code does. Conditions: those of each lemma. -/
import Derived.Test.YtanahoejlnmfiaaAxO
set_option maxRecDepth 100000
namespace Go.Ax

def putU (n : Nat) : List UInt8 := if n < 128 then [UInt8.ofNat n] else UInt8.ofNat (n % 128 + 128) :: putU (n / 128)
termination_by n
decreasing_by omega
theorem putU_lt {n : Nat} (h : n < 128) : putU n = [UInt8.ofNat n] := by rw [putU, if_pos h]
theorem putU_ge {n : Nat} (h : ¬ n < 128) : putU n = UInt8.ofNat (n % 128 + 128) :: putU (n / 128) := by rw [putU, if_neg h]
theorem putU_len : ∀ (k n : Nat), n < 128 ^ (k + 1) → (putU n).length ≤ k + 1
  | 0, n, h => by rw [putU_lt (by omega)]; simp
  | k + 1, n, h => by
    by_cases hn : n < 128
    · rw [putU_lt hn]; simp
    · rw [putU_ge hn]
      have := putU_len k (n / 128) (by
        rw [Nat.div_lt_iff_lt_mul (by decide)]
        have : 128 ^ (k + 1 + 1) = 128 ^ (k + 1) * 128 := Nat.pow_succ ..
        omega)
      simp; omega
def takeG : List UInt8 → Nat → Nat → Nat × Nat × Nat
  | [], _, _ => (0, 0, 2)
  | b :: r, i, acc =>
    if (i == 9 && decide (b.toNat > 1) || decide (i > 0) && b.toNat == 0) = true then (0, 0, 3) else
    if b.toNat < 128 then (acc + b.toNat * 2 ^ (7 * i), i + 1, 0) else takeG r (i + 1) (acc + b.toNat % 128 * 2 ^ (7 * i))
def takeU (s : List UInt8) : Nat × Nat × Nat := takeG s 0 0

theorem wrap_i64 (n : Int) : IntKind.i64.wrap n = (n + 9223372036854775808) % 18446744073709551616 - 9223372036854775808 := by
  simp [IntKind.wrap, IntKind.bits, IntKind.signed]
  split <;> omega
theorem wrap_u64 (n : Int) : IntKind.u64.wrap n = n % 18446744073709551616 := by simp [IntKind.wrap, IntKind.bits, IntKind.signed]
theorem wrap_u8 (n : Int) : IntKind.u8.wrap n = n % 256 := by simp [IntKind.wrap, IntKind.bits, IntKind.signed]
theorem wrapi {x : Int} (h : -9223372036854775808 ≤ x) (h' : x ≤ 9223372036854775807) : IntKind.i64.wrap x = x := by rw [wrap_i64]; omega
theorem wrapu {x : Int} (h : 0 ≤ x) (h' : x < 18446744073709551616) : IntKind.u64.wrap x = x := by rw [wrap_u64]; omega
theorem ofInt_nat (w a : Nat) : (BitVec.ofInt w (a : Int)).toNat = a % 2 ^ w := by simp
theorem or_u8 : ∀ m : Nat, m < 256 → bitsI .or .u8 (m : Int) 128 = ((m % 128 + 128 : Nat) : Int) := by decide +kernel
theorem and_u8 : ∀ m : Nat, m < 256 → bitsI .and .u8 (m : Int) 127 = ((m % 128 : Nat) : Int) := by decide +kernel
theorem or_u64 {a b i : Nat} (ha : a < 2 ^ i) (hi : i ≤ 64) (hb : b * 2 ^ i < 18446744073709551616) : bitsI .or .u64 (a : Int) ((b * 2 ^ i : Nat) : Int) = ((a + b * 2 ^ i : Nat) : Int) := by
  have h64 : (2 : Nat) ^ 64 = 18446744073709551616 := by decide
  have ha' : a < 18446744073709551616 := by
    have : 2 ^ i ≤ 2 ^ 64 := Nat.pow_le_pow_right (by decide) hi
    omega
  have e : (a ||| b * 2 ^ i) = a + b * 2 ^ i := by
    have := Nat.two_pow_add_eq_or_of_lt ha b
    rw [Nat.mul_comm] at this
    rw [Nat.or_comm]
    omega
  have eq : bitsI .or .u64 (a : Int) ((b * 2 ^ i : Nat) : Int) = IntKind.u64.wrap ((BitVec.ofInt 64 (a : Int) ||| BitVec.ofInt 64 ((b * 2 ^ i : Nat) : Int) : BitVec 64).toNat : Int) := rfl
  rw [eq, BitVec.toNat_or, ofInt_nat, ofInt_nat, h64]
  rw [Nat.mod_eq_of_lt ha', Nat.mod_eq_of_lt hb, e, wrapu (by omega)]
  have : a + b * 2 ^ i < 2 ^ 64 := by
    rw [← e]; exact Nat.or_lt_two_pow (by omega) (by omega)
  omega
theorem shAmt_u64 {n : Nat} (h : n ≤ 64) : shAmt .u64 (n : Int) = n := by unfold shAmt; simp [IntKind.bits]; omega

/-- the bytes of a string, and back -/
def strOf (l : List UInt8) : ByteArray := ⟨l.toArray⟩
theorem strOf_vals (l : List UInt8) : byteVals (strOf l) = l.map fun b => .int .u8 b.toNat := by simp [byteVals, strOf]
theorem strOf_size (l : List UInt8) : (strOf l).size = l.length := by simp [strOf, ByteArray.size]
theorem strOf_list (l : List UInt8) : (strOf l).data.toList = l := by simp [strOf]
theorem of_list_eq {s t : ByteArray} (h : s.data.toList = t.data.toList) : s = t := by
  cases s; cases t
  congr 1
  exact Array.toList_inj.mp h
theorem one_bytes (l : List UInt8) : allOne (l.map fun b => Value.int .u8 b.toNat) = true := by
  induction l with
  | nil => rfl
  | cons b l ih => simp [allOne, one, ih]
end Go.Ax
