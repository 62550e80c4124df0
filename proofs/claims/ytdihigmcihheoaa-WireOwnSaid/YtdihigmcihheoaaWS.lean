/-
  The wire's bytes as plain lists: numbers, values, lists.
-/
import Derived.WalkKit
set_option linter.unusedVariables false
set_option linter.unusedSimpArgs false
namespace Go.Proofs.Ytdihigmcihheoaa

/-- A byte in memory. -/
def bv (c : UInt8) : Value := .int .u8 c.toNat

/-- A number's bytes. -/
def numB (n : Nat) : List UInt8 := if n < 128 then [UInt8.ofNat n] else UInt8.ofNat (n % 128 + 128) :: numB (n / 128)
termination_by n

theorem numB_lt {n : Nat} (h : n < 128) : numB n = [UInt8.ofNat n] := by rw [numB, if_pos h]
theorem numB_ge {n : Nat} (h : 128 ≤ n) : numB n = UInt8.ofNat (n % 128 + 128) :: numB (n / 128) := by rw [numB, if_neg (by omega)]
theorem numB_len : ∀ (k n : Nat), n < 128 ^ (k + 1) → (numB n).length ≤ k + 1
  | 0, n, h => by rw [numB_lt (by simpa using h)]; simp
  | k + 1, n, h => by
    by_cases hn : n < 128
    · rw [numB_lt hn]; simp
    · rw [numB_ge (by omega)]
      have := numB_len k (n / 128) (by rw [Nat.div_lt_iff_lt_mul (by omega), ← Nat.pow_succ]; exact h)
      simp only [List.length_cons]; omega
theorem numB_len64 {n : Nat} (h : n < 18446744073709551616) : (numB n).length ≤ 10 := numB_len 9 n (Nat.lt_trans h (by decide))

/-- 'byte(n) | 128'. -/
theorem or128 (n : Nat) : bits .or .u8 (IntKind.u8.wrap n) 128 = ((UInt8.ofNat (n % 128 + 128)).toNat : Int) := by
  have key : ∀ a : Fin 256, bits .or .u8 ((a.val : Nat) : Int) 128 = ((a.val % 128 + 128 : Nat) : Int) := by decide +kernel
  have hw : IntKind.u8.wrap (n : Int) = ((n % 256 : Nat) : Int) := by simp [IntKind.wrap, IntKind.bits, IntKind.signed]
  rw [hw, key ⟨n % 256, by omega⟩]
  simp only [UInt8.toNat_ofNat']
  omega
theorem byte8 (n : Nat) : IntKind.u8.wrap (n : Int) = ((UInt8.ofNat n).toNat : Int) := by simp [IntKind.wrap, IntKind.bits, IntKind.signed]

/-- Eight bytes, the highest ones first. -/
def eightB (n : Nat) : List UInt8 := (List.range 8).map fun j => UInt8.ofNat (n / 2 ^ (8 * (7 - j)))
theorem eightB_len (n : Nat) : (eightB n).length = 8 := by simp [eightB]

/-- Of an int64 the number that stands for it. -/
def zig (i : Int) : Nat := if 0 ≤ i then (2 * i).toNat else (-2 * i - 1).toNat
theorem zig_lt {i : Int} (h : -9223372036854775808 ≤ i) (h' : i ≤ 9223372036854775807) : zig i < 18446744073709551616 := by unfold zig; split <;> omega

/-- 'uint64(i)<<1 ^ uint64(i>>63)'. -/
theorem zig_bits {i : Int} (h : -9223372036854775808 ≤ i) (h' : i ≤ 9223372036854775807) :
    bits .xor .u64 (IntKind.u64.wrap (IntKind.u64.wrap i * 2 ^ min (1 : Int).toNat IntKind.u64.bits)) (IntKind.u64.wrap (i.fdiv (2 ^ min (63 : Int).toNat IntKind.i64.bits))) = ((zig i : Nat) : Int) := by
  have e1 : IntKind.u64.wrap (IntKind.u64.wrap i * 2 ^ min (1 : Int).toNat IntKind.u64.bits) = (2 * i) % 18446744073709551616 := by
    simp [IntKind.wrap, IntKind.bits, IntKind.signed]; omega
  have e2 : IntKind.u64.wrap (i.fdiv (2 ^ min (63 : Int).toNat IntKind.i64.bits)) = if 0 ≤ i then 0 else 18446744073709551615 := by
    rw [Int.fdiv_eq_ediv_of_nonneg _ (by decide)]
    have : i / (2 ^ min (63 : Int).toNat IntKind.i64.bits) = if 0 ≤ i then 0 else -1 := by
      have : (2 : Int) ^ min (63 : Int).toNat IntKind.i64.bits = 9223372036854775808 := by decide
      rw [this]; split <;> omega
    rw [this]
    split <;> simp [IntKind.wrap, IntKind.bits, IntKind.signed]
  rw [e1, e2]
  unfold zig
  split
  · rename_i hi
    rw [show (2 * i) % 18446744073709551616 = (((2 * i).toNat : Nat) : Int) from by omega]
    have hx : (2 * i).toNat < 18446744073709551616 := by omega
    show IntKind.u64.wrap ((BitVec.ofInt 64 (((2 * i).toNat : Nat) : Int) ^^^ BitVec.ofInt 64 0).toNat : Int) = _
    rw [BitVec.ofInt_natCast, show BitVec.ofInt 64 0 = 0#64 from rfl, BitVec.xor_zero, BitVec.toNat_ofNat, Nat.mod_eq_of_lt hx]
    simp [IntKind.wrap, IntKind.bits, IntKind.signed]; omega
  · rename_i hi
    rw [show (2 * i) % 18446744073709551616 = (((2 * i + 18446744073709551616).toNat : Nat) : Int) from by omega]
    have hx : (2 * i + 18446744073709551616).toNat < 18446744073709551616 := by omega
    show IntKind.u64.wrap ((BitVec.ofInt 64 (((2 * i + 18446744073709551616).toNat : Nat) : Int) ^^^ BitVec.ofInt 64 18446744073709551615).toNat : Int) = _
    rw [BitVec.ofInt_natCast, show BitVec.ofInt 64 18446744073709551615 = BitVec.allOnes 64 from rfl, BitVec.xor_allOnes, BitVec.toNat_not, BitVec.toNat_ofNat, Nat.mod_eq_of_lt hx]
    simp [IntKind.wrap, IntKind.bits, IntKind.signed]; omega
end Go.Proofs.Ytdihigmcihheoaa
