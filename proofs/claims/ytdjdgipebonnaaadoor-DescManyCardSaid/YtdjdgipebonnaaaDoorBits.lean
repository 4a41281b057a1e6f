/- Plain laws on masks of int and of uint16; no program. -/
import Derived.WalkKit
namespace Go.Proofs.YtdjdgipebonnaaaDoor
open Go.RowKit

theorem i64_mask (k : Nat) (hk : k ≤ 62) (n : Int) : bits .and .i64 n ((2 ^ k - 1 : Nat) : Int) = n % ((2 ^ k : Nat) : Int) := by
  have hp : 0 < 2 ^ k := Nat.two_pow_pos k
  have hb : (2 ^ k : Nat) ≤ 2 ^ 62 := Nat.pow_le_pow_right (by decide) hk
  have h1 : (BitVec.ofInt 64 ((2 ^ k - 1 : Nat) : Int)).toNat = 2 ^ k - 1 := by
    rw [BitVec.ofInt_natCast, BitVec.toNat_ofNat]; apply Nat.mod_eq_of_lt; have : (2:Nat) ^ 62 < 2 ^ 64 := by decide
    omega
  have key : (BitVec.ofInt 64 n &&& BitVec.ofInt 64 ((2 ^ k - 1 : Nat) : Int)).toNat = (n % ((2 ^ 64 : Nat) : Int)).toNat % 2 ^ k := by
    rw [BitVec.toNat_and, BitVec.toNat_ofInt, h1, Nat.and_two_pow_sub_one_eq_mod]
  show IntKind.i64.wrap ((BitVec.ofInt 64 n &&& BitVec.ofInt 64 ((2 ^ k - 1 : Nat) : Int)).toNat : Nat) = _
  rw [key, IntKind.wrap_i64]
  have hd : (2 ^ k : Nat) ∣ 2 ^ 64 := Nat.pow_dvd_pow 2 (by omega)
  have hnn : 0 ≤ n % ((2 ^ 64 : Nat) : Int) := Int.emod_nonneg _ (by decide)
  have e1 : (((n % ((2 ^ 64 : Nat) : Int)).toNat % 2 ^ k : Nat) : Int) = n % ((2 ^ k : Nat) : Int) := by
    rw [Int.natCast_emod, Int.toNat_of_nonneg hnn]
    exact Int.emod_emod_of_dvd n (by exact_mod_cast hd)
  rw [e1]
  have l1 : 0 ≤ n % ((2 ^ k : Nat) : Int) := Int.emod_nonneg _ (by omega)
  have l2 : n % ((2 ^ k : Nat) : Int) < ((2 ^ k : Nat) : Int) := Int.emod_lt_of_pos _ (by omega)
  have l3 : ((2 ^ k : Nat) : Int) ≤ 4611686018427387904 := by
    have : ((2 ^ k : Nat) : Int) ≤ ((2 ^ 62 : Nat) : Int) := by exact_mod_cast hb
    simpa using this
  generalize n % ((2 ^ k : Nat) : Int) = r at *
  generalize ((2 ^ k : Nat) : Int) = q at *
  omega
theorem i64_and1 (n : Int) : bits .and .i64 n 1 = n % 2 := i64_mask 1 (by decide) n
theorem i64_and3 (n : Int) : bits .and .i64 n 3 = n % 4 := i64_mask 2 (by decide) n
theorem i64_and7 (n : Int) : bits .and .i64 n 7 = n % 8 := i64_mask 3 (by decide) n
theorem i64_and255 (n : Int) : bits .and .i64 n 255 = n % 256 := i64_mask 8 (by decide) n

theorem wraps_u16 (n : Int) (h₀ : 0 ≤ n) (h₁ : n < 2 ^ 16) : IntKind.u16.wrap n = n := by rw [IntKind.wrap_u16]; omega
theorem u16_and15 (x : Int) (h₀ : 0 ≤ x) (h₁ : x < 65536) : bits .and .u16 x 15 = x % 16 := bits_mask .u16 16 (by decide) wraps_u16 4 (by decide) x h₀ h₁
theorem u16_and31 (x : Int) (h₀ : 0 ≤ x) (h₁ : x < 65536) : bits .and .u16 x 31 = x % 32 := bits_mask .u16 16 (by decide) wraps_u16 5 (by decide) x h₀ h₁
theorem u16_and63 (x : Int) (h₀ : 0 ≤ x) (h₁ : x < 65536) : bits .and .u16 x 63 = x % 64 := bits_mask .u16 16 (by decide) wraps_u16 6 (by decide) x h₀ h₁
theorem wraps_i64 (n : Int) (h₀ : 0 ≤ n) (h₁ : n < 2 ^ 62) : IntKind.i64.wrap n = n := by rw [IntKind.wrap_i64]; omega
/-- 'x | y' where x is a multiple of 2^i and y below it. -/
theorem i64_or (i : Nat) (x y : Int) (hx₀ : 0 ≤ x) (hx : x % 2 ^ i = 0) (hx₁ : x < 2 ^ 62) (hy₀ : 0 ≤ y) (hy : y < 2 ^ i) (hy₁ : y < 2 ^ 62) : bits .or .i64 x y = x + y :=
  bits_join .i64 62 (by decide) wraps_i64 i x y hx₀ hx hx₁ hy₀ hy hy₁
end Go.Proofs.YtdjdgipebonnaaaDoor
