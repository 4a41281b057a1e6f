/- Numbers of whole bytes, the highest first. No program. -/
import Derived.Test.YtjbbhfloomejoaaStr
namespace Go.Proofs.Ytjbbhfloomejoaa

def bigB : Nat → Nat → List UInt8
  | 0, _ => []
  | n + 1, v => UInt8.ofNat (v / 256 ^ n) :: bigB n v
def litB : Nat → Nat → List UInt8
  | 0, _ => []
  | n + 1, v => UInt8.ofNat v :: litB n (v / 256)
theorem bigB_len : ∀ n v, (bigB n v).length = n
  | 0, _ => rfl
  | n + 1, v => by simp only [bigB, List.length_cons, bigB_len n v]
theorem litB_len : ∀ n v, (litB n v).length = n
  | 0, _ => rfl
  | n + 1, v => by simp only [litB, List.length_cons, litB_len n]
theorem bigB_snoc : ∀ n v, bigB (n + 1) v = bigB n (v / 256) ++ [UInt8.ofNat v]
  | 0, v => by simp [bigB]
  | n + 1, v => by
    rw [bigB, bigB_snoc n v, bigB, List.cons_append, Nat.div_div_eq_div_mul, Nat.pow_succ, Nat.mul_comm]
theorem litB_rev : ∀ n v, (litB n v).reverse = bigB n v
  | 0, _ => rfl
  | n + 1, v => by rw [litB, List.reverse_cons, litB_rev n, bigB_snoc]
theorem litB_snoc : ∀ n v, litB (n + 1) v = litB n v ++ [UInt8.ofNat (v / 256 ^ n)]
  | 0, v => by simp [litB]
  | n + 1, v => by
    rw [litB, litB_snoc n (v / 256), litB, List.cons_append, Nat.div_div_eq_div_mul, Nat.pow_succ, Nat.mul_comm]
theorem u8_toNat (x : Nat) : (UInt8.ofNat x).toNat = x % 256 := UInt8.toNat_ofNat' ..
end Go.Proofs.Ytjbbhfloomejoaa
