/- Layer 35 in plain words: how long numbers and lines are. -/
import Derived.Test.YtmidabbfjciogaaDoorWalksC
namespace Go.Proofs.YtmidabbfjciogaaDoor
open Go.RowKit

theorem nDigits_le : ∀ (k u : Nat), u < 10 ^ (k + 1) → Lib.nDigits u ≤ k + 1
  | 0, u, h => by rw [Lib.nDigits_small (by omega)]; omega
  | k + 1, u, h => by
    by_cases h1 : u < 10
    · rw [Lib.nDigits_small h1]; omega
    · rw [Lib.nDigits_big h1]
      have := nDigits_le k (u / 10) (by rw [Nat.pow_succ] at h; omega)
      omega
theorem itoa_len {x : Int} (h : I64 x) : (Lib.itoa x).length ≤ 20 := by
  unfold I64 at h
  unfold Lib.itoa
  split
  · rw [List.length_cons, Lib.decDigits_length]
    have := nDigits_le 18 x.natAbs (by omega)
    omega
  · rw [Lib.decDigits_length]
    have := nDigits_le 18 x.toNat (by omega)
    omega
theorem line_len (m : Nat) : ∀ xs : List (List UInt8), (∀ x ∈ xs, x.length ≤ m) → (Li.line xs).length ≤ xs.length * (m + 1)
  | [], _ => by simp [Li.line, Lib.join]
  | [x], h => by
    have := h x (by simp)
    simp [Li.line, Lib.join]; omega
  | x :: y :: r, h => by
    have h1 := h x (by simp)
    have ih := line_len m (y :: r) (fun z hz => h z (by simp at hz ⊢; exact .inr hz))
    have e : Li.line (x :: y :: r) = x ++ 32 :: Li.line (y :: r) := by simp [Li.line, Lib.join, List.intercalate]
    rw [e, List.length_append, List.length_cons]
    have e2 : (x :: y :: r).length * (m + 1) = (y :: r).length * (m + 1) + (m + 1) := by rw [List.length_cons (a := x), Nat.succ_mul]
    omega
end Go.Proofs.YtmidabbfjciogaaDoor
