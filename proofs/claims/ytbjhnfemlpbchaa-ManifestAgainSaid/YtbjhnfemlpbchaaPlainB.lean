/- Layer 14 in plain words: folds. No program. -/
import Derived.Test.YtbjhnfemlpbchaaPlain
namespace Go.Proofs.Ytbjhnfemlpbchaa
open Go.RowKit

def Ma.foldT : Nat → List UInt8 → List (List UInt8)
  | 0, _ => []
  | k + 1, l => if l = [] then [] else (32 :: l.take 71) :: Ma.foldT k (l.drop 71)
def Ma.fold (l : List UInt8) : List (List UInt8) := if l.length ≤ 72 then [l] else l.take 72 :: Ma.foldT l.length (l.drop 72)
theorem Ma.foldT_fuel : ∀ (k m : Nat) (l : List UInt8), l.length ≤ k → l.length ≤ m → Ma.foldT k l = Ma.foldT m l
  | 0, 0, _, _, _ => rfl
  | 0, m + 1, l, h, _ => by
    obtain rfl : l = [] := List.eq_nil_of_length_eq_zero (by omega)
    simp [Ma.foldT]
  | k + 1, 0, l, _, h => by
    obtain rfl : l = [] := List.eq_nil_of_length_eq_zero (by omega)
    simp [Ma.foldT]
  | k + 1, m + 1, l, h1, h2 => by
    unfold Ma.foldT
    by_cases h : l = []
    · rw [if_pos h, if_pos h]
    · rw [if_neg h, if_neg h, Ma.foldT_fuel k m (l.drop 71) (by rw [List.length_drop]; omega) (by rw [List.length_drop]; omega)]
/-- The folds of what is left. -/
def Ma.more (l : List UInt8) : List (List UInt8) := Ma.foldT l.length l
theorem Ma.more_nil : Ma.more [] = [] := rfl
theorem Ma.more_step {l : List UInt8} (h : l ≠ []) : Ma.more l = (32 :: l.take 71) :: Ma.more (l.drop 71) := by
  unfold Ma.more
  have hl : 0 < l.length := List.length_pos_iff.2 h
  rw [Ma.foldT_fuel l.length ((l.drop 71).length + 71 + 1) l (Nat.le_refl _) (by rw [List.length_drop]; omega)]
  show (if l = [] then [] else (32 :: l.take 71) :: Ma.foldT ((l.drop 71).length + 71) (l.drop 71)) = _
  rw [if_neg h, Ma.foldT_fuel ((l.drop 71).length + 71) (l.drop 71).length (l.drop 71) (by omega) (Nat.le_refl _)]
theorem Ma.fold_long {l : List UInt8} (h : ¬ l.length ≤ 72) : Ma.fold l = l.take 72 :: Ma.more (l.drop 72) := by
  unfold Ma.fold Ma.more
  rw [if_neg h, Ma.foldT_fuel l.length (l.drop 72).length (l.drop 72) (by rw [List.length_drop]; omega) (Nat.le_refl _)]
end Go.Proofs.Ytbjhnfemlpbchaa
