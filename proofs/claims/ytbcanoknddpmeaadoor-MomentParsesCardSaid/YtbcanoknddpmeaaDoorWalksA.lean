/- The walks of the small functions of layer 11: days of a month, bounds, whether numbers may be. -/
import Derived.Test.YtbcanoknddpmeaaDoorBits
import Derived.Test.YtbcanoknddpmeaaDoorPlain
import Derived.Test.YtbcanoknddpmeaaDoorGrow
import Derived.Test.YtbcanoknddpmeaaDoorProg
import Derived.WalkKit
import Derived.WalkSpells
import Derived.WalkLawsBesides
import Derived.Deep.QuietTactic
import Derived.BigQuiet
namespace Go.Proofs.YtbcanoknddpmeaaDoor
open Go.RowKit

set_option maxHeartbeats 400000 in
theorem within_any (n m : Int) (w : World) :
    Calls Tryd.prog 27 #[.int .i64 n, .int .i64 m] w fun e w' => e = .returned (.bool (decide (0 ≤ n ∧ n ≤ m))) ∧ w = w' := by
  by_cases h0 : 0 ≤ n
  · go_enter Tryd.func27, Tryd.ntmps27
    go_wp2
    go_ret
    exact ⟨ret_bool (by simp [h0]), rfl⟩
  · go_enter Tryd.func27, Tryd.ntmps27
    go_wp2
    go_ret
    exact ⟨ret_bool (by simp [h0]; try omega), rfl⟩

theorem dayslong (m : Int) (h1 : 1 ≤ m) (h2 : m ≤ 12) (h3 : ¬ m = 2) : wrap64 (30 + bits .and .i64 (m + m / 8) 1) = if m = 4 ∨ m = 6 ∨ m = 9 ∨ m = 11 then 30 else 31 := by
  rw [i64_and1]
  have : m = 1 ∨ m = 3 ∨ m = 4 ∨ m = 5 ∨ m = 6 ∨ m = 7 ∨ m = 8 ∨ m = 9 ∨ m = 10 ∨ m = 11 ∨ m = 12 := by omega
  rcases this with rfl | rfl | rfl | rfl | rfl | rfl | rfl | rfl | rfl | rfl | rfl <;> decide +kernel

set_option maxHeartbeats 400000 in
theorem days_any (y m : Int) (w : World) :
    Calls Tryd.prog 9 #[.int .i64 y, .int .i64 m] w fun e w' => e = .returned (.int .i64 (Mo.days y m)) ∧ w = w' := by
  go_enter Tryd.func9, Tryd.ntmps9
  go_wp2
  all_goals go_ret
  all_goals refine ⟨ret_int ?_, rfl⟩
  all_goals try simp only [i64_and3, bne_iff_ne, ne_eq, beq_iff_eq, bne_eq_false_iff_eq, beq_eq_false_iff_ne] at *
  all_goals unfold Mo.days
  all_goals first
    | (rw [if_pos (by omega)]; done)
    | (rw [if_neg (by omega), if_pos (by omega)]; done)
    | (rw [if_neg (by omega), if_neg (by omega), if_pos (by omega)]; done)
    | (rw [if_neg (by omega), if_neg (by omega), if_neg (by omega)]; exact dayslong _ (by omega) (by omega) (by omega))


set_option maxHeartbeats 4000000 in
theorem rdays_any (y m : Int) (w : World) :
    Calls Tryd.prog 10 #[.int .i64 y, .int .i64 m] w fun e w' => e = .returned (.int .i64 (Mo.days y m)) ∧ Below w.heap.size w w' := by
  by_cases hin : 1980 ≤ y ∧ y ≤ 2107 ∧ 1 ≤ m ∧ m ≤ 12 ∧ ¬ m = 2
  · obtain ⟨a, b, c, d, f⟩ := hin
    have : m = 1 ∨ m = 3 ∨ m = 4 ∨ m = 5 ∨ m = 6 ∨ m = 7 ∨ m = 8 ∨ m = 9 ∨ m = 10 ∨ m = 11 ∨ m = 12 := by omega
    clear c d f
    rcases this with rfl | rfl | rfl | rfl | rfl | rfl | rfl | rfl | rfl | rfl | rfl
    all_goals
      go_enter Tryd.func10, Tryd.ntmps10
      go_wp2
      go_ret
      refine ⟨ret_int ?_, (Below.refl _ _).alloc (Nat.le_refl _) _⟩
      unfold Mo.days
      rw [if_neg (by omega), if_neg (by omega), if_neg (by omega)]
      rfl
  · by_cases hm : 1980 ≤ y ∧ y ≤ 2107 ∧ m = 2
    · obtain ⟨a, b, rfl⟩ := hm
      clear hin
      go_enter Tryd.func10, Tryd.ntmps10
      go_wp2
      all_goals go_ret
      all_goals refine ⟨ret_int ?_, by first | exact Below.refl _ _ | exact (Below.refl _ _).alloc (Nat.le_refl _) _⟩
      all_goals try simp only [bne_iff_ne, ne_eq, bne_eq_false_iff_eq] at *
      all_goals unfold Mo.days
      all_goals first
        | (rw [if_neg (by omega), if_pos (by omega)]; done)
        | (rw [if_neg (by omega), if_neg (by omega), if_pos (by omega)]; done)
    · have ho : y < 1980 ∨ 2107 < y ∨ m < 1 ∨ 12 < m := by omega
      have hd : Mo.days y m = 0 := by unfold Mo.days; rw [if_pos ho]
      rw [hd]
      clear hin hm hd
      by_cases h1 : y < 1980
      all_goals try by_cases h2 : 2107 < y
      all_goals try by_cases h3 : m < 1
      all_goals
        try (have h4 : 12 < m := by omega)
        go_enter Tryd.func10, Tryd.ntmps10
        go_wp2
        go_ret
        exact ⟨rfl, Below.refl _ _⟩

end Go.Proofs.YtbcanoknddpmeaaDoor
