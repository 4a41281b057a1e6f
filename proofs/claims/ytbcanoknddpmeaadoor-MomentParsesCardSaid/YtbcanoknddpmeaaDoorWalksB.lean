/- The walks of the small functions of layer 11: days of a month, bounds, whether numbers may be. -/
import Derived.Test.YtbcanoknddpmeaaDoorBits
import Derived.Test.YtbcanoknddpmeaaDoorPlain
import Derived.Test.YtbcanoknddpmeaaDoorProg
import Derived.Test.YtbcanoknddpmeaaDoorWalksA
import Derived.Lib.Hide
import Derived.WalkKit
import Derived.WalkSpells
import Derived.WalkLawsBesides
import Derived.Deep.QuietTactic
import Derived.BigQuiet
namespace Go.Proofs.YtbcanoknddpmeaaDoor
open Go.RowKit

theorem within_t (n m : Int) (w : World) (h : 0 ≤ n ∧ n ≤ m) :
    Calls Tryd.prog 27 #[.int .i64 n, .int .i64 m] w fun e w' => e = .returned (.bool true) ∧ w = w' := by
  have := within_any n m w; rwa [decide_eq_true h] at this
theorem within_f (n m : Int) (w : World) (h : ¬ (0 ≤ n ∧ n ≤ m)) :
    Calls Tryd.prog 27 #[.int .i64 n, .int .i64 m] w fun e w' => e = .returned (.bool false) ∧ w = w' := by
  have := within_any n m w; rwa [decide_eq_false h] at this

set_option maxHeartbeats 4000000 in
theorem right_any (y m d h n s : Int) (w : World) :
    Calls Tryd.prog 20 #[.agg #[.int .i64 y, .int .i64 m, .int .i64 d, .int .i64 h, .int .i64 n, .int .i64 s]] w fun e w' => e = .returned (.bool (Mo.ok y m d h n s)) ∧ Below w.heap.size w w' := by
  have HD : ∀ w, Calls Tryd.prog 9 #[.int .i64 y, .int .i64 m] w fun e w' => e = .returned (.int .i64 (Mo.days y m)) ∧ w = w' := fun w => days_any y m w
  have HO := Lib.hid (Mo.ok_iff y m d h n s)
  generalize Mo.ok y m d h n s = R at *
  generalize Mo.days y m = D at *
  have HDh := Lib.hid HD
  clear HD
  by_cases h1 : 1 ≤ d
  rotate_left
  · skip
    have R' : R = false := by rw [Bool.eq_false_iff]; intro e; have := HO.out.1 e; omega
    subst R'; clear HO
    have g1 : decide (1 ≤ d) = false := by simpa using h1
    go_enter Tryd.func20, Tryd.ntmps20
    go_wp2_with fail
    refine wp_region_grow (by kernel_rfl) (by kernel_rfl) ?_
    repeat (go_big_quiet_step ((first | (go_at_call 9; exact Gr.same (HDh.out _)) | (go_at_call 27; refine Gr.same (within_t _ _ _ ?_); assumption) | (go_at_call 27; refine Gr.same (within_f _ _ _ ?_); assumption))))
    refine wpQuiet_nil ?_
    intro g1
    obtain ⟨w1, hb1⟩ := g1
    go_wp2
    go_ret
    exact ⟨rfl, ((Below.refl _ _).alloc (Nat.le_refl _) _).trans (hb1.mono (by simp))⟩
  by_cases h2 : d ≤ D
  rotate_left
  · skip
    have R' : R = false := by rw [Bool.eq_false_iff]; intro e; have := HO.out.1 e; omega
    subst R'; clear HO
    have g2 : decide (d ≤ D) = false := by simpa using h2
    go_enter Tryd.func20, Tryd.ntmps20
    go_wp2_with fail
    refine wp_region_grow (by kernel_rfl) (by kernel_rfl) ?_
    repeat (go_big_quiet_step ((first | (go_at_call 9; exact Gr.same (HDh.out _)) | (go_at_call 27; refine Gr.same (within_t _ _ _ ?_); assumption) | (go_at_call 27; refine Gr.same (within_f _ _ _ ?_); assumption))))
    refine wpQuiet_nil ?_
    intro g1
    obtain ⟨w1, hb1⟩ := g1
    go_wp2
    go_ret
    exact ⟨rfl, ((Below.refl _ _).alloc (Nat.le_refl _) _).trans (hb1.mono (by simp))⟩
  by_cases h3 : 0 ≤ h ∧ h ≤ 23
  rotate_left
  · skip
    have R' : R = false := by rw [Bool.eq_false_iff]; intro e; have := HO.out.1 e; omega
    subst R'; clear HO
    go_enter Tryd.func20, Tryd.ntmps20
    go_wp2_with fail
    refine wp_region_grow (by kernel_rfl) (by kernel_rfl) ?_
    repeat (go_big_quiet_step ((first | (go_at_call 9; exact Gr.same (HDh.out _)) | (go_at_call 27; refine Gr.same (within_t _ _ _ ?_); assumption) | (go_at_call 27; refine Gr.same (within_f _ _ _ ?_); assumption))))
    refine wpQuiet_nil ?_
    intro g1
    obtain ⟨w1, hb1⟩ := g1
    go_wp2
    go_ret
    exact ⟨rfl, ((Below.refl _ _).alloc (Nat.le_refl _) _).trans (hb1.mono (by simp))⟩
  by_cases h4 : 0 ≤ n ∧ n ≤ 59
  rotate_left
  · skip
    have R' : R = false := by rw [Bool.eq_false_iff]; intro e; have := HO.out.1 e; omega
    subst R'; clear HO
    go_enter Tryd.func20, Tryd.ntmps20
    go_wp2_with fail
    refine wp_region_grow (by kernel_rfl) (by kernel_rfl) ?_
    repeat (go_big_quiet_step ((first | (go_at_call 9; exact Gr.same (HDh.out _)) | (go_at_call 27; refine Gr.same (within_t _ _ _ ?_); assumption) | (go_at_call 27; refine Gr.same (within_f _ _ _ ?_); assumption))))
    refine wpQuiet_nil ?_
    intro g1
    obtain ⟨w1, hb1⟩ := g1
    go_wp2
    go_ret
    exact ⟨rfl, ((Below.refl _ _).alloc (Nat.le_refl _) _).trans (hb1.mono (by simp))⟩
  by_cases h5 : 0 ≤ s ∧ s ≤ 59
  rotate_left
  · skip
    have R' : R = false := by rw [Bool.eq_false_iff]; intro e; have := HO.out.1 e; omega
    subst R'; clear HO
    go_enter Tryd.func20, Tryd.ntmps20
    go_wp2_with fail
    refine wp_region_grow (by kernel_rfl) (by kernel_rfl) ?_
    repeat (go_big_quiet_step ((first | (go_at_call 9; exact Gr.same (HDh.out _)) | (go_at_call 27; refine Gr.same (within_t _ _ _ ?_); assumption) | (go_at_call 27; refine Gr.same (within_f _ _ _ ?_); assumption))))
    refine wpQuiet_nil ?_
    intro g1
    obtain ⟨w1, hb1⟩ := g1
    go_wp2
    go_ret
    exact ⟨rfl, ((Below.refl _ _).alloc (Nat.le_refl _) _).trans (hb1.mono (by simp))⟩
  have R' : R = true := by exact HO.out.2 (by omega)
  subst R'; clear HO
  go_enter Tryd.func20, Tryd.ntmps20
  go_wp2_with fail
  refine wp_region_grow (by kernel_rfl) (by kernel_rfl) ?_
  repeat (go_big_quiet_step ((first | (go_at_call 9; exact Gr.same (HDh.out _)) | (go_at_call 27; refine Gr.same (within_t _ _ _ ?_); assumption) | (go_at_call 27; refine Gr.same (within_f _ _ _ ?_); assumption))))
  refine wpQuiet_nil ?_
  intro g1
  obtain ⟨w1, hb1⟩ := g1
  go_wp2
  go_ret
  exact ⟨rfl, ((Below.refl _ _).alloc (Nat.le_refl _) _).trans (hb1.mono (by simp))⟩

set_option maxHeartbeats 4000000 in
theorem parts_any (y m d h n s : Int) (w : World) :
    Calls Tryd.prog 21 #[.agg #[.int .i64 y, .int .i64 m, .int .i64 d, .int .i64 h, .int .i64 n, .int .i64 s]] w fun e w' => e = .returned (.bool (Mo.ok y m d h n s)) ∧ Below w.heap.size w w' := by
  have HD : ∀ w, Calls Tryd.prog 10 #[.int .i64 y, .int .i64 m] w fun e w' => e = .returned (.int .i64 (Mo.days y m)) ∧ Below w.heap.size w w' := fun w => rdays_any y m w
  have HO := Lib.hid (Mo.ok_iff y m d h n s)
  generalize Mo.ok y m d h n s = R at *
  generalize Mo.days y m = D at *
  have HDh := Lib.hid HD
  clear HD
  by_cases h1 : 1 ≤ d
  rotate_left
  · skip
    have R' : R = false := by rw [Bool.eq_false_iff]; intro e; have := HO.out.1 e; omega
    subst R'; clear HO
    have g1 : decide (1 ≤ d) = false := by simpa using h1
    go_enter Tryd.func21, Tryd.ntmps21
    go_wp2_with fail
    refine wp_region_grow (by kernel_rfl) (by kernel_rfl) ?_
    repeat (go_big_quiet_step ((go_at_call 10; exact Gr.call (HDh.out _))))
    refine wpQuiet_nil ?_
    intro g1
    obtain ⟨w1, hb1⟩ := g1
    go_wp2
    go_ret
    exact ⟨rfl, ((Below.refl _ _).alloc (Nat.le_refl _) _).trans (hb1.mono (by simp))⟩
  by_cases h2 : d ≤ D
  rotate_left
  · skip
    have R' : R = false := by rw [Bool.eq_false_iff]; intro e; have := HO.out.1 e; omega
    subst R'; clear HO
    have g2 : decide (d ≤ D) = false := by simpa using h2
    go_enter Tryd.func21, Tryd.ntmps21
    go_wp2_with fail
    refine wp_region_grow (by kernel_rfl) (by kernel_rfl) ?_
    repeat (go_big_quiet_step ((go_at_call 10; exact Gr.call (HDh.out _))))
    refine wpQuiet_nil ?_
    intro g1
    obtain ⟨w1, hb1⟩ := g1
    go_wp2
    go_ret
    exact ⟨rfl, ((Below.refl _ _).alloc (Nat.le_refl _) _).trans (hb1.mono (by simp))⟩
  by_cases h3 : 0 ≤ h
  rotate_left
  · skip
    have R' : R = false := by rw [Bool.eq_false_iff]; intro e; have := HO.out.1 e; omega
    subst R'; clear HO
    have g3 : decide (0 ≤ h) = false := by simpa using h3
    go_enter Tryd.func21, Tryd.ntmps21
    go_wp2_with fail
    refine wp_region_grow (by kernel_rfl) (by kernel_rfl) ?_
    repeat (go_big_quiet_step ((go_at_call 10; exact Gr.call (HDh.out _))))
    refine wpQuiet_nil ?_
    intro g1
    obtain ⟨w1, hb1⟩ := g1
    go_wp2
    go_ret
    exact ⟨rfl, ((Below.refl _ _).alloc (Nat.le_refl _) _).trans (hb1.mono (by simp))⟩
  by_cases h4 : h ≤ 23
  rotate_left
  · skip
    have R' : R = false := by rw [Bool.eq_false_iff]; intro e; have := HO.out.1 e; omega
    subst R'; clear HO
    have g4 : decide (h ≤ 23) = false := by simpa using h4
    go_enter Tryd.func21, Tryd.ntmps21
    go_wp2_with fail
    refine wp_region_grow (by kernel_rfl) (by kernel_rfl) ?_
    repeat (go_big_quiet_step ((go_at_call 10; exact Gr.call (HDh.out _))))
    refine wpQuiet_nil ?_
    intro g1
    obtain ⟨w1, hb1⟩ := g1
    go_wp2
    go_ret
    exact ⟨rfl, ((Below.refl _ _).alloc (Nat.le_refl _) _).trans (hb1.mono (by simp))⟩
  by_cases h5 : 0 ≤ n
  rotate_left
  · skip
    have R' : R = false := by rw [Bool.eq_false_iff]; intro e; have := HO.out.1 e; omega
    subst R'; clear HO
    have g5 : decide (0 ≤ n) = false := by simpa using h5
    go_enter Tryd.func21, Tryd.ntmps21
    go_wp2_with fail
    refine wp_region_grow (by kernel_rfl) (by kernel_rfl) ?_
    repeat (go_big_quiet_step ((go_at_call 10; exact Gr.call (HDh.out _))))
    refine wpQuiet_nil ?_
    intro g1
    obtain ⟨w1, hb1⟩ := g1
    go_wp2
    go_ret
    exact ⟨rfl, ((Below.refl _ _).alloc (Nat.le_refl _) _).trans (hb1.mono (by simp))⟩
  by_cases h6 : n ≤ 59
  rotate_left
  · skip
    have R' : R = false := by rw [Bool.eq_false_iff]; intro e; have := HO.out.1 e; omega
    subst R'; clear HO
    have g6 : decide (n ≤ 59) = false := by simpa using h6
    go_enter Tryd.func21, Tryd.ntmps21
    go_wp2_with fail
    refine wp_region_grow (by kernel_rfl) (by kernel_rfl) ?_
    repeat (go_big_quiet_step ((go_at_call 10; exact Gr.call (HDh.out _))))
    refine wpQuiet_nil ?_
    intro g1
    obtain ⟨w1, hb1⟩ := g1
    go_wp2
    go_ret
    exact ⟨rfl, ((Below.refl _ _).alloc (Nat.le_refl _) _).trans (hb1.mono (by simp))⟩
  by_cases h7 : 0 ≤ s
  rotate_left
  · skip
    have R' : R = false := by rw [Bool.eq_false_iff]; intro e; have := HO.out.1 e; omega
    subst R'; clear HO
    have g7 : decide (0 ≤ s) = false := by simpa using h7
    go_enter Tryd.func21, Tryd.ntmps21
    go_wp2_with fail
    refine wp_region_grow (by kernel_rfl) (by kernel_rfl) ?_
    repeat (go_big_quiet_step ((go_at_call 10; exact Gr.call (HDh.out _))))
    refine wpQuiet_nil ?_
    intro g1
    obtain ⟨w1, hb1⟩ := g1
    go_wp2
    go_ret
    exact ⟨rfl, ((Below.refl _ _).alloc (Nat.le_refl _) _).trans (hb1.mono (by simp))⟩
  by_cases h8 : s ≤ 59
  rotate_left
  · skip
    have R' : R = false := by rw [Bool.eq_false_iff]; intro e; have := HO.out.1 e; omega
    subst R'; clear HO
    have g8 : decide (s ≤ 59) = false := by simpa using h8
    go_enter Tryd.func21, Tryd.ntmps21
    go_wp2_with fail
    refine wp_region_grow (by kernel_rfl) (by kernel_rfl) ?_
    repeat (go_big_quiet_step ((go_at_call 10; exact Gr.call (HDh.out _))))
    refine wpQuiet_nil ?_
    intro g1
    obtain ⟨w1, hb1⟩ := g1
    go_wp2
    go_ret
    exact ⟨rfl, ((Below.refl _ _).alloc (Nat.le_refl _) _).trans (hb1.mono (by simp))⟩
  have R' : R = true := by exact HO.out.2 (by omega)
  subst R'; clear HO
  go_enter Tryd.func21, Tryd.ntmps21
  go_wp2_with fail
  refine wp_region_grow (by kernel_rfl) (by kernel_rfl) ?_
  repeat (go_big_quiet_step ((go_at_call 10; exact Gr.call (HDh.out _))))
  refine wpQuiet_nil ?_
  intro g1
  obtain ⟨w1, hb1⟩ := g1
  go_wp2
  go_ret
  exact ⟨rfl, ((Below.refl _ _).alloc (Nat.le_refl _) _).trans (hb1.mono (by simp))⟩
end Go.Proofs.YtbcanoknddpmeaaDoor
