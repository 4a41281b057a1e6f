/- The walks of layer 11: a moment's numbers; whether it may be; which is ahead. -/
import Derived.Test.YtbcanoknddpmeaaDoorWalksC
import Derived.Test.YtbcanoknddpmeaaDoorGrowTail
namespace Go.Proofs.YtbcanoknddpmeaaDoor
open Go.RowKit

/-- A moment's six numbers. -/
abbrev sixOf (d c : Int) : Value := .agg #[.int .i64 (1980 + d / 512), .int .i64 (d / 32 % 16), .int .i64 (d % 32), .int .i64 (c / 2048), .int .i64 (c / 32 % 64), .int .i64 (c % 32 * 2)]
set_option maxHeartbeats 1000000 in
theorem split_any (d c : Int) (w : World) (hd : 0 ≤ d ∧ d ≤ 65535) (hc : 0 ≤ c ∧ c ≤ 65535) :
    Calls Tryd.prog 15 #[.agg #[.int .u16 d, .int .u16 c]] w fun e w' => e = .returned (sixOf d c) ∧ Below w.heap.size w w' := by
  have e1 := u16_and15 (d / 32) (by omega) (by omega)
  have e2 := u16_and31 d (by omega) (by omega)
  have e3 := u16_and63 (c / 32) (by omega) (by omega)
  have e4 := u16_and31 c (by omega) (by omega)
  go_enter Tryd.func15, Tryd.ntmps15
  go_wp2
  refine bodyPost_ret (v := sixOf d c) (by simp [results, Tryd.results15, go_sem]) rfl ⟨rfl, ?_⟩
  exact ((Below.refl _ _).alloc (Nat.le_refl _) _).alloc (by simp) _

set_option maxHeartbeats 1000000 in
theorem rsplit_any (d c : Int) (w : World) (hd : 0 ≤ d ∧ d ≤ 65535) (hc : 0 ≤ c ∧ c ≤ 65535) :
    Calls Tryd.prog 17 #[.agg #[.int .u16 d, .int .u16 c]] w fun e w' => e = .returned (sixOf d c) ∧ Below w.heap.size w w' := by
  go_enter Tryd.func17, Tryd.ntmps17
  go_wp2_with fail
  go_quiet (fail)
  go_wp2
  refine bodyPost_ret (v := sixOf d c) (by simp [results, Tryd.results17, go_sem]) rfl ⟨rfl, ?_⟩
  repeat' (first | with_reducible exact Below.refl _ _ | with_reducible assumption | with_reducible apply below_drewN | with_reducible apply Below.drew | with_reducible apply Below.setCell | with_reducible apply Below.alloc)
  all_goals first | done | (simp; done) | (simp; omega) | omega

set_option maxHeartbeats 1000000 in
theorem list_any (y m d h n s : Int) (w : World) :
    Calls Tryd.prog 16 #[.agg #[.int .i64 y, .int .i64 m, .int .i64 d, .int .i64 h, .int .i64 n, .int .i64 s]] w fun e w' => e = .returned (.agg #[.int .i64 y, .int .i64 m, .int .i64 d, .int .i64 h, .int .i64 n, .int .i64 s]) ∧ Below w.heap.size w w' := by
  go_enter Tryd.func16, Tryd.ntmps16
  go_wp2
  refine bodyPost_ret (v := .agg #[.int .i64 y, .int .i64 m, .int .i64 d, .int .i64 h, .int .i64 n, .int .i64 s]) (by simp [results, Tryd.results16, go_sem]) rfl ⟨rfl, ?_⟩
  repeat' (first | with_reducible exact Below.refl _ _ | with_reducible assumption | with_reducible apply below_drewN | with_reducible apply Below.drew | with_reducible apply Below.setCell | with_reducible apply Below.alloc)
  all_goals first | done | (simp; done) | (simp; omega) | omega

/-- Whether a moment may be. -/
def Mo.may (d c : Int) : Bool := Mo.ok (1980 + d / 512) (d / 32 % 16) (d % 32) (c / 2048) (c / 32 % 64) (c % 32 * 2)
set_option maxHeartbeats 1000000 in
theorem mright_any (d c : Int) (w : World) (hd : 0 ≤ d ∧ d ≤ 65535) (hc : 0 ≤ c ∧ c ≤ 65535) :
    Calls Tryd.prog 18 #[.agg #[.int .u16 d, .int .u16 c]] w fun e w' => e = .returned (.bool (Mo.may d c)) ∧ Below w.heap.size w w' := by
  have HS := Lib.hid fun w => split_any d c w hd hc
  go_enter Tryd.func18, Tryd.ntmps18
  go_wp2_with (first
    | (go_at_call 15; refine (HS.out _).mono ?_; rintro e w' ⟨rfl, hb⟩; have hB := Below.after ((Below.refl w.heap.size w).alloc (Nat.le_refl _) _) hb (by simp); clear hb)
    | (go_at_call 20; refine (right_any _ _ _ _ _ _ _).mono ?_; rintro e w2 ⟨rfl, hb⟩; have hB2 := Below.after hB hb hB.size; clear hb))
  go_ret
  exact ⟨rfl, hB2⟩
set_option maxHeartbeats 1000000 in
theorem rright_any (d c : Int) (w : World) (hd : 0 ≤ d ∧ d ≤ 65535) (hc : 0 ≤ c ∧ c ≤ 65535) :
    Calls Tryd.prog 13 #[.agg #[.int .u16 d, .int .u16 c]] w fun e w' => e = .returned (.bool (Mo.may d c)) ∧ Below w.heap.size w w' := by
  have HS := Lib.hid fun w => rsplit_any d c w hd hc
  go_enter Tryd.func13, Tryd.ntmps13
  go_wp2_with (first
    | (go_at_call 17; refine (HS.out _).mono ?_; rintro e w' ⟨rfl, hb⟩; have hB := Below.after ((Below.refl w.heap.size w).alloc (Nat.le_refl _) _) hb (by simp); clear hb)
    | (go_at_call 21; refine (parts_any _ _ _ _ _ _ _).mono ?_; rintro e w2 ⟨rfl, hb⟩; have hB2 := Below.after hB hb hB.size; clear hb))
  go_ret
  exact ⟨rfl, hB2⟩

/-- cmp.Compare on two numbers. -/
def cmpI (a b : Int) : Int := if a < b then -1 else if b < a then 1 else 0
set_option maxHeartbeats 1000000 in
theorem compare_any (a b : Int) (w : World) :
    Calls Tryd.prog 26 #[.int .u16 a, .int .u16 b] w fun e w' => e = .returned (.int .i64 (cmpI a b)) ∧ w = w' := by
  by_cases h1 : a < b
  · have hr : cmpI a b = -1 := if_pos h1
    rw [hr]
    clear hr
    go_enter Tryd.func26, Tryd.ntmps26
    go_wp2
    go_ret
    exact ⟨rfl, rfl⟩
  · by_cases h2 : b < a
    · have hr : cmpI a b = 1 := by unfold cmpI; rw [if_neg h1, if_pos h2]
      rw [hr]
      clear hr h1
      go_enter Tryd.func26, Tryd.ntmps26
      go_wp2
      go_ret
      exact ⟨rfl, rfl⟩
    · have hr : cmpI a b = 0 := by unfold cmpI; rw [if_neg h1, if_neg h2]
      rw [hr]
      clear hr
      go_enter Tryd.func26, Tryd.ntmps26
      go_wp2
      go_ret
      exact ⟨rfl, rfl⟩
/-- cmp.Or of two numbers. -/
def orI (a b : Int) : Int := if a = 0 then b else a
set_option maxHeartbeats 1000000 in
theorem or_any (a b : Int) (g : Nat) (w : World) (h0 : w.cell? ⟨g, 0, none⟩ = some (.int .i64 a)) (h1 : w.cell? ⟨g, 1, none⟩ = some (.int .i64 b)) :
    Calls Tryd.prog 25 #[.slice (some ⟨g, 0, none⟩) 2 2] w fun e w' => e = .returned (.int .i64 (orI a b)) ∧ w = w' := by
  by_cases ha : a = 0
  · have hr : orI a b = b := if_pos ha
    rw [hr]
    clear hr
    subst ha
    by_cases hb : b = 0
    · subst hb
      go_enter Tryd.func25, Tryd.ntmps25
      go_wp2
      refine wp_loop_rounds 3 ?_
      rw [rounds_succ]
      go_wp2
      rw [rounds_succ]
      go_wp2
      rw [rounds_succ]
      go_wp2
      go_ret
      exact ⟨rfl, rfl⟩
    · have hb' : (b != 0) = true := by simpa using hb
      go_enter Tryd.func25, Tryd.ntmps25
      go_wp2
      refine wp_loop_rounds 2 ?_
      rw [rounds_succ]
      go_wp2
      rw [rounds_succ]
      go_wp2
      go_ret
      exact ⟨rfl, rfl⟩
  · have hr : orI a b = a := if_neg ha
    have ha' : (a != 0) = true := by simpa using ha
    rw [hr]
    clear hr
    go_enter Tryd.func25, Tryd.ntmps25
    go_wp2
    refine wp_loop_rounds 2 ?_
    rw [rounds_succ]
    go_wp2
    go_ret
    exact ⟨rfl, rfl⟩

/-- Which is ahead. -/
theorem before_plain (a b c d : Int) : decide (orI (cmpI a c) (cmpI b d) < 0) = (decide (a < c) || (decide (a = c) && decide (b < d))) := by
  unfold orI cmpI
  rw [Bool.eq_iff_iff]
  simp only [decide_eq_true_eq, Bool.or_eq_true, Bool.and_eq_true]
  by_cases h1 : a < c
  · simp [h1]
  · by_cases h2 : c < a
    · simp [h1, h2]; omega
    · have : a = c := by omega
      subst this
      simp
      by_cases h3 : b < d
      · simp [h3]
      · simp [h3]; by_cases h4 : d < b <;> simp [h4]
set_option maxHeartbeats 1000000 in
theorem before_any (a b c d : Int) (w : World) :
    Calls Tryd.prog 19 #[.agg #[.int .u16 a, .int .u16 b], .agg #[.int .u16 c, .int .u16 d]] w fun e w' => e = .returned (.bool (decide (a < c) || (decide (a = c) && decide (b < d)))) ∧ Below w.heap.size w w' := by
  rw [← before_plain]
  go_enter Tryd.func19, Tryd.ntmps19
  go_wp2_with fail
  refine wp_region_grow_tail 10 (by kernel_rfl) (by kernel_rfl) ?_
  simp only [List.take_succ_cons, List.take_zero, List.drop_succ_cons, List.drop_zero]
  repeat (go_big_quiet_step ((go_at_call 26; exact Gr.same (compare_any _ _ _))))
  refine wpQuiet_nil ?_
  intro g1
  obtain ⟨w1, hb1⟩ := g1
  have hz1 := hb1.size
  simp at hz1
  go_wp2_with fail
  refine (or_any (cmpI a c) (cmpI b d) w1.heap.size _ (by simp) (by simp)).mono ?_
  rintro e w' ⟨rfl, rfl⟩
  go_wp2
  go_ret
  refine ⟨rfl, ?_⟩
  have hB := Below.after (((Below.refl w.heap.size w).alloc (Nat.le_refl _) _).alloc (by simp) _) hb1 (by simp; omega)
  exact hB.alloc (by omega) _
end Go.Proofs.YtbcanoknddpmeaaDoor
