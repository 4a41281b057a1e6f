/- The walks of layer 16: a constant as one of its kind, its tag, and a size. -/
import Derived.Test.YtimheacdaafodaaBigRef
import Derived.Test.YtimheacdaafodaaRaws
import Derived.Test.YtimheacdaafodaaWalksC
namespace Go.Proofs.Ytimheacdaafodaa
open Go.RowKit

/-- A constant as one of its kind. -/
def ifc (r : Rw) : Value :=
  if r.tag = 1 then .iface 77 (.string (bs r.text))
  else if r.tag = 3 ∨ r.tag = 4 ∨ r.tag = 5 ∨ r.tag = 6 then .iface 79 (.agg #[.int .i64 r.tag, .int .u64 r.bits])
  else if r.tag = 7 ∨ r.tag = 8 then .iface 82 (.agg #[.int .i64 r.tag, .int .i64 r.a])
  else if r.tag = 9 ∨ r.tag = 10 ∨ r.tag = 11 ∨ r.tag = 12 then .iface 84 (.agg #[.int .i64 r.tag, .int .i64 r.a, .int .i64 r.b])
  else .nilIface
set_option maxRecDepth 100000 in
set_option maxHeartbeats 2000000 in
theorem of_any (r : Rw) (w : World) : Calls Try.prog 38 #[rr r] w fun e w' => e = .returned (ifc r) ∧ Below w.heap.size w w' := by
  have k0 := Lib.hid ((Below.refl w.heap.size w).alloc (Nat.le_refl _) (.cells #[.int .i64 r.tag, .string (bs r.text), .int .u64 r.bits, .int .i64 r.a, .int .i64 r.b] 49))
  unfold rr ifc
  obtain ⟨tag, text, bits, a, b⟩ := r
  dsimp only at *
  by_cases h : tag = 1 ∨ tag = 3 ∨ tag = 4 ∨ tag = 5 ∨ tag = 6 ∨ tag = 7 ∨ tag = 8 ∨ tag = 9 ∨ tag = 10 ∨ tag = 11 ∨ tag = 12
  · rcases h with rfl | rfl | rfl | rfl | rfl | rfl | rfl | rfl | rfl | rfl | rfl <;>
    · go_enter Try.func38, Try.ntmps38
      go_wp2
      go_ret
      exact ⟨rfl, k0.out⟩
  · have n1 : (tag == 1) = false := by rw [beq_eq_false_iff_ne]; omega
    have n3 : (tag == 3) = false := by rw [beq_eq_false_iff_ne]; omega
    have n4 : (tag == 4) = false := by rw [beq_eq_false_iff_ne]; omega
    have n5 : (tag == 5) = false := by rw [beq_eq_false_iff_ne]; omega
    have n6 : (tag == 6) = false := by rw [beq_eq_false_iff_ne]; omega
    have n7 : (tag == 7) = false := by rw [beq_eq_false_iff_ne]; omega
    have n8 : (tag == 8) = false := by rw [beq_eq_false_iff_ne]; omega
    have n9 : (tag == 9) = false := by rw [beq_eq_false_iff_ne]; omega
    have n10 : (tag == 10) = false := by rw [beq_eq_false_iff_ne]; omega
    have n11 : (tag == 11) = false := by rw [beq_eq_false_iff_ne]; omega
    have n12 : (tag == 12) = false := by rw [beq_eq_false_iff_ne]; omega
    rw [if_neg (by omega), if_neg (by omega), if_neg (by omega), if_neg (by omega)]
    clear h
    go_enter Try.func38, Try.ntmps38
    go_wp2
    go_ret
    exact ⟨rfl, k0.out⟩
theorem size_any (tag : Int) (w : World) : Calls Try.prog 39 #[.int .i64 tag] w fun e w' => e = .returned (.int .i64 (if (tag == 5 || tag == 6) = true then 8 else 4)) ∧ w' = w := by
  have HW := Lib.hid (wide_any tag w)
  cases h : (tag == 5 || tag == 6) <;>
  · rw [h] at HW
    go_enter Try.func39, Try.ntmps39
    go_wp2_with fail
    refine HW.out.mono ?_
    rintro e w1 ⟨rfl, rfl⟩
    go_wp2_with fail
    go_ret
    exact ⟨rfl, rfl⟩
theorem tag1_any (v : Value) (w : World) : Calls Try.prog 95 #[v] w fun e w' => e = .returned (.int .i64 1) ∧ Below w.heap.size w w' := by
  go_enter Try.func95, Try.ntmps95
  go_wp2
  go_ret
  exact ⟨rfl, Below.refl _ _⟩
theorem tag2_any (t n : Int) (w : World) : Calls Try.prog 96 #[.agg #[.int .i64 t, .int .u64 n]] w fun e w' => e = .returned (.int .i64 t) ∧ Below w.heap.size w w' := by
  have k0 := Lib.hid ((Below.refl w.heap.size w).alloc (Nat.le_refl _) (.cells #[.int .i64 t, .int .u64 n] 79))
  go_enter Try.func96, Try.ntmps96
  go_wp2
  go_ret
  exact ⟨rfl, k0.out⟩
theorem tag3_any (t n : Int) (w : World) : Calls Try.prog 97 #[.agg #[.int .i64 t, .int .i64 n]] w fun e w' => e = .returned (.int .i64 t) ∧ Below w.heap.size w w' := by
  have k0 := Lib.hid ((Below.refl w.heap.size w).alloc (Nat.le_refl _) (.cells #[.int .i64 t, .int .i64 n] 82))
  go_enter Try.func97, Try.ntmps97
  go_wp2
  go_ret
  exact ⟨rfl, k0.out⟩
theorem tag4_any (t n m : Int) (w : World) : Calls Try.prog 98 #[.agg #[.int .i64 t, .int .i64 n, .int .i64 m]] w fun e w' => e = .returned (.int .i64 t) ∧ Below w.heap.size w w' := by
  have k0 := Lib.hid ((Below.refl w.heap.size w).alloc (Nat.le_refl _) (.cells #[.int .i64 t, .int .i64 n, .int .i64 m] 84))
  go_enter Try.func98, Try.ntmps98
  go_wp2
  go_ret
  exact ⟨rfl, k0.out⟩
end Go.Proofs.Ytimheacdaafodaa
