/- Layer 11: the law MomentJoins: of any numbers the moment is the document's, or there is none. -/
import Derived.Test.YtbcanoknddpmeaaDoorWalksK
namespace Go.Proofs.YtbcanoknddpmeaaDoor
open Go.RowKit

set_option maxHeartbeats 2000000 in
theorem lawJoins (y m d h n s : Int) (w : World) (ht : TabP w) :
    Calls Tryd.prog 3 #[.int .i64 y, .int .i64 m, .int .i64 d, .int .i64 h, .int .i64 n, .int .i64 s] w fun e w' => e = .returned (.bool true) ∧ Below w.heap.size w w' := by
  have H0 := Lib.hid (fixed_any w ht)
  have h1 : ∀ w, Calls Tryd.prog 7 #[.agg #[.int .i64 y, .int .i64 m, .int .i64 d, .int .i64 h, .int .i64 n, .int .i64 s]] w (JoinPost w (Mo.join y m d h n s)) := fun w => join_any y m d h n s w
  have h2 : ∀ w, Calls Tryd.prog 8 #[.agg #[.int .i64 y, .int .i64 m, .int .i64 d, .int .i64 h, .int .i64 n, .int .i64 s]] w (JoinPost w (Mo.join y m d h n s)) := fun w => rjoin_any y m d h n s w
  have h3 : ∀ w, Calls Tryd.prog 9 #[.int .i64 y, .int .i64 m] w fun e w' => e = .returned (.int .i64 (Mo.days y m)) ∧ w = w' := fun w => days_any y m w
  have h4 : ∀ w, Calls Tryd.prog 10 #[.int .i64 y, .int .i64 m] w fun e w' => e = .returned (.int .i64 (Mo.days y m)) ∧ Below w.heap.size w w' := fun w => rdays_any y m w
  generalize Mo.join y m d h n s = J at *
  generalize Mo.days y m = D at *
  obtain ⟨j1, j2, j3⟩ := J
  have H1 := Lib.hid h1
  have H2 := Lib.hid h2
  have H3 := Lib.hid h3
  have H4 := Lib.hid h4
  clear h1 h2 h3 h4 ht
  go_enter Tryd.func3, Tryd.ntmps3
  go_wp2_with fail
  refine H0.out.mono ?_
  rintro e w1 ⟨rfl, hB1⟩
  go_wp2_with fail
  refine (H1.out _).mono ?_
  rintro e w2 ⟨rfl, hb⟩
  have hB2 := Below.after hB1 hb hB1.size
  clear hb hB1
  go_wp2_with fail
  refine (H2.out _).mono ?_
  rintro e w3 ⟨rfl, hb⟩
  obtain ⟨hc3, hf3⟩ := bcell hb
  have hz3 := hb.size
  simp at hz3
  have hlt3 : w2.heap.size < w3.heap.size := by omega
  have c1 : w3.cell? ⟨w2.heap.size, 0, none⟩ = some (.int .u16 j1) := by rw [hc3 _ _ (by simp)]; simp
  have c2 : w3.cell? ⟨w2.heap.size, 1, none⟩ = some (.int .u16 j2) := by rw [hc3 _ _ (by simp)]; simp
  have hB3 := Below.after (hB2.alloc hB2.size (.cells #[.int .u16 j1, .int .u16 j2] 25)) hb (by have := hB2.size; simp; omega)
  clear hb hB2 hc3 hf3
  go_wp2_with (first
    | (go_at_call 9; refine (H3.out _).mono ?_; rintro e w4 ⟨rfl, rfl⟩)
    | (go_at_call 10; refine (H4.out _).mono ?_; rintro e w5 ⟨rfl, hb⟩; have hB4 := Below.after (hB3.alloc hB3.size (.cells #[.int .u16 j1, .int .u16 j2] 25)) hb (by have := hB3.size; simp; omega); clear hb))
  go_ret
  exact ⟨rfl, hB4⟩
end Go.Proofs.YtbcanoknddpmeaaDoor
