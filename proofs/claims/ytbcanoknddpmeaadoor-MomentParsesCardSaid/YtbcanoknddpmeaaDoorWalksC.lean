/- The walks of layer 11: a moment of numbers, the numbers of a moment. -/
import Derived.Test.YtbcanoknddpmeaaDoorWalksB
import Derived.Test.YtbcanoknddpmeaaDoorPlainB
namespace Go.Proofs.YtbcanoknddpmeaaDoor
open Go.RowKit
def JoinPost (w : World) (j : Int × Int × Int) (e : Ending) (w' : World) : Prop :=
  e = .returned (.tuple #[.agg #[.int .u16 j.1, .int .u16 j.2.1], .int .i64 j.2.2]) ∧ Below w.heap.size w w'

set_option maxHeartbeats 4000000 in
theorem join_any (y m d h n s : Int) (w : World) :
    Calls Tryd.prog 7 #[.agg #[.int .i64 y, .int .i64 m, .int .i64 d, .int .i64 h, .int .i64 n, .int .i64 s]] w (JoinPost w (Mo.join y m d h n s)) := by
  have HR := fun w => right_any y m d h n s w
  by_cases ho : Mo.ok y m d h n s = true
  · have bd := Mo.ok_bounds ho
    have J1 := Lib.hid (Mo.join_even ho)
    have J2 := Lib.hid (Mo.join_odd ho)
    rw [ho] at HR
    have HRh := Lib.hid HR
    clear HR ho
    have i64_and1' := i64_and1
    generalize Mo.join y m d h n s = J at *
    go_enter Tryd.func7, Tryd.ntmps7
    go_wp2_with (go_at_call 20; refine (HRh.out _).mono ?_; rintro e w' ⟨rfl, hb⟩; have hB := Below.after (((Below.refl w.heap.size w).alloc (Nat.le_refl _) _).alloc (by simp) _) hb (by simp; omega); obtain ⟨hc, hf⟩ := bcell hb; have hz := hb.size; simp at hz; clear hb)
    · have hs : (s % 2 == 1) = true := by assumption
      refine bodyPost_ret (v := .tuple #[.agg #[.int .u16 0, .int .u16 0], .int .i64 2]) (by simp [results, Tryd.results7, go_sem, hc, hz]) rfl ⟨by rw [J2.out hs], ?_⟩
      exact (hB.setCell (by simp) _).setCell (by simp) _
    · have hs : (s % 2 == 1) = false := by assumption
      refine bodyPost_ret (v := .tuple #[.agg #[.int .u16 _, .int .u16 _], .int .i64 0]) (by simp [results, Tryd.results7, go_sem, hc, hz]; exact ⟨rfl, rfl⟩) rfl ⟨by rw [J1.out hs], ?_⟩
      exact (hB.setCell (by simp) _).setCell (by simp) _
  · have ho' : Mo.ok y m d h n s = false := by simpa using ho
    have J := Lib.hid (Mo.join_no ho')
    rw [ho'] at HR
    have HRh := Lib.hid HR
    clear HR ho ho'
    generalize Mo.join y m d h n s = J at *
    go_enter Tryd.func7, Tryd.ntmps7
    go_wp2_with (go_at_call 20; refine (HRh.out _).mono ?_; rintro e w' ⟨rfl, hb⟩; have hB := Below.after (((Below.refl w.heap.size w).alloc (Nat.le_refl _) _).alloc (by simp) _) hb (by simp; omega); obtain ⟨hc, hf⟩ := bcell hb; have hz := hb.size; simp at hz; clear hb)
    refine bodyPost_ret (v := .tuple #[.agg #[.int .u16 0, .int .u16 0], .int .i64 5]) (by simp [results, Tryd.results7, go_sem, hc, hz]) rfl ⟨by rw [J.out], ?_⟩
    exact (hB.setCell (by simp) _).setCell (by simp) _

set_option maxHeartbeats 4000000 in
theorem rjoin_any (y m d h n s : Int) (w : World) :
    Calls Tryd.prog 8 #[.agg #[.int .i64 y, .int .i64 m, .int .i64 d, .int .i64 h, .int .i64 n, .int .i64 s]] w (JoinPost w (Mo.join y m d h n s)) := by
  have HR := fun w => parts_any y m d h n s w
  by_cases ho : Mo.ok y m d h n s = true
  · have bd := Mo.ok_bounds ho
    have J1 := Lib.hid (Mo.join_even' ho)
    have J2 := Lib.hid (Mo.join_odd ho)
    rw [ho] at HR
    have HRh := Lib.hid HR
    clear HR ho
    have i64_and1' := i64_and1
    generalize Mo.join y m d h n s = J at *
    go_enter Tryd.func8, Tryd.ntmps8
    go_wp2_with (go_at_call 21; refine (HRh.out _).mono ?_; rintro e w' ⟨rfl, hb⟩; have hB := Below.after (((Below.refl w.heap.size w).alloc (Nat.le_refl _) _).alloc (by simp) _) hb (by simp; omega); obtain ⟨hc, hf⟩ := bcell hb; have hz := hb.size; simp at hz; clear hb)
    · have hs : (s % 2 == 1) = true := by have h1 : (s % 2 != 0) = true := (by assumption); simp at h1 ⊢; omega
      refine bodyPost_ret (v := .tuple #[.agg #[.int .u16 0, .int .u16 0], .int .i64 2]) (by simp [results, Tryd.results8, go_sem, hc, hz]) rfl ⟨by rw [J2.out hs], ?_⟩
      exact (hB.setCell (by simp) _).setCell (by simp) _
    · have hs : (s % 2 == 1) = false := by have h1 : (s % 2 != 0) = false := (by assumption); simp at h1 ⊢; omega
      refine bodyPost_ret (v := .tuple #[.agg #[.int .u16 _, .int .u16 _], .int .i64 0]) (by simp [results, Tryd.results8, go_sem, hc, hz]; exact ⟨rfl, rfl⟩) rfl ⟨by rw [J1.out hs], ?_⟩
      exact (hB.setCell (by simp) _).setCell (by simp) _
  · have ho' : Mo.ok y m d h n s = false := by simpa using ho
    have J := Lib.hid (Mo.join_no ho')
    rw [ho'] at HR
    have HRh := Lib.hid HR
    clear HR ho ho'
    generalize Mo.join y m d h n s = J at *
    go_enter Tryd.func8, Tryd.ntmps8
    go_wp2_with (go_at_call 21; refine (HRh.out _).mono ?_; rintro e w' ⟨rfl, hb⟩; have hB := Below.after (((Below.refl w.heap.size w).alloc (Nat.le_refl _) _).alloc (by simp) _) hb (by simp; omega); obtain ⟨hc, hf⟩ := bcell hb; have hz := hb.size; simp at hz; clear hb)
    refine bodyPost_ret (v := .tuple #[.agg #[.int .u16 0, .int .u16 0], .int .i64 5]) (by simp [results, Tryd.results8, go_sem, hc, hz]) rfl ⟨by rw [J.out], ?_⟩
    exact (hB.setCell (by simp) _).setCell (by simp) _
end Go.Proofs.YtbcanoknddpmeaaDoor
