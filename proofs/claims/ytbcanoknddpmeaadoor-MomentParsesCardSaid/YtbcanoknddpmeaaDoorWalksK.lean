/- Layer 11: Parse at every text, and the fixed facts. -/
import Derived.Test.YtbcanoknddpmeaaDoorWalksJ
namespace Go.Proofs.YtbcanoknddpmeaaDoor
open Go.RowKit

theorem Mo.join_bounds (y m d h n s : Int) : 0 ≤ (Mo.join y m d h n s).1 ∧ (Mo.join y m d h n s).1 ≤ 65535 ∧ 0 ≤ (Mo.join y m d h n s).2.1 ∧ (Mo.join y m d h n s).2.1 ≤ 65535 := by
  unfold Mo.join
  split
  · rename_i ho
    have bd := Mo.ok_bounds ho
    split
    · simp
    · simp; omega
  · simp
theorem parse_any (l : List UInt8) (w : World) (hl : l.length ≤ 1000) (ht : TabP w) : Calls Tryd.prog 11 #[.string (bs l)] w (JoinPost w (Mo.parse l)) := by
  by_cases h19 : l.length = 19
  · have hb := Mo.join_bounds (Mo.num (l.take 4)) (Mo.num ((l.drop 5).take 2)) (Mo.num ((l.drop 8).take 2)) (Mo.num ((l.drop 11).take 2)) (Mo.num ((l.drop 14).take 2)) (Mo.num (l.drop 17))
    have e17 : (l.drop 17).take (l.length - 17) = l.drop 17 := List.take_of_length_le (by simp)
    have := parse_core l (Mo.six l).1 (Mo.six l).2.1 (Mo.six l).2.2 w h19 ht (fun w => by rw [e17]; exact join_any _ _ _ _ _ _ w) ⟨hb.1, hb.2.1⟩ ⟨hb.2.2.1, hb.2.2.2⟩
    have e : Mo.parse l = if (Mo.six l).2.2 = 0 ∧ (if Mo.may (Mo.six l).1 (Mo.six l).2.1 then Mo.print (Mo.six l).1 (Mo.six l).2.1 else []) = l then ((Mo.six l).1, (Mo.six l).2.1, 0) else (0, 0, 2) := by
      unfold Mo.parse
      simp only [h19, true_and]
    rw [e]
    exact this
  · exact parse_short l w hl h19

theorem fix1 : Mo.join 1980 1 1 0 0 0 = (33, 0, 0) := by decide +kernel
theorem fix2 : Mo.may 33 0 = true := by decide +kernel
theorem fix3 : Mo.print 33 0 = [49, 57, 56, 48, 45, 48, 49, 45, 48, 49, 32, 48, 48, 58, 48, 48, 58, 48, 48] := by decide +kernel
theorem fix4 : Mo.parse [49, 57, 57, 54, 45, 48, 50, 45, 50, 57, 32, 50, 51, 58, 53, 57, 58, 53, 56] = (8285, 49021, 0) := by decide +kernel
theorem fix5 : Mo.may 8285 49021 = true := by decide +kernel
theorem fix6 : Mo.days 2100 2 = 28 := by decide +kernel

set_option maxHeartbeats 2000000 in
theorem fixed_any (w : World) (ht : TabP w) : Calls Tryd.prog 6 #[] w fun e w' => e = .returned (.bool true) ∧ Below w.heap.size w w' := by
  have h1 : ∀ w, Calls Tryd.prog 7 #[.agg #[.int .i64 1980, .int .i64 1, .int .i64 1, .int .i64 0, .int .i64 0, .int .i64 0]] w fun e w' => e = .returned (.tuple #[.agg #[.int .u16 33, .int .u16 0], .int .i64 0]) ∧ Below w.heap.size w w' := fun w => by
    have := join_any 1980 1 1 0 0 0 w
    rwa [fix1] at this
  have h2 : ∀ w, TabP w → Calls Tryd.prog 14 #[.agg #[.int .u16 33, .int .u16 0]] w fun e w' => e = .returned (.tuple #[.string ⟨#[49, 57, 56, 48, 45, 48, 49, 45, 48, 49, 32, 48, 48, 58, 48, 48, 58, 48, 48]⟩, .int .i64 0]) ∧ Below w.heap.size w w' := fun w ht => by
    have := print_any 33 0 w (by decide) (by decide) ht
    rw [fix2, fix3] at this
    exact this
  have h3 : ∀ w, TabP w → Calls Tryd.prog 11 #[.string ⟨#[49, 57, 57, 54, 45, 48, 50, 45, 50, 57, 32, 50, 51, 58, 53, 57, 58, 53, 56]⟩] w fun e w' => e = .returned (.tuple #[.agg #[.int .u16 8285, .int .u16 49021], .int .i64 0]) ∧ Below w.heap.size w w' := fun w ht => by
    have := parse_any [49, 57, 57, 54, 45, 48, 50, 45, 50, 57, 32, 50, 51, 58, 53, 57, 58, 53, 56] w (by decide) ht
    rw [fix4] at this
    exact this
  have h4 : ∀ w, Calls Tryd.prog 18 #[.agg #[.int .u16 8285, .int .u16 49021]] w fun e w' => e = .returned (.bool true) ∧ Below w.heap.size w w' := fun w => by
    have := mright_any 8285 49021 w (by decide) (by decide)
    rwa [fix5] at this
  have h5 : ∀ w, Calls Tryd.prog 9 #[.int .i64 2100, .int .i64 2] w fun e w' => e = .returned (.int .i64 28) ∧ w = w' := fun w => by
    have := days_any 2100 2 w
    rwa [fix6] at this
  have H1 := Lib.hid h1
  have H2 := Lib.hid h2
  have H3 := Lib.hid h3
  have H4 := Lib.hid h4
  have H5 := Lib.hid h5
  have HT := Lib.hid ht
  clear h1 h2 h3 h4 h5 ht
  go_enter Tryd.func6, Tryd.ntmps6
  go_wp2_with fail
  refine (H1.out _).mono ?_
  rintro e w1 ⟨rfl, hb⟩
  have hB1 := Lib.hid hb
  have hz1 := hb.size
  clear hb
  go_wp2_with fail
  have hB2 := (hB1.out.alloc hz1 (.cells #[.int .u16 33, .int .u16 0] 25))
  refine (H2.out _ (tab_below HT.out hB2)).mono ?_
  rintro e w2 ⟨rfl, hb⟩
  obtain ⟨hc2, hf2⟩ := bcell hb
  have hz2 := hb.size
  simp at hz2
  have hlt2 : w1.heap.size < w2.heap.size := by omega
  have hB3 := Below.after hB2 hb hB2.size
  clear hB2 hb
  go_wp2_with fail
  refine (H3.out _ (tab_below HT.out hB3)).mono ?_
  rintro e w3 ⟨rfl, hb⟩
  obtain ⟨hc3, hf3⟩ := bcell hb
  have hz3 := hb.size
  have hB4 := Below.after hB3 hb hB3.size
  have hlt3 : w1.heap.size < w3.heap.size := by omega
  have c1 : w3.cell? ⟨w1.heap.size, 0, none⟩ = some (.int .u16 33) := by rw [hc3 _ _ hlt2, hc2 _ _ (by simp)]; simp
  have c2 : w3.cell? ⟨w1.heap.size, 1, none⟩ = some (.int .u16 0) := by rw [hc3 _ _ hlt2, hc2 _ _ (by simp)]; simp
  clear hB3 hb hc3 hc2 hf3 hf2
  go_wp2_with (first
    | (go_at_call 18; refine (H4.out _).mono ?_; rintro e w4 ⟨rfl, hb⟩; have hB5 := Below.after (hB4.alloc hB4.size (.cells #[.int .u16 8285, .int .u16 49021] 25)) hb (by have := hB4.size; simp; omega); clear hb)
    | (go_at_call 9; refine (H5.out _).mono ?_; rintro e w5 ⟨rfl, rfl⟩))
  go_ret
  exact ⟨rfl, hB5⟩
end Go.Proofs.YtbcanoknddpmeaaDoor
