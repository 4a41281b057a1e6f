/- The walk of layer 25: the fixed calls. -/
import Derived.Test.YteegpbdkalpeiaaWalksK
namespace Go.Proofs.Yteegpbdkalpeiaa
open Go.RowKit Go.Maps

theorem Ints.blk3 (w : World) (a b c : Int) (t : TypeId) : Ints (w.alloc (.cells #[.int .i64 a, .int .i64 b, .int .i64 c] t)) (some ⟨w.heap.size, 0, none⟩) 3 [a, b, c] :=
  ⟨by simp, fun _ => ⟨w.heap.size, 0, rfl, by simp, fun j v hv => by
    match j, hv with
    | 0, hv => simp at hv; subst hv; simp
    | 1, hv => simp at hv; subst hv; simp
    | 2, hv => simp at hv; subst hv; simp
    | j + 3, hv => simp at hv⟩⟩
theorem Ints.blk1 (w : World) (a : Int) (t : TypeId) : Ints (w.alloc (.cells #[.int .i64 a] t)) (some ⟨w.heap.size, 0, none⟩) 1 [a] :=
  ⟨by simp, fun _ => ⟨w.heap.size, 0, rfl, by simp, fun j v hv => by
    match j, hv with
    | 0, hv => simp at hv; subst hv; simp
    | j + 1, hv => simp at hv⟩⟩
theorem fav575 : Po.favs [5, 7, 5] 2 = [5] := by
  rw [Po.favs_take (S := [5]) ⟨by simp, fun v => ?_⟩]
  · rfl
  · by_cases h5 : v = 5
    · subst h5; decide
    · by_cases h7 : v = 7
      · subst h7; decide
      · have e5 : ¬ (5 : Int) = v := fun h => h5 h.symm
        have e7 : ¬ (7 : Int) = v := fun h => h7 h.symm
        simp [h5, e5, e7]
theorem i64_mem {xs : List Int} (h : (xs.all fun x => decide (-9223372036854775808 ≤ x) && decide (x ≤ 9223372036854775807)) = true) : ∀ x ∈ xs, I64 x := fun x hx => by
  have := List.all_eq_true.1 h x hx
  rw [Bool.and_eq_true, decide_eq_true_eq, decide_eq_true_eq] at this
  exact this

set_option maxHeartbeats 8000000 in
set_option maxRecDepth 100000 in
theorem fixed_any (w : World) : Calls Try.prog 6 #[] w fun e w' => e = .returned (.bool true) ∧ Below w.heap.size w w' := by
  go_enter Try.func6, Try.ntmps6
  go_wp2_with fail
  have h1 := fav_any (some ⟨w.heap.size, 0, none⟩) 3 [5, 7, 5] 2 (w.alloc (.cells #[.int .i64 5, .int .i64 7, .int .i64 5] 3)) (Ints.blk3 w 5 7 5 3) (i64_mem rfl) (by unfold I64; omega) (by simp)
  change Calls _ _ #[.slice (some ⟨w.heap.size, 0, none⟩) 3 3, .int .i64 2] _ _ at h1
  refine h1.mono ?_
  clear h1
  rintro e w1 ⟨A1, c1, rfl, hi1, hb1⟩
  rw [show (2 : Int).toNat = 2 from rfl, fav575] at hi1 ⊢
  have HB1 := Lib.hid (Below.after' ((Below.refl w.heap.size w).alloc (Nat.le_refl _) _) hb1 (Nat.le_refl _))
  have HI1 := Lib.hid hi1
  clear hb1 hi1
  simp only [List.length_cons, List.length_nil, Nat.zero_add]
  go_wp2_with fail
  have hz1 := HB1.out.size
  have hba : Below w1.heap.size w1 (w1.alloc (.cells #[.int .i64 5, .int .i64 7, .int .i64 5] 3)) := (Below.refl _ _).alloc (Nat.le_refl _) _
  have h2 := split_any (some ⟨w1.heap.size, 0, none⟩) A1 3 c1 [5, 7, 5] [5] (w1.alloc (.cells #[.int .i64 5, .int .i64 7, .int .i64 5] 3)) (Ints.blk3 w1 5 7 5 3) (HI1.out.grow hba) (i64_mem rfl) (i64_mem rfl) (by simp) (by simp)
  change Calls _ _ #[.slice (some ⟨w1.heap.size, 0, none⟩) 3 3, .slice A1 1 c1] _ _ at h2
  refine h2.mono ?_
  clear h2
  rintro e w2 ⟨v1, v2, rfl, hr1, hr2, hb2⟩
  rw [show Po.tokens [5] [5, 7, 5] = [1, 0, 1] from rfl] at hr1
  rw [show Po.left [5] [5, 7, 5] = [7] from rfl] at hr2
  obtain ⟨A2, c2, rfl, hi2⟩ := hr1.reads
  obtain ⟨A3, c3, rfl, hi3⟩ := hr2.reads
  have HB2 := Lib.hid (Below.after' (HB1.out.alloc hz1 _) hb2 (Nat.le_refl _))
  have HI2 := Lib.hid hi2
  have HI3 := Lib.hid hi3
  have HJ1 := Lib.hid (HI1.out.grow (Below.after' hba hb2 (Nat.le_refl _)))
  clear hr1 hr2 hb2 hi2 hi3 hba HI1
  simp only [List.length_cons, List.length_nil, Nat.zero_add, Nat.reduceAdd]
  go_wp2_with fail
  have h3 := join_any A1 A2 A3 c1 c2 c3 [5] [1, 0, 1] [7] w2 HJ1.out HI2.out HI3.out (i64_mem rfl) (i64_mem rfl) (by simp) (by simp) (by simp)
  change Calls _ _ #[.slice A1 1 c1, .slice A2 3 c2, .slice A3 1 c3] _ _ at h3
  refine h3.mono ?_
  clear h3
  rintro e w3 ⟨A4, c4, rfl, hi4, hb3⟩
  have eo : Po.out [5] [1, 0, 1] [7] = [5, 7, 5] := by decide
  have ee : Po.err [5] [1, 0, 1] [7] = 0 := by decide
  rw [eo] at hi4 ⊢
  rw [ee]
  have HB3 := Lib.hid (Below.after' HB2.out hb3 (Nat.le_refl _))
  have HI4 := Lib.hid hi4
  have HK1 := Lib.hid (HJ1.out.grow hb3)
  have HK2 := Lib.hid (HI2.out.grow hb3)
  have hz3 := HB3.out.size
  clear hb3 hi4 HJ1 HI2 HI3 HB2 eo ee
  simp only [List.length_cons, List.length_nil, Nat.zero_add, Nat.reduceAdd]
  go_wp2_with fail
  have hbb : Below w3.heap.size w3 (w3.alloc (.cells #[.int .i64 1] 3)) := (Below.refl _ _).alloc (Nat.le_refl _) _
  have h4 := join_any none (some ⟨w3.heap.size, 0, none⟩) none 0 1 0 [] [1] [] (w3.alloc (.cells #[.int .i64 1] 3)) (Ints.nil _ _ _) (Ints.blk1 w3 1 3) (Ints.nil _ _ _) (i64_mem rfl) (i64_mem rfl) (by simp) (by simp) (by simp)
  change Calls _ _ #[.slice none 0 0, .slice (some ⟨w3.heap.size, 0, none⟩) 1 1, .slice none 0 0] _ _ at h4
  refine h4.mono ?_
  clear h4
  rintro e w4 ⟨A5, c5, rfl, hi5, hb4⟩
  have ee : Po.err [] [1] [] = 5 := by decide
  rw [ee]
  have HB4 := Lib.hid (Below.after' (HB3.out.alloc hz3 _) hb4 (Nat.le_refl _))
  have hb5 := Below.after' hbb hb4 (Nat.le_refl _)
  obtain ⟨g1, o1, q1, hg1, hc1⟩ := (HK1.out.grow hb5).2 (by simp)
  obtain ⟨g2, o2, q2, hg2, hc2⟩ := (HK2.out.grow hb5).2 (by simp)
  obtain ⟨g4, o4, q4, hg4, hc4⟩ := (HI4.out.grow hb5).2 (by simp)
  have k1 := hc1 0 5 rfl
  have k2 := hc2 0 1 rfl
  have k3 := hc2 1 0 rfl
  have k4 := hc4 1 7 rfl
  rw [Nat.add_zero] at k1 k2
  subst q1 q2 q4
  clear hc1 hc2 hc4 hb4 hb5 hbb hi5 ee
  generalize Po.out [] [1] [] = oo
  go_wp2_with fail
  go_ret
  exact ⟨rfl, HB4.out⟩
end Go.Proofs.Yteegpbdkalpeiaa
