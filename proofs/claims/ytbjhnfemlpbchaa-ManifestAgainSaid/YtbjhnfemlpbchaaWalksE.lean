/- The walk of layer 14: the program's folds. -/
import Derived.Test.YtbjhnfemlpbchaaWalksD
namespace Go.Proofs.Ytbjhnfemlpbchaa
open Go.RowKit

set_option maxHeartbeats 8000000 in
set_option maxRecDepth 100000 in
theorem fold_any (l : List UInt8) (w : World) (hl : l.length ≤ 1000000) :
    Calls Try.prog 15 #[.string (bs l)] w fun e w' => ∃ v, e = .returned v ∧ TRow w' w.heap.size v (Ma.fold l) ∧ Below w.heap.size w w' := by
  go_enter Try.func15, Try.ntmps15
  go_wp2_with fail
  go_loopg [0, 3, 4] (l.length + 1) (fun g u v t wr => ∃ r xs, r.length ≤ l.length ∧ u = .string (bs r) ∧ TRow wr w.heap.size v xs ∧ xs.length + r.length ≤ l.length ∧ Below w.heap.size w wr ∧ ((t = .string (bs []) ∧ xs = [] ∧ r = l ∧ l.length + 1 ≤ g) ∨ (t = .string (bs [32]) ∧ xs ++ Ma.more r = Ma.fold l ∧ r ≠ [] ∧ r.length ≤ g)))
  case atStart => exact ⟨l, [], Nat.le_refl _, rfl, SRow.nil _ _ _, by simp, Below.refl _ _, .inl ⟨rfl, rfl, rfl, Nat.le_refl _⟩⟩
  case round =>
    obtain ⟨r, xs, hrl, rfl, hrow, hxl, hB, hor⟩ := hrel
    have hzr := bs_size r
    have HB := Lib.hid hB
    have HO := Lib.hid hrow
    have hsz := hB.size
    clear hB hrow
    rcases hor with ⟨rfl, rfl, rfl, hg⟩ | ⟨rfl, hE, hr0, hg⟩
    · have hzl : (bs []).size = 0 := rfl
      have hmin : (min (r.length : Int) 72).toNat = min r.length 72 := by omega
      have hx1 := Lib.hid (show (bs r).extract 0 (min r.length 72) = bs (r.take 72) by
        rw [bs_extract, List.drop_zero, Nat.sub_zero]
        congr 1
        rw [Nat.min_comm, List.take_eq_take_iff]; omega)
      have hx2 : (bs r).extract (min r.length 72) r.length = bs (r.drop 72) := by
        rw [bs_extract]
        congr 1
        by_cases h : r.length ≤ 72
        · rw [List.drop_of_length_le (by omega), List.drop_of_length_le (by omega), List.take_nil]
        · rw [show min r.length 72 = 72 from by omega, List.take_of_length_le (by rw [List.length_drop]; exact Nat.le_refl _)]
      have hx3 := Lib.hid (show bs [] ++ (bs r).extract 0 (min r.length 72) = bs (r.take 72) by rw [hx1.out, bs_append]; rfl)
      by_cases hs : r.length ≤ 72
      · have hfin := Lib.hid (show [r.take 72] = Ma.fold r by unfold Ma.fold; rw [if_pos hs, List.take_of_length_le hs])
        have q3 : (bs (r.drop 72)).toList.isEmpty = true := by rw [bs_list, List.drop_of_length_le hs]; rfl
        clear hs
        go_wp2_with (at_builtin; refine wpList_appS rfl _ _ rfl w.heap.size u3 _ rfl (SRow.grow HO.out ((Below.refl _ _).alloc (Nat.le_refl _) _)) wr.heap.size (r.take 72) 9 (0, 0) rfl (by rw [← hx3.out]; exact heap_alloc_new _ _) (by simp) (by simp; omega) ?_)
        intro v' w1 hown1 hhop1
        have hR1 := Lib.hid hown1
        have HB1 := Lib.hid (HB.out.alloc hsz (.cells #[.string (bs [] ++ (bs r).extract 0 (min r.length 72))] 9))
        have HB2 := Lib.hid (HB1.out.trans (hhop1.below HB1.out.size (fun k e => (World.ownsRow.lt HO.out k e).1)))
        clear hown1 hhop1
        go_wp2
        go_ret
        exact ⟨_, rfl, by rw [← hfin.out]; exact hR1.out, HB2.out⟩
      · have hnx := Lib.hid (show [r.take 72] ++ Ma.more (r.drop 72) = Ma.fold r by rw [Ma.fold_long hs]; rfl)
        have hne : r.drop 72 ≠ [] := fun h => hs (by have := congrArg List.length h; rw [List.length_drop] at this; simp at this; omega)
        have q3 : (bs (r.drop 72)).toList.isEmpty = false := by rw [bs_list]; cases hd : r.drop 72 with | nil => exact absurd hd hne | cons a b => rfl
        have hld : (r.drop 72).length = r.length - 72 := List.length_drop ..
        have HNE := Lib.hid hne
        clear hne
        go_wp2_with (at_builtin; refine wpList_appS rfl _ _ rfl w.heap.size u3 _ rfl (SRow.grow HO.out ((Below.refl _ _).alloc (Nat.le_refl _) _)) wr.heap.size (r.take 72) 9 (0, 0) rfl (by rw [← hx3.out]; exact heap_alloc_new _ _) (by simp) (by simp; omega) ?_)
        intro v' w1 hown1 hhop1
        have hR1 := Lib.hid hown1
        have HB1 := Lib.hid (HB.out.alloc hsz (.cells #[.string (bs [] ++ (bs r).extract 0 (min r.length 72))] 9))
        have HB2 := Lib.hid (HB1.out.trans (hhop1.below HB1.out.size (fun k e => (World.ownsRow.lt HO.out k e).1)))
        clear hown1 hhop1
        go_wp2
        go_roundg (r.length - 72)
        case measure => omega
        case rel => exact ⟨r.drop 72, _, by omega, rfl, hR1.out, by simp; omega, HB2.out, .inr ⟨rfl, hnx.out, HNE.out, by omega⟩⟩
    · have hzl : (bs [32]).size = 1 := rfl
      have hmin : (min (r.length : Int) 71).toNat = min r.length 71 := by omega
      have hx1 := Lib.hid (show (bs r).extract 0 (min r.length 71) = bs (r.take 71) by
        rw [bs_extract, List.drop_zero, Nat.sub_zero]
        congr 1
        rw [Nat.min_comm, List.take_eq_take_iff]; omega)
      have hx2 : (bs r).extract (min r.length 71) r.length = bs (r.drop 71) := by
        rw [bs_extract]
        congr 1
        by_cases h : r.length ≤ 71
        · rw [List.drop_of_length_le (by omega), List.drop_of_length_le (by omega), List.take_nil]
        · rw [show min r.length 71 = 71 from by omega, List.take_of_length_le (by rw [List.length_drop]; exact Nat.le_refl _)]
      have hx3 := Lib.hid (show bs [32] ++ (bs r).extract 0 (min r.length 71) = bs (32 :: r.take 71) by rw [hx1.out, bs_append]; rfl)
      by_cases hs : r.length ≤ 71
      · have hfin := Lib.hid (show xs ++ [32 :: r.take 71] = Ma.fold l by rw [← hE, Ma.more_step hr0, List.drop_of_length_le hs, Ma.more_nil])
        have q3 : (bs (r.drop 71)).toList.isEmpty = true := by rw [bs_list, List.drop_of_length_le hs]; rfl
        clear hs hE hr0
        go_wp2_with (at_builtin; refine wpList_appS rfl _ _ rfl w.heap.size u3 _ rfl (SRow.grow HO.out ((Below.refl _ _).alloc (Nat.le_refl _) _)) wr.heap.size (32 :: r.take 71) 9 (0, 0) rfl (by rw [← hx3.out]; exact heap_alloc_new _ _) (by omega) (by simp; omega) ?_)
        intro v' w1 hown1 hhop1
        have hR1 := Lib.hid hown1
        have HB1 := Lib.hid (HB.out.alloc hsz (.cells #[.string (bs [32] ++ (bs r).extract 0 (min r.length 71))] 9))
        have HB2 := Lib.hid (HB1.out.trans (hhop1.below HB1.out.size (fun k e => (World.ownsRow.lt HO.out k e).1)))
        clear hown1 hhop1
        go_wp2
        go_ret
        exact ⟨_, rfl, by rw [← hfin.out]; exact hR1.out, HB2.out⟩
      · have hnx := Lib.hid (show (xs ++ [32 :: r.take 71]) ++ Ma.more (r.drop 71) = Ma.fold l by rw [← hE, Ma.more_step hr0, List.append_assoc]; rfl)
        have hne : r.drop 71 ≠ [] := fun h => hs (by have := congrArg List.length h; rw [List.length_drop] at this; simp at this; omega)
        have q3 : (bs (r.drop 71)).toList.isEmpty = false := by rw [bs_list]; cases hd : r.drop 71 with | nil => exact absurd hd hne | cons a b => rfl
        have hld : (r.drop 71).length = r.length - 71 := List.length_drop ..
        have HNE := Lib.hid hne
        clear hne hE hr0
        go_wp2_with (at_builtin; refine wpList_appS rfl _ _ rfl w.heap.size u3 _ rfl (SRow.grow HO.out ((Below.refl _ _).alloc (Nat.le_refl _) _)) wr.heap.size (32 :: r.take 71) 9 (0, 0) rfl (by rw [← hx3.out]; exact heap_alloc_new _ _) (by omega) (by simp; omega) ?_)
        intro v' w1 hown1 hhop1
        have hR1 := Lib.hid hown1
        have HB1 := Lib.hid (HB.out.alloc hsz (.cells #[.string (bs [32] ++ (bs r).extract 0 (min r.length 71))] 9))
        have HB2 := Lib.hid (HB1.out.trans (hhop1.below HB1.out.size (fun k e => (World.ownsRow.lt HO.out k e).1)))
        clear hown1 hhop1
        go_wp2
        go_roundg (r.length - 71)
        case measure => omega
        case rel => exact ⟨r.drop 71, _, by omega, rfl, hR1.out, by rw [List.length_append]; simp; omega, HB2.out, .inr ⟨rfl, hnx.out, HNE.out, by omega⟩⟩
end Go.Proofs.Ytbjhnfemlpbchaa
