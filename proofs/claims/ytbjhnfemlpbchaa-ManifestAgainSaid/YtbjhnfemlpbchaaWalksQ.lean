/- The walk of layer 14: fixed. -/
import Derived.Test.YtbjhnfemlpbchaaWalksP
import Derived.Lib.SlBytesConst
namespace Go.Proofs.Ytbjhnfemlpbchaa
open Go.RowKit

theorem BAt.block {w : World} {g : Nat} {cs : Array Value} {fr : Nat × Nat} {l : List UInt8} (h : w.heap[g]? = some (.cells cs 5 fr)) (hc : cs = (cb l).toArray) : BAt w (some ⟨g, 0, none⟩) l.length l := by
  subst hc
  refine ⟨Nat.le_refl _, fun _ => ⟨g, 0, rfl, (Array.getElem?_eq_some_iff.1 h).1, fun j x hx => ?_⟩⟩
  rw [Nat.zero_add, cell_of_row w g j _ _ _ h]
  simp [cb, hx]
def fixB : List UInt8 := [77, 97, 110, 105, 102, 101, 115, 116, 45, 86, 101, 114, 115, 105, 111, 110, 58, 32, 49, 46, 48, 10, 88, 58, 32, 97, 10, 32, 98, 10, 10, 78, 97, 109, 101, 58, 32, 113, 10]
def fixC : List UInt8 := [88, 58, 32, 49, 10]
def fixM : List Pr := [([77, 97, 110, 105, 102, 101, 115, 116, 45, 86, 101, 114, 115, 105, 111, 110], [49, 46, 48]), ([88], [97, 98])]
def fixP : List (List Pr) := [[([78, 97, 109, 101], [113])]]
theorem fix_parse : Ma.parse fixB = (0, fixM :: fixP) := by decide +kernel
theorem fix_print : Ma.print (fixM :: fixP) = (0, [77, 97, 110, 105, 102, 101, 115, 116, 45, 86, 101, 114, 115, 105, 111, 110, 58, 32, 49, 46, 48, 13, 10, 88, 58, 32, 97, 98, 13, 10, 13, 10, 78, 97, 109, 101, 58, 32, 113, 13, 10, 13, 10]) := by decide +kernel
theorem fix_parse2 : Ma.parse fixC = (8, []) := by decide +kernel
theorem fix_get : Ma.get fixM [120] = some [97, 98] := by decide +kernel

set_option maxHeartbeats 8000000 in
set_option maxRecDepth 100000 in
theorem fixed_any (w : World) (hm : MaxP w) :
    Calls Try.prog 7 #[] w fun e w' => e = .returned (.bool true) ∧ Below w.heap.size w w' := by
  have HM := Lib.hid hm
  have kc := fun (w : World) (C : Array Value) (n c : Nat) => Lib.run_convert_bytes_const (P := Try.prog) w 22 5 C n c Try.underlying22 Try.underlying5
  clear hm
  go_enter Try.func7, Try.ntmps7
  go_wp2_with fail
  have q0 : (w.alloc (.cells (cb fixB).toArray 5 ((cb fixB).toArray.size, (cb fixB).toArray.size + 1))).heap[w.heap.size]? = some (.cells (cb fixB).toArray 5 ((cb fixB).toArray.size, (cb fixB).toArray.size + 1)) := heap_alloc_new _ _
  have k0 := (Below.refl w.heap.size w).alloc (Nat.le_refl _) (.cells (cb fixB).toArray 5 ((cb fixB).toArray.size, (cb fixB).toArray.size + 1))
  have h1 := parse_any _ _ fixB _ (BAt.block q0 rfl) (by decide) (max_below HM.out k0)
  rw [fix_parse] at h1
  refine (show Calls Try.prog 8 #[.slice (some ⟨w.heap.size, 0, none⟩) 39 39] _ _ from h1).mono ?_
  rintro e w1 ⟨v, rfl, hM, hb1⟩
  have J1 := Lib.hid (Below.after' k0 hb1 (Nat.le_refl _))
  obtain ⟨A, c, B, d, rfl, hA, hB⟩ := (show Mani w1 v fixM fixP from hM)
  have HA := Lib.hid hA
  have HB := Lib.hid hB
  clear q0 k0 h1 hM hb1 hA hB
  go_wp2_with fail
  have q2 : (w1.alloc (.cells #[.slice A fixM.length c, .slice B fixP.length d] 27)).heap[w1.heap.size]? = some (.cells #[.slice A fixM.length c, .slice B fixP.length d] 27 (0, 0)) := heap_alloc_new _ _
  have k2 := (Below.refl w1.heap.size w1).alloc (Nat.le_refl _) (.cells #[.slice A fixM.length c, .slice B fixP.length d] 27)
  generalize w1.alloc (.cells #[.slice A fixM.length c, .slice B fixP.length d] 27) = W2 at q2 k2 ⊢
  have h2 := print_any A c fixM B d fixP W2 (HA.out.grow k2) (HB.out.grow k2) (by decide) (by decide) (by decide +kernel)
  rw [fix_print] at h2
  refine h2.mono ?_
  rintro e w3 ⟨A3, c3, rfl, hb3, hk3⟩
  have q3 := (hk3.block w1.heap.size (Array.getElem?_eq_some_iff.1 q2).1).trans q2
  have K2 := Lib.hid k2
  have K3 := Lib.hid (Below.after' k2 hk3 (Nat.le_refl _))
  have HA3 := Lib.hid (HA.out.grow K3.out)
  have HB3 := Lib.hid hb3
  have c0 : w3.cell? ⟨w1.heap.size, 0, none⟩ = some (.slice A fixM.length c) := (blk_facts q3).1 0
  clear q2 k2 h2 hb3 hk3 q3
  go_wp2_with fail
  have h4 := get_any A c fixM [120] w3 HA3.out (by decide) (by decide) (by decide)
  rw [fix_get] at h4
  refine (show Calls Try.prog 19 #[.slice A fixM.length c, .string ⟨#[120]⟩] _ _ from h4).mono ?_
  rintro e w4 ⟨rfl, hk4⟩
  have K4 := Lib.hid hk4
  clear h4 hk4 c0
  go_wp2_with fail
  have J4 := Lib.hid (Below.after' (Below.after' J1.out K3.out (Nat.le_refl _)) K4.out (Nat.le_refl _))
  have q5 : (w4.alloc (.cells (cb fixC).toArray 5 ((cb fixC).toArray.size, (cb fixC).toArray.size + 1))).heap[w4.heap.size]? = some (.cells (cb fixC).toArray 5 ((cb fixC).toArray.size, (cb fixC).toArray.size + 1)) := heap_alloc_new _ _
  have k5 := (Below.refl w4.heap.size w4).alloc (Nat.le_refl _) (.cells (cb fixC).toArray 5 ((cb fixC).toArray.size, (cb fixC).toArray.size + 1))
  have h5 := parse_any _ _ fixC _ (BAt.block q5 rfl) (by decide) (max_below HM.out (Below.after' J4.out k5 (Nat.le_refl _)))
  rw [fix_parse2] at h5
  refine (show Calls Try.prog 8 #[.slice (some ⟨w4.heap.size, 0, none⟩) 5 5] _ _ from h5).mono ?_
  rintro e w5 ⟨v5, rfl, hM5, hk5⟩
  obtain ⟨A5, c5, B5, d5, rfl, _, _⟩ := (show Mani w5 v5 [] [] from hM5)
  have K5 := Lib.hid (Below.after' K4.out (Below.after' k5 hk5 (Nat.le_refl _)) (Nat.le_refl _))
  have J5 := Lib.hid (Below.after' (Below.after' J1.out K3.out (Nat.le_refl _)) K5.out (Nat.le_refl _))
  have k6 := (Below.refl w5.heap.size w5).alloc (Nat.le_refl _) (.cells #[.slice A5 0 c5, .slice B5 0 d5] 27)
  have K6 := Lib.hid (Below.after' K5.out k6 (Nat.le_refl _))
  have J6 := Lib.hid (Below.after' J5.out k6 (Nat.le_refl _))
  have hcv : (convert 22 9 (.slice A3 43 c3)).run Try.prog (w5.alloc (.cells #[.slice A5 0 c5, .slice B5 0 d5] 27)) = .ok (.string (bs [77, 97, 110, 105, 102, 101, 115, 116, 45, 86, 101, 114, 115, 105, 111, 110, 58, 32, 49, 46, 48, 13, 10, 88, 58, 32, 97, 98, 13, 10, 13, 10, 78, 97, 109, 101, 58, 32, 113, 13, 10, 13, 10])) (w5.alloc (.cells #[.slice A5 0 c5, .slice B5 0 d5] 27)) := (HB3.out.grow K6.out).text
  have HN := Lib.hid (fun w => name_any [97, 95, 45, 57] w (by decide))
  have HN2 := Lib.hid (fun w => name_any [45, 97] w (by decide))
  rw [show Ma.name [97, 95, 45, 57] = true from by decide +kernel] at HN
  rw [show Ma.name [45, 97] = false from by decide +kernel] at HN2
  have g1 : ((bs [77, 97, 110, 105, 102, 101, 115, 116, 45, 86, 101, 114, 115, 105, 111, 110, 58, 32, 49, 46, 48, 13, 10, 88, 58, 32, 97, 98, 13, 10, 13, 10, 78, 97, 109, 101, 58, 32, 113, 13, 10, 13, 10]).toList == [77, 97, 110, 105, 102, 101, 115, 116, 45, 86, 101, 114, 115, 105, 111, 110, 58, 32, 49, 46, 48, 13, 10, 88, 58, 32, 97, 98, 13, 10, 13, 10, 78, 97, 109, 101, 58, 32, 113, 13, 10, 13, 10]) = true := by rw [bs_list]; decide
  have g2 : ((bs [97, 98]).toList == [97, 98]) = true := by rw [bs_list]; decide
  clear q5 k5 h5 hk5 k6 hM5
  go_wp2_with fail
  refine (HN.out _).mono ?_
  rintro e w6 ⟨rfl, hb6⟩
  have J7 := Lib.hid (Below.after' J6.out hb6 (Nat.le_refl _))
  clear hb6
  go_wp2_with fail
  refine (HN2.out _).mono ?_
  rintro e w7 ⟨rfl, hb7⟩
  have J8 := Lib.hid (Below.after' J7.out hb7 (Nat.le_refl _))
  clear hb7
  go_wp2
  go_ret
  exact ⟨rfl, J8.out⟩
end Go.Proofs.Ytbjhnfemlpbchaa
