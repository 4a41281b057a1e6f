/- Layer 17: fixed. -/
import Derived.Test.YtdjdgipebonnaaaDoorWalksM
namespace Go.Proofs.YtdjdgipebonnaaaDoor
open Go.RowKit

theorem bs_lit (l : List UInt8) : (⟨l.toArray⟩ : ByteArray) = bs l := rfl
set_option maxHeartbeats 8000000 in
set_option maxRecDepth 100000 in
theorem fixed_any (w : World) (hm : MaxP w) :
    Calls Tryd.prog 6 #[] w fun e w' => e = .returned (.bool true) ∧ Below w.heap.size w w' := by
  have HM := Lib.hid hm
  have k1 := Lib.hid (show De.rooms [40, 73, 74, 91, 68, 41, 86] = some 4 by decide +kernel)
  have k2 := Lib.hid (show De.params [40, 76, 97, 47, 98, 59, 91, 91, 73, 41, 74] = some ([[76, 97, 47, 98, 59], [91, 91, 73]], [74]) by decide +kernel)
  have b0 := Lib.hid (show De.cls [97, 47, 98] = true by decide +kernel)
  have b1 := Lib.hid (show De.cls [97, 47, 47, 98] = false by decide +kernel)
  have b2 := Lib.hid (show De.named [91, 73] = true by decide +kernel)
  have b3 := Lib.hid (show De.method [60, 105, 110, 105, 116, 62] = true by decide +kernel)
  have b4 := Lib.hid (show De.method [60, 120, 62] = false by decide +kernel)
  have bd := Lib.hid (show De.dims [91, 91, 73] = 2 by decide +kernel)
  clear hm
  go_enter Tryd.func6, Tryd.ntmps6
  go_wp2_with fail
  refine (rooms_any [40, 73, 74, 91, 68, 41, 86] _ (by simp) HM.out).mono ?_
  rintro e w1 ⟨rfl, hb⟩
  rw [k1.out]
  have J1 := Lib.hid hb
  clear hb
  go_wp2_with fail
  refine (params_any [40, 76, 97, 47, 98, 59, 91, 91, 73, 41, 74] _ (by simp) (max_below HM.out J1.out)).mono ?_
  rintro e w2 ⟨v, rfl, hrow, hb⟩
  have J2 := Lib.hid (Below.after' J1.out hb (Nat.le_refl _))
  clear hb
  unfold De.parList at hrow
  unfold De.parAns
  rw [k2.out] at hrow ⊢
  have hv : ∃ g cap, v = .slice (some ⟨g, 0, none⟩) 2 cap ∧ g < w2.heap.size ∧ w2.cell? ⟨g, 0, none⟩ = some (.string ⟨#[76, 97, 47, 98, 59]⟩) := by
    rcases hrow.cases with ⟨_, h⟩ | ⟨g, cap, hv, _, h1, _, h3⟩
    · cases h
    · exact ⟨g, cap, hv, h1, h3 0 _ rfl⟩
  obtain ⟨g, cap, rfl, hg, hcell⟩ := hv
  have q74 : ((bs [74]).toList == [74]) = true := (bs_is [74] [74]).trans (decide_eq_true rfl)
  clear hrow
  go_wp2_with fail
  refine (class_any [97, 47, 98] _ (by simp) (max_below HM.out J2.out)).mono ?_
  rintro e w3 ⟨rfl, hb⟩
  rw [b0.out]
  have J3 := Lib.hid (Below.after' J2.out hb (Nat.le_refl _))
  clear hb
  go_wp2_with fail
  refine (class_any [97, 47, 47, 98] _ (by simp) (max_below HM.out J3.out)).mono ?_
  rintro e w4 ⟨rfl, hb⟩
  rw [b1.out]
  have J4 := Lib.hid (Below.after' J3.out hb (Nat.le_refl _))
  clear hb
  go_wp2_with fail
  refine (named_any [91, 73] _ (by simp) (max_below HM.out J4.out)).mono ?_
  rintro e w5 ⟨rfl, hb⟩
  rw [b2.out]
  have J5 := Lib.hid (Below.after' J4.out hb (Nat.le_refl _))
  clear hb
  go_wp2_with fail
  refine (method_any [60, 105, 110, 105, 116, 62] _ (by simp)).mono ?_
  rintro e w6 ⟨rfl, hb⟩
  rw [b3.out]
  have J6 := Lib.hid (Below.after' J5.out hb (Nat.le_refl _))
  clear hb
  go_wp2_with fail
  refine (method_any [60, 120, 62] _ (by simp)).mono ?_
  rintro e w7 ⟨rfl, hb⟩
  rw [b4.out]
  have J7 := Lib.hid (Below.after' J6.out hb (Nat.le_refl _))
  clear hb
  go_wp2_with fail
  refine (dims_any [91, 91, 73] _ (by simp)).mono ?_
  rintro e w' ⟨rfl, rfl⟩
  rw [bd.out]
  go_wp2
  go_ret
  exact ⟨rfl, J7.out⟩
end Go.Proofs.YtdjdgipebonnaaaDoor
