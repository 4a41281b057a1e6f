/- Layer 17: the law DescNames. -/
import Derived.Test.YtdjdgipebonnaaaDoorWalksN
namespace Go.Proofs.YtdjdgipebonnaaaDoor
open Go.RowKit

set_option maxHeartbeats 8000000 in
set_option maxRecDepth 100000 in
theorem names_any (l : List UInt8) (w : World) (hm : MaxP w) :
    Calls Tryd.prog 3 #[.string (bs l)] w fun e w' => e = .returned (.bool true) ∧ Below w.heap.size w w' := by
  have HM := Lib.hid hm
  have hz := bs_size l
  have HF := Lib.hid (fixed_any w hm)
  clear hm
  by_cases h6 : l.length ≤ 600
  rotate_left
  · have d1 : decide ((600 : Int) < l.length) = true := decide_eq_true (by omega)
    go_enter Tryd.func3, Tryd.ntmps3
    go_wp2_with fail
    refine HF.out.mono ?_
    rintro e w1 ⟨rfl, hb⟩
    go_wp2
    go_ret
    exact ⟨rfl, hb⟩
  have hl : l.length ≤ 1000000000 := by omega
  have d1 : decide ((600 : Int) < l.length) = false := decide_eq_false (by omega)
  go_enter Tryd.func3, Tryd.ntmps3
  go_wp2_with fail
  refine HF.out.mono ?_
  rintro e w1 ⟨rfl, hb⟩
  have J1 := Lib.hid hb
  clear hb HF
  go_wp2_with fail
  refine (member_any l _ hl).mono ?_
  rintro e w2 ⟨rfl, hb⟩
  have J2 := Lib.hid (Below.after' J1.out hb (Nat.le_refl _))
  clear hb
  go_wp2_with fail
  refine (rmember_any l _ hl).mono ?_
  rintro e w3 ⟨rfl, hb⟩
  have J3 := Lib.hid (Below.after' J2.out hb (Nat.le_refl _))
  clear hb
  go_wp2_with fail
  refine (method_any l _ hl).mono ?_
  rintro e w4 ⟨rfl, hb⟩
  have J4 := Lib.hid (Below.after' J3.out hb (Nat.le_refl _))
  clear hb
  go_wp2_with fail
  refine (rmethod_any l _ hl).mono ?_
  rintro e w5 ⟨rfl, hb⟩
  have J5 := Lib.hid (Below.after' J4.out hb (Nat.le_refl _))
  clear hb
  go_wp2_with fail
  refine (class_any l _ hl (max_below HM.out J5.out)).mono ?_
  rintro e w6 ⟨rfl, hb⟩
  have J6 := Lib.hid (Below.after' J5.out hb (Nat.le_refl _))
  clear hb
  go_wp2_with fail
  refine (rclass_any l _ hl).mono ?_
  rintro e w7 ⟨rfl, hb⟩
  have J7 := Lib.hid (Below.after' J6.out hb (Nat.le_refl _))
  clear hb
  go_wp2_with fail
  refine (named_any l _ hl (max_below HM.out J7.out)).mono ?_
  rintro e w8 ⟨rfl, hb⟩
  have J8 := Lib.hid (Below.after' J7.out hb (Nat.le_refl _))
  clear hb
  go_wp2_with fail
  refine (rnamed_any l _ hl).mono ?_
  rintro e w9 ⟨rfl, hb⟩
  have J9 := Lib.hid (Below.after' J8.out hb (Nat.le_refl _))
  clear hb
  go_wp2_with fail
  refine (field_any l _ hl (max_below HM.out J9.out)).mono ?_
  rintro e w10 ⟨rfl, hb⟩
  have J10 := Lib.hid (Below.after' J9.out hb (Nat.le_refl _))
  clear hb
  go_wp2_with fail
  refine (rfield_any l _ hl).mono ?_
  rintro e w11 ⟨rfl, hb⟩
  have J11 := Lib.hid (Below.after' J10.out hb (Nat.le_refl _))
  clear hb
  go_wp2_with fail
  refine (room_any l _ hl (max_below HM.out J11.out)).mono ?_
  rintro e w12 ⟨rfl, hb⟩
  have J12 := Lib.hid (Below.after' J11.out hb (Nat.le_refl _))
  clear hb
  go_wp2_with fail
  refine (rroom_any l _ hl).mono ?_
  rintro e w13 ⟨rfl, hb⟩
  have J13 := Lib.hid (Below.after' J12.out hb (Nat.le_refl _))
  clear hb
  go_wp2_with fail
  refine (dims_any l _ hl).mono ?_
  rintro e w' ⟨rfl, rfl⟩
  go_wp2_with fail
  refine (rdims_any l _ hl).mono ?_
  rintro e w' ⟨rfl, rfl⟩
  go_wp2
  go_ret
  exact ⟨rfl, J13.out⟩
end Go.Proofs.YtdjdgipebonnaaaDoor
