/- Layer 35: fixed. -/
import Derived.Test.YtmidabbfjciogaaDoorWalksK
namespace Go.Proofs.YtmidabbfjciogaaDoor
open Go.RowKit

theorem bs_cons (l : List UInt8) : bs l = ⟨l.toArray⟩ := rfl
set_option maxHeartbeats 8000000 in
set_option maxRecDepth 100000 in
theorem fixed_any (w : World) (ht : TabP w) :
    Calls Tryd.prog 5 #[] w fun e w' => e = .returned (.bool true) ∧ Below w.heap.size w w' := by
  have HT := Lib.hid ht
  have HC := Lib.hid (class_49 w ht)
  have t1 := Lib.hid (show Li.text [97, 32, 98, 37] = [97, 37, 50, 48, 98, 37, 50, 53] by decide +kernel)
  have t2 := Lib.hid (show Li.line Li.line49 = [99, 108, 97, 115, 115, 32, 65, 32, 115, 117, 112, 101, 114, 32, 45, 32, 118, 101, 114, 115, 105, 111, 110, 32, 52, 57, 32, 48, 32, 102, 108, 97, 103, 115, 32, 48, 32, 98, 101, 115, 105, 100, 101, 32, 48] by decide +kernel)
  have t3 := Lib.hid (show Li.value ⟨3, [], 7, [], [], []⟩ = [51, 32, 55] by decide +kernel)
  have t4 := Lib.hid (show Li.line [Li.ints [0, 177, 0, 0, 0], Li.value ⟨0, [], 0, [], [], []⟩] = [48, 32, 49, 55, 55, 32, 48, 32, 48, 32, 48, 32, 48] by decide +kernel)
  clear ht
  go_enter Tryd.func5, Tryd.ntmps5
  go_wp2_with fail
  refine HC.out.mono ?_
  rintro e w1 ⟨g, rfl, hg, hL, hb⟩
  rw [t2.out, bs_cons] at hL
  have J1 := Lib.hid hb
  have L1 := Lib.hid hL
  have gz := (Array.getElem?_eq_some_iff.1 hL).1
  clear hb hL HC
  go_wp2_with fail
  refine (text_any [97, 32, 98, 37] _ (by simp)).mono ?_
  rintro e w2 ⟨rfl, hb⟩
  rw [t1.out, bs_cons]
  have J2 := Lib.hid (Below.after' J1.out hb (Nat.le_refl _))
  have L2 := Lib.hid ((hb.block _ gz).trans L1.out)
  obtain ⟨f1, f2⟩ := blk_facts L2.out
  have hz := hb.size
  clear hb
  go_wp2_with fail
  refine (value_any ⟨3, [], 7, [], [], []⟩ _ ⟨by simp [I64], by simp, by simp, by simp, by simp, by simp⟩ (tab_below HT.out J2.out)).mono ?_
  rintro e w3 ⟨rfl, hb⟩
  rw [t3.out, bs_cons]
  have J3 := Lib.hid (Below.after' J2.out hb (Nat.le_refl _))
  clear hb f1 f2
  go_wp2_with fail
  refine (ins_177 _ (tab_below HT.out J3.out)).mono ?_
  rintro e w4 ⟨rfl, hb⟩
  rw [t4.out, bs_cons]
  have J4 := Lib.hid (Below.after' J3.out hb (Nat.le_refl _))
  clear hb
  go_wp2
  go_ret
  exact ⟨rfl, J4.out⟩
end Go.Proofs.YtmidabbfjciogaaDoor
