/- The walks of layer 14: the reference's value, and how a section begins. -/
import Derived.Test.YtbjhnfemlpbchaaPlain
import Derived.Test.YtbjhnfemlpbchaaAnys
namespace Go.Proofs.Ytbjhnfemlpbchaa
open Go.RowKit

def Ma.first (main : Bool) : List UInt8 := if main then [109, 97, 110, 105, 102, 101, 115, 116, 45, 118, 101, 114, 115, 105, 111, 110] else [110, 97, 109, 101]

theorem first_any (b : Bool) (w : World) : Calls Try.prog 43 #[.bool b] w fun e w' => e = .returned (.string (bs (Ma.first b))) ∧ w = w' := by
  cases b
  · go_enter Try.func43, Try.ntmps43
    go_wp2
    go_ret
    exact ⟨rfl, rfl⟩
  · go_enter Try.func43, Try.ntmps43
    go_wp2
    go_ret
    exact ⟨rfl, rfl⟩

set_option maxHeartbeats 4000000 in
set_option maxRecDepth 100000 in
theorem rvalue_any (l : List UInt8) (w : World) (hl : l.length ≤ 1000000000) :
    Calls Try.prog 42 #[.string (bs l)] w fun e w' => e = .returned (.bool (Ma.value l)) ∧ w = w' := by
  have hzl := bs_size l
  go_enter Try.func42, Try.ntmps42
  go_wp2_with fail
  go_loop [3] (fun u => ∃ i : Nat, i ≤ l.length ∧ u = .int .i64 i ∧ Ma.value (l.take i) = true) (fun u => l.length - (intOf u).toNat)
  case atStart => exact ⟨0, Nat.zero_le _, rfl, rfl⟩
  case round =>
    obtain ⟨i, hil, rfl, hv⟩ := hrel
    by_cases h1 : i < l.length
    · obtain ⟨c, hcl⟩ : ∃ c, l[i]? = some c := ⟨_, List.getElem?_eq_getElem h1⟩
      have ic := fun x => bs_index l i c hcl .i64 i rfl x
      have hvt := Lib.hid (Ma.value_take hcl)
      have hvb := Lib.hid (Ma.value_bad hcl)
      have HV := Lib.hid hv
      clear hcl hv
      by_cases h0 : c.toNat = 0
      · have q : ((c.toNat : Int) == 0) = true := by simp [h0]
        have hfin := Lib.hid (hvb.out (by simp [Ma.badSign, h0]))
        clear h0
        go_wp2
        go_ret
        exact ⟨ret_bool hfin.out.symm, rfl⟩
      have q : ((c.toNat : Int) == 0) = false := by simp [h0]
      by_cases h10 : c.toNat = 10
      · have q2 : ((c.toNat : Int) == 10) = true := by simp [h10]
        have hfin := Lib.hid (hvb.out (by simp [Ma.badSign, h10]))
        clear h0 h10
        go_wp2
        go_ret
        exact ⟨ret_bool hfin.out.symm, rfl⟩
      have q2 : ((c.toNat : Int) == 10) = false := by simp; omega
      by_cases h13 : c.toNat = 13
      · have q3 : ((c.toNat : Int) == 13) = true := by simp [h13]
        have hfin := Lib.hid (hvb.out (by simp [Ma.badSign, h13]))
        clear h0 h10 h13
        go_wp2
        go_ret
        exact ⟨ret_bool hfin.out.symm, rfl⟩
      have q3 : ((c.toNat : Int) == 13) = false := by simp; omega
      have hnx := Lib.hid (show Ma.value (l.take (i + 1)) = true by rw [hvt.out, HV.out]; simp [Ma.badSign, h0, h10, h13])
      clear h0 h10 h13
      go_wp2
      go_round
      case rel => exact ⟨i + 1, by omega, by go_num, hnx.out⟩
      case measure => simp [intOf]; omega
    · rw [List.take_of_length_le (by omega)] at hv
      have hfin := Lib.hid hv
      clear hv
      go_wp2
      go_ret
      exact ⟨ret_bool hfin.out.symm, rfl⟩
end Go.Proofs.Ytbjhnfemlpbchaa
