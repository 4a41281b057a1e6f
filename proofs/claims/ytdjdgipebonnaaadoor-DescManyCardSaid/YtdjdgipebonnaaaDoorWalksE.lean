/- The walks of layer 17: dimensions. -/
import Derived.Test.YtdjdgipebonnaaaDoorWalksD
import Derived.Test.YtdjdgipebonnaaaDoorPlainB
namespace Go.Proofs.YtdjdgipebonnaaaDoor
open Go.RowKit

set_option maxHeartbeats 1000000 in
theorem dims_any (l : List UInt8) (w : World) (hl : l.length ≤ 1000000000) :
    Calls Tryd.prog 19 #[.string (bs l)] w fun e w' => e = .returned (.int .i64 (De.dims l : Nat)) ∧ w = w' := by
  have hz := bs_size l
  have H := calls_keep (Tryd.strings_TrimLeft_one (bs l) 91 (by decide) w)
  rw [bs_toList, trimLeft_dims] at H
  have H1 := Lib.hid H
  have hz2 : (⟨(l.drop (De.dims l)).toArray⟩ : ByteArray).size = l.length - De.dims l := by rw [show (⟨(l.drop (De.dims l)).toArray⟩ : ByteArray) = bs (l.drop (De.dims l)) from rfl, bs_size, List.length_drop]
  have hd := De.dims_le l
  clear H
  go_enter Tryd.func19, Tryd.ntmps19
  go_wp2_with fail
  refine H1.out.mono ?_
  rintro e w' ⟨rfl, rfl⟩
  go_wp2
  go_ret
  exact ⟨ret_int (by omega), rfl⟩

set_option maxHeartbeats 1000000 in
theorem rdims_any (l : List UInt8) (w : World) (hl : l.length ≤ 1000000000) :
    Calls Tryd.prog 20 #[.string (bs l)] w fun e w' => e = .returned (.int .i64 (De.dims l : Nat)) ∧ w = w' := by
  have hz := bs_size l
  have hd := De.dims_le l
  go_enter Tryd.func20, Tryd.ntmps20
  go_wp2_with fail
  go_loop [3] (fun u => ∃ n : Nat, n ≤ De.dims l ∧ u = .int .i64 n) (fun u => De.dims l - (intOf u).toNat)
  case atStart => exact ⟨0, Nat.zero_le _, rfl⟩
  case round =>
    obtain ⟨n, hn, rfl⟩ := hrel
    by_cases h1 : n < De.dims l
    · have ic := fun x => bs_index l n 91 (De.dims_lt h1) .i64 n rfl x
      have hlt : n < l.length := by omega
      have hq : (((91 : UInt8).toNat : Int) == 91) = true := rfl
      generalize (91 : UInt8) = c at *
      go_wp2
      go_round
      case rel => exact ⟨n + 1, by omega, by go_num⟩
      case measure => simp [intOf]; omega
    · obtain rfl : n = De.dims l := by omega
      by_cases h2 : De.dims l < l.length
      · obtain ⟨c, hc⟩ : ∃ c, l[De.dims l]? = some c := ⟨_, List.getElem?_eq_getElem h2⟩
        have ic := fun x => bs_index l _ c hc .i64 _ rfl x
        have hne := De.dims_at hc
        have hq : ((c.toNat : Int) == 91) = false := by rw [beq_eq_false_iff_ne]; intro h; exact hne (UInt8.toNat_inj.1 (by show c.toNat = 91; omega))
        clear hc hne
        go_wp2
        go_ret
        exact ⟨rfl, rfl⟩
      · go_wp2
        go_ret
        exact ⟨rfl, rfl⟩
end Go.Proofs.YtdjdgipebonnaaaDoor
