/- The walks of layer 25: the closures of the favorites. -/
import Derived.Test.YteegpbdkalpeiaaMapD
import Derived.Test.YteegpbdkalpeiaaWalksF
import Derived.Test.YteegpbdkalpeiaaShelf
import Derived.Shelf.SlSortCmp.Whole1
import Derived.Shelf.SlMaps.DeleteFunc
namespace Go.Proofs.Yteegpbdkalpeiaa
open Go.RowKit Go.Maps

/-- The first that is not nought. -/
def Po.orr : List Int → Int
  | [] => 0
  | x :: xs => if x = 0 then Po.orr xs else x

set_option maxHeartbeats 2000000 in
theorem or_any (A : Option Addr) (c : Nat) (xs : List Int) (w : World) (hx : Ints w A c xs) (hn : xs.length ≤ 1000000) :
    Calls Try.prog 21 #[.slice A xs.length c] w fun e w' => e = .returned (.int .i64 (Po.orr xs)) ∧ w = w' := by
  have HX := Lib.hid hx
  clear hx
  go_enter Try.func21, Try.ntmps21
  go_wp2_with fail
  go_loop [8] (fun u => ∃ i : Nat, i ≤ xs.length ∧ u = .int .i64 i ∧ Po.orr xs = Po.orr (xs.drop i)) (fun u => xs.length - (Go.Proofs.intOf u).toNat)
  case atStart => exact ⟨0, Nat.zero_le _, rfl, rfl⟩
  case round =>
    obtain ⟨i, hil, rfl, hor⟩ := hrel
    by_cases h1 : i < xs.length
    · obtain ⟨g, o, x, rfl, hg, hxi, hcell⟩ := HX.out.at_ h1
      rw [drop_at hxi] at hor
      by_cases hx0 : x = 0
      · have q : (x != 0) = false := by simp [hx0]
        have hs := Lib.hid (hor.trans (if_pos hx0))
        clear hxi hor hx0
        go_wp2
        go_round
        case rel => exact ⟨i + 1, by omega, by go_num, hs.out⟩
        case measure => simp [Go.Proofs.intOf]; omega
      · have q : (x != 0) = true := by simp [hx0]
        have hs := Lib.hid (hor.trans (if_neg hx0))
        clear hxi hor hx0
        go_wp2
        go_ret
        exact ⟨by rw [hs.out]; rfl, rfl⟩
    · rw [List.drop_of_length_le (by omega)] at hor
      have hs := Lib.hid hor
      clear hor
      go_wp2
      go_ret
      exact ⟨by rw [hs.out]; rfl, rfl⟩

set_option maxHeartbeats 1000000 in
theorem del1_any (W : World) (key val : Value) (kl : Lit) (yd : DataW Unit) (yp : List MemPlace) (_hk : keyOf Try.prog 3 key = some kl) (hv : RI val = some (yd, yp)) :
    Calls Try.prog 17 #[key, val] W fun e w' => e = .returned (.bool (under2 kl yd)) ∧ W.grownBy w' none := by
  obtain ⟨a, rfl, hz, _⟩ := plainElem_int_inv Try.underlying3 hv
  injection hz with hz1 _
  subst hz1
  go_enter Try.func17, Try.ntmps17
  go_wp2
  go_ret
  exact ⟨rfl, World.grownBy.refl _ _⟩

/-- What the favorites are sorted by. -/
def Po.cf (f : Int → Int) (a b : Int) : Int := Po.orr [Lib.compareInt (f b) (f a), Lib.compareInt a b]

set_option maxHeartbeats 4000000 in
theorem cmp2_any (D : DataW Unit) (f : Int → Int) (b n B : Nat) (W : World) (x y : Int) (hO : OMap W b n D) (hM : MapIs D f) (hc : W.cell? ⟨B, 0, none⟩ = some (.map (some b))) (hx : I64 x) (hy : I64 y) :
    Calls Try.prog 20 #[.int .i64 x, .int .i64 y, .pointer (some ⟨B, 0, none⟩)] W fun e w' => e = .returned (.int .i64 (Po.cf f x y)) ∧ ∃ o, w' = W.alloc o := by
  have hl1 := look_run hO hM hx
  have hl2 := look_run hO hM hy
  have HC1 := Lib.hid (Try.cmp_Compare_int (f y) (f x) W)
  have HC2 := Lib.hid (Try.cmp_Compare_int x y W)
  generalize hr : Po.cf f x y = r
  unfold Po.cf at hr
  generalize Lib.compareInt (f y) (f x) = p at *
  generalize Lib.compareInt x y = q at *
  have HR := Lib.hid hr
  clear hO hM hr hx hy
  go_enter Try.func20, Try.ntmps20
  go_wp2_with fail
  refine HC1.out.mono ?_
  rintro e w' ⟨rfl, rfl⟩
  go_wp2_with fail
  refine HC2.out.mono ?_
  rintro e w' ⟨rfl, rfl⟩
  go_wp2_with fail
  have hor := or_any (some ⟨w'.heap.size, 0, none⟩) 2 [p, q] (w'.alloc (.cells #[.int .i64 p, .int .i64 q] 3)) ⟨by simp, fun _ => ⟨w'.heap.size, 0, rfl, by simp, fun j v hv => by
    match j, hv with
    | 0, hv => simp at hv; subst hv; simp
    | 1, hv => simp at hv; subst hv; simp
    | j + 2, hv => simp at hv⟩⟩ (by simp)
  change Calls _ _ #[.slice (some ⟨w'.heap.size, 0, none⟩) 2 2] _ _ at hor
  refine hor.mono ?_
  rintro e w1 ⟨rfl, rfl⟩
  go_wp2
  go_ret
  exact ⟨by rw [← HR.out]; rfl, _, rfl⟩
end Go.Proofs.Yteegpbdkalpeiaa
