/- The walks of layer 11: a moment's print. -/
import Derived.Test.YtbcanoknddpmeaaDoorWalksG
import Derived.Test.YtbcanoknddpmeaaDoorShelf
import Derived.Deep.RegionHeld3
import Derived.Lib.SmallJoins
namespace Go.Proofs.YtbcanoknddpmeaaDoor
open Go.RowKit

theorem Mo.pad2 (x : Nat) (h : x ≤ 99) : List.replicate (2 - (Lib.decDigits x).length) 48 ++ Lib.decDigits x = Mo.two x ∧ (Lib.decDigits x).length ≤ 2 ∧ 1 ≤ (Lib.decDigits x).length := by
  by_cases h1 : x < 10
  · rw [Lib.decDigits_one h1]
    have e1 : x / 10 % 10 = 0 := by omega
    have e2 : x % 10 = x := by omega
    refine ⟨?_, by simp, by simp⟩
    unfold Mo.two
    rw [Int.toNat_natCast, e1, e2]
    rfl
  · rw [Lib.decDigits_two h1 (by omega)]
    have e1 : x / 10 % 10 = x / 10 := by omega
    refine ⟨?_, by simp, by simp⟩
    unfold Mo.two
    rw [Int.toNat_natCast, e1]
    rfl
theorem Mo.pad4 (y : Nat) (h : 1980 ≤ y) (h2 : y ≤ 2107) : Lib.decDigits y = Mo.two ((y : Int) / 100) ++ Mo.two ((y : Int) % 100) := by
  rw [Lib.decDigits, dif_neg (by omega), Lib.decDigits, dif_neg (by omega), Lib.decDigits_two (by omega) (by omega)]
  have f1 : ((y : Int) / 100).toNat = y / 100 := by omega
  have f2 : ((y : Int) % 100).toNat = y % 100 := by omega
  have e1 : y / 10 / 10 / 10 = y / 100 / 10 % 10 := by omega
  have e2 : y / 10 / 10 % 10 = y / 100 % 10 := by omega
  have e3 : y / 10 % 10 = y % 100 / 10 % 10 := by omega
  have e4 : y % 10 = y % 100 % 10 := by omega
  unfold Mo.two
  rw [f1, f2, e1, e2, e3, e4]
  rfl
abbrev TabP (w : World) : Prop := Lib.TabIs Tryd.prog w "internal/strconv.uint64pow10" .u64 Lib.pow10Tab
theorem gPow : Tryd.prog.globalNamed "internal/strconv.uint64pow10" = some 0 := by kernel_rfl
theorem tab_below {w w' : World} (h : TabP w) (k : Below w.heap.size w w') : TabP w' := Joins.tab_stays gPow h k (Nat.le_refl _)
theorem itoa_small (x : Int) (w : World) (h0 : 0 ≤ x) (h1 : x ≤ 99) : Calls Tryd.prog 28 #[.int .i64 x] w fun e w' => e = .returned (.string (bs (Lib.decDigits x.toNat))) ∧ Below w.heap.size w w' := by
  have := Tryd.strconv_Itoa_small x.toNat (by omega) w
  rw [Int.toNat_of_nonneg h0] at this
  exact this.mono fun e w' ⟨he, hw⟩ => ⟨he, by rw [hw]; exact Below.refl _ _⟩
theorem itoa_year (x : Int) (w : World) (h0 : 0 ≤ x) (h1 : x ≤ 9223372036854775807) (ht : TabP w) : Calls Tryd.prog 28 #[.int .i64 x] w fun e w' => e = .returned (.string (bs (Lib.decDigits x.toNat))) ∧ Below w.heap.size w w' := by
  have := Tryd.strconv_Itoa x (by omega) h1 w ht
  refine this.mono fun e w' ⟨he, k, os, hw⟩ => ⟨?_, ?_⟩
  · rw [he]; congr 2; unfold Lib.itoa; rw [if_neg (by omega)]; rfl
  · rw [hw]
    exact ⟨rfl, rfl, rfl, by simp [Go.Sort.grow], fun j hj => by simp [Go.Sort.grow, Array.getElem?_append, hj]⟩
end Go.Proofs.YtbcanoknddpmeaaDoor
