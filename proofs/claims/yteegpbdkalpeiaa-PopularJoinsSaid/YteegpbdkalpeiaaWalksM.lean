/- The walks of layer 25: its three laws. -/
import Derived.Test.YteegpbdkalpeiaaWalksL
import Derived.Test.YteegpbdkalpeiaaPlainD
namespace Go.Proofs.Yteegpbdkalpeiaa
open Go.RowKit Go.Maps

set_option maxHeartbeats 8000000 in
set_option maxRecDepth 100000 in
theorem splits_law (A B : Option Addr) (c d : Nat) (l fs : List Int) (most : Int) (w : World) (hx : Ints w A c l) (hy : Ints w B d fs) (hI : ∀ x ∈ l, I64 x) (hJ : ∀ x ∈ fs, I64 x) (hm : I64 most) :
    Calls Try.prog 3 #[.slice A l.length c, .int .i64 most, .slice B fs.length d] w fun e w' => e = .returned (.bool true) ∧ Below w.heap.size w w' := by
  have HX := Lib.hid hx
  have HY := Lib.hid hy
  have HI := Lib.hid hI
  have HJ := Lib.hid hJ
  have HM := Lib.hid hm
  have HF := Lib.hid (fixed_any w)
  clear hx hy hI hJ hm
  go_enter Try.func3, Try.ntmps3
  go_wp2_with fail
  refine HF.out.mono ?_
  rintro e w0 ⟨rfl, hb0⟩
  have HB0 := Lib.hid hb0
  clear hb0 HF
  by_cases h1 : 60 < l.length
  · have q : decide (60 < l.length) = true := by simp [h1]
    have q' : decide ((60 : Int) < (l.length : Int)) = true := decide_eq_true (by omega)
    clear h1
    go_wp2
    go_ret
    exact ⟨rfl, HB0.out⟩
  have q : decide (60 < l.length) = false := by simp; omega
  have q' : decide ((60 : Int) < (l.length : Int)) = false := decide_eq_false (by omega)
  by_cases h2 : 60 < fs.length
  · have q2 : decide (60 < fs.length) = true := by simp [h2]
    have q2' : decide ((60 : Int) < (fs.length : Int)) = true := decide_eq_true (by omega)
    clear h1 h2
    go_wp2
    go_ret
    exact ⟨rfl, HB0.out⟩
  have q2 : decide (60 < fs.length) = false := by simp; omega
  have q2' : decide ((60 : Int) < (fs.length : Int)) = false := decide_eq_false (by omega)
  have hl : l.length ≤ 60 := by omega
  have hf : fs.length ≤ 60 := by omega
  clear h1 h2
  go_wp2_with fail
  refine (split_any A B c d l fs w0 (HX.out.grow HB0.out) (HY.out.grow HB0.out) HI.out HJ.out (by omega) (by omega)).mono ?_
  rintro e w1 ⟨a1, a2, rfl, hr1, hr2, hb1⟩
  obtain ⟨A1, c1, rfl, hi1⟩ := hr1.reads
  obtain ⟨A2, c2, rfl, hi2⟩ := hr2.reads
  have HB1 := Lib.hid (Below.after' HB0.out hb1 (Nat.le_refl _))
  have HI1 := Lib.hid hi1
  have HI2 := Lib.hid hi2
  clear hr1 hr2 hi1 hi2 hb1
  go_wp2_with fail
  refine (rsplit_any A B c d l fs w1 (HX.out.grow HB1.out) (HY.out.grow HB1.out) (by omega) (by omega)).mono ?_
  rintro e w2 ⟨a3, a4, rfl, hr3, hr4, hb2⟩
  obtain ⟨A3, c3, rfl, hi3⟩ := hr3.reads
  obtain ⟨A4, c4, rfl, hi4⟩ := hr4.reads
  have HB2 := Lib.hid (Below.after' HB1.out hb2 (Nat.le_refl _))
  have HJ1 := Lib.hid (HI1.out.grow hb2)
  have HJ2 := Lib.hid (HI2.out.grow hb2)
  have HI3 := Lib.hid hi3
  have HI4 := Lib.hid hi4
  clear hr3 hr4 hi3 hi4 hb2 HI1 HI2
  go_wp2_with fail
  refine (fav_any A c l most w2 (HX.out.grow HB2.out) HI.out HM.out (by omega)).mono ?_
  rintro e w3 ⟨A5, c5, rfl, hi5, hb3⟩
  have HB3 := Lib.hid (Below.after' HB2.out hb3 (Nat.le_refl _))
  have HK1 := Lib.hid (HJ1.out.grow hb3)
  have HK2 := Lib.hid (HJ2.out.grow hb3)
  have HK3 := Lib.hid (HI3.out.grow hb3)
  have HK4 := Lib.hid (HI4.out.grow hb3)
  have HI5 := Lib.hid hi5
  clear hi5 hb3 HJ1 HJ2 HI3 HI4
  go_wp2_with fail
  refine (rfav_any A c l most w3 (HX.out.grow HB3.out) (by omega)).mono ?_
  rintro e w4 ⟨A6, c6, rfl, hi6, hb4⟩
  have HB4 := Lib.hid (Below.after' HB3.out hb4 (Nat.le_refl _))
  have HL1 := Lib.hid (HK1.out.grow hb4)
  have HL2 := Lib.hid (HK2.out.grow hb4)
  have HL3 := Lib.hid (HK3.out.grow hb4)
  have HL4 := Lib.hid (HK4.out.grow hb4)
  have HL5 := Lib.hid (HI5.out.grow hb4)
  have HI6 := Lib.hid hi6
  have hfl := Po.favs_le l most.toNat
  have ht1 : (Po.tokens fs l).length ≤ 60 := by unfold Po.tokens; rw [List.length_map]; exact hl
  have ht2 : (Po.left fs l).length ≤ 60 := Nat.le_trans (List.length_filter_le _ _) hl
  clear hi6 hb4 HK1 HK2 HK3 HK4 HI5
  generalize Po.favs l most.toNat = fv at *
  generalize Po.tokens fs l = tk at *
  generalize Po.left fs l = lf at *
  go_wp2_with fail
  refine (same_any A5 A6 c5 c6 fv fv w4 HL5.out HI6.out (by omega) (by omega)).mono ?_
  rintro e w5 ⟨rfl, hb5⟩
  rw [decide_eq_true (rfl : fv = fv)]
  have HB5 := Lib.hid (Below.after' HB4.out hb5 (Nat.le_refl _))
  have HM1 := Lib.hid (HL1.out.grow hb5)
  have HM2 := Lib.hid (HL2.out.grow hb5)
  have HM3 := Lib.hid (HL3.out.grow hb5)
  have HM4 := Lib.hid (HL4.out.grow hb5)
  clear hb5 HL1 HL2 HL3 HL4 HL5
  go_wp2_with fail
  refine (same_any A1 A3 c1 c3 tk tk w5 HM1.out HM3.out (by omega) (by omega)).mono ?_
  rintro e w6 ⟨rfl, hb6⟩
  rw [decide_eq_true (rfl : tk = tk)]
  have HB6 := Lib.hid (Below.after' HB5.out hb6 (Nat.le_refl _))
  have HN2 := Lib.hid (HM2.out.grow hb6)
  have HN4 := Lib.hid (HM4.out.grow hb6)
  clear hb6 HM1 HM2 HM3 HM4
  go_wp2_with fail
  refine (same_any A2 A4 c2 c4 lf lf w6 HN2.out HN4.out (by omega) (by omega)).mono ?_
  rintro e w7 ⟨rfl, hb7⟩
  rw [decide_eq_true (rfl : lf = lf)]
  have HB7 := Lib.hid (Below.after' HB6.out hb7 (Nat.le_refl _))
  clear hb7
  go_wp2
  go_ret
  exact ⟨rfl, HB7.out⟩

set_option maxHeartbeats 8000000 in
set_option maxRecDepth 100000 in
theorem joins_law (A B C : Option Addr) (c d k : Nat) (fs ts rs : List Int) (w : World) (hx : Ints w A c fs) (hy : Ints w B d ts) (hz : Ints w C k rs) (hI : ∀ x ∈ fs, I64 x) (hJ : ∀ x ∈ rs, I64 x) :
    Calls Try.prog 4 #[.slice A fs.length c, .slice B ts.length d, .slice C rs.length k] w fun e w' => e = .returned (.bool true) ∧ Below w.heap.size w w' := by
  have HX := Lib.hid hx
  have HY := Lib.hid hy
  have HZ := Lib.hid hz
  have HI := Lib.hid hI
  have HJ := Lib.hid hJ
  have HF := Lib.hid (fixed_any w)
  clear hx hy hz hI hJ
  go_enter Try.func4, Try.ntmps4
  go_wp2_with fail
  refine HF.out.mono ?_
  rintro e w0 ⟨rfl, hb0⟩
  have HB0 := Lib.hid hb0
  clear hb0 HF
  by_cases h1 : 60 < fs.length
  · have q : decide (60 < fs.length) = true := by simp [h1]
    have q' : decide ((60 : Int) < (fs.length : Int)) = true := decide_eq_true (by omega)
    clear h1
    go_wp2
    go_ret
    exact ⟨rfl, HB0.out⟩
  have q : decide (60 < fs.length) = false := by simp; omega
  have q' : decide ((60 : Int) < (fs.length : Int)) = false := decide_eq_false (by omega)
  by_cases h2 : 60 < ts.length
  · have q2 : decide (60 < ts.length) = true := by simp [h2]
    have q2' : decide ((60 : Int) < (ts.length : Int)) = true := decide_eq_true (by omega)
    clear h1 h2
    go_wp2
    go_ret
    exact ⟨rfl, HB0.out⟩
  have q2 : decide (60 < ts.length) = false := by simp; omega
  have q2' : decide ((60 : Int) < (ts.length : Int)) = false := decide_eq_false (by omega)
  by_cases h3 : 60 < rs.length
  · have q3 : decide (60 < rs.length) = true := by simp [h3]
    have q3' : decide ((60 : Int) < (rs.length : Int)) = true := decide_eq_true (by omega)
    clear h1 h2 h3
    go_wp2
    go_ret
    exact ⟨rfl, HB0.out⟩
  have q3 : decide (60 < rs.length) = false := by simp; omega
  have q3' : decide ((60 : Int) < (rs.length : Int)) = false := decide_eq_false (by omega)
  have hl : fs.length ≤ 60 := by omega
  have hf : ts.length ≤ 60 := by omega
  have hg : rs.length ≤ 60 := by omega
  clear h1 h2 h3
  go_wp2_with fail
  refine (join_any A B C c d k fs ts rs w0 (HX.out.grow HB0.out) (HY.out.grow HB0.out) (HZ.out.grow HB0.out) HI.out HJ.out (by omega) (by omega) (by omega)).mono ?_
  rintro e w1 ⟨A1, c1, rfl, hi1, hb1⟩
  have HB1 := Lib.hid (Below.after' HB0.out hb1 (Nat.le_refl _))
  have HI1 := Lib.hid hi1
  clear hi1 hb1
  go_wp2_with fail
  refine (rjoin_any A B C c d k fs ts rs w1 (HX.out.grow HB1.out) (HY.out.grow HB1.out) (HZ.out.grow HB1.out) (by omega) (by omega) (by omega)).mono ?_
  rintro e w2 ⟨A2, c2, rfl, hi2, hb2⟩
  have HB2 := Lib.hid (Below.after' HB1.out hb2 (Nat.le_refl _))
  have HJ1 := Lib.hid (HI1.out.grow hb2)
  have HJ2 := Lib.hid hi2
  have hol : (Po.out fs ts rs).length ≤ 60 := by
    unfold Po.out
    split
    · rw [Po.rowN_length]; exact hf
    · simp
  clear hi2 hb2 HI1
  generalize Po.out fs ts rs = oo at *
  generalize Po.err fs ts rs = ee at *
  have qe : (ee == ee) = true := by simp
  go_wp2_with fail
  refine (same_any A1 A2 c1 c2 oo oo w2 HJ1.out HJ2.out (by omega) (by omega)).mono ?_
  rintro e w3 ⟨rfl, hb3⟩
  rw [decide_eq_true (rfl : oo = oo)]
  have HB3 := Lib.hid (Below.after' HB2.out hb3 (Nat.le_refl _))
  clear hb3
  go_wp2
  go_ret
  exact ⟨rfl, HB3.out⟩
end Go.Proofs.Yteegpbdkalpeiaa
