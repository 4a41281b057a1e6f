/- The walk of layer 25's third law. -/
import Derived.Test.YteegpbdkalpeiaaWalksL
import Derived.Test.YteegpbdkalpeiaaPlainD
namespace Go.Proofs.Yteegpbdkalpeiaa
open Go.RowKit Go.Maps

set_option maxHeartbeats 8000000 in
set_option maxRecDepth 100000 in
theorem back_law (A : Option Addr) (c : Nat) (l : List Int) (most : Int) (w : World) (hx : Ints w A c l) (hI : ∀ x ∈ l, I64 x) (hm : I64 most) :
    Calls Try.prog 5 #[.slice A l.length c, .int .i64 most] w fun e w' => e = .returned (.bool true) ∧ Below w.heap.size w w' := by
  have HX := Lib.hid hx
  have HI := Lib.hid hI
  have HM := Lib.hid hm
  have HF := Lib.hid (fixed_any w)
  clear hx hI hm
  go_enter Try.func5, Try.ntmps5
  go_wp2_with fail
  refine HF.out.mono ?_
  rintro e w0 ⟨rfl, hb0⟩
  have HB0 := Lib.hid hb0
  clear hb0 HF
  by_cases h1 : 200 < l.length
  · have q : decide (200 < l.length) = true := by simp [h1]
    have q' : decide ((200 : Int) < (l.length : Int)) = true := decide_eq_true (by omega)
    clear h1
    go_wp2
    go_ret
    exact ⟨rfl, HB0.out⟩
  have q : decide (200 < l.length) = false := by simp; omega
  have q' : decide ((200 : Int) < (l.length : Int)) = false := decide_eq_false (by omega)
  have hl : l.length ≤ 200 := by omega
  clear h1
  go_wp2_with fail
  refine (fav_any A c l most w0 (HX.out.grow HB0.out) HI.out HM.out (by omega)).mono ?_
  rintro e w1 ⟨A1, c1, rfl, hi1, hb1⟩
  have HB1 := Lib.hid (Below.after' HB0.out hb1 (Nat.le_refl _))
  have HI1 := Lib.hid hi1
  have hfl := Po.favs_le l most.toNat
  have hfk := Po.favs_length l most.toNat
  obtain ⟨hnd, hcnt⟩ := Po.favs_facts l most.toNat
  have HND := Lib.hid hnd
  have HCN := Lib.hid hcnt
  clear hi1 hb1 hnd hcnt
  generalize Po.favs l most.toNat = fs at *
  have HJ := Lib.hid (show ∀ x ∈ fs, I64 x from fun x hx => HI.out x (List.count_pos_iff.1 (by have := HCN.out x hx; omega)))
  go_wp2_with fail
  refine (split_any A A1 c c1 l fs w1 (HX.out.grow HB1.out) HI1.out HI.out HJ.out (by omega) (by omega)).mono ?_
  rintro e w2 ⟨a1, a2, rfl, hr1, hr2, hb2⟩
  obtain ⟨A2, c2, rfl, hi2⟩ := hr1.reads
  obtain ⟨A3, c3, rfl, hi3⟩ := hr2.reads
  have HB2 := Lib.hid (Below.after' HB1.out hb2 (Nat.le_refl _))
  have HJ1 := Lib.hid (HI1.out.grow hb2)
  have HI2 := Lib.hid hi2
  have HI3 := Lib.hid hi3
  have ht1 : (Po.tokens fs l).length ≤ 200 := by unfold Po.tokens; rw [List.length_map]; exact hl
  have ht2 : (Po.left fs l).length ≤ 200 := Nat.le_trans (List.length_filter_le _ _) hl
  have HLI := Lib.hid (show ∀ x ∈ Po.left fs l, I64 x from fun x hx => HI.out x (List.mem_filter.1 hx).1)
  have HBO := Lib.hid (Po.back_out HND.out l)
  have HBE := Lib.hid (Po.back_err HND.out l)
  clear hr1 hr2 hi2 hi3 hb2 HI1
  generalize Po.tokens fs l = tk at *
  generalize Po.left fs l = lf at *
  go_wp2_with fail
  refine (join_any A1 A2 A3 c1 c2 c3 fs tk lf w2 HJ1.out HI2.out HI3.out HJ.out HLI.out (by omega) (by omega) (by omega)).mono ?_
  rintro e w3 ⟨A4, c4, rfl, hi4, hb3⟩
  have ho := HBO.out
  have he := HBE.out
  rw [ho] at hi4 ⊢
  rw [he]
  have HB3 := Lib.hid (Below.after' HB2.out hb3 (Nat.le_refl _))
  have HK1 := Lib.hid (HJ1.out.grow hb3)
  have HI4 := Lib.hid hi4
  clear hi4 hb3 ho he HJ1 HI2 HI3 HBO HBE HLI
  have HC := Lib.hid (fun v => count_any A c l v w3 (HX.out.grow HB3.out) (by omega))
  have HS := Lib.hid (same_any A4 A c4 c l l w3 HI4.out (HX.out.grow HB3.out) (by omega) (by omega))
  rw [decide_eq_true (rfl : l = l)] at HS
  go_wp2_with fail
  go_loop [35] (fun u => ∃ i : Nat, i ≤ fs.length ∧ u = .int .i64 i) (fun u => fs.length - (Go.RowKit.intOf u).toNat)
  case atStart => exact ⟨0, Nat.zero_le _, rfl⟩
  case round =>
    obtain ⟨i, hil, rfl⟩ := hrel
    by_cases h1 : i < fs.length
    · obtain ⟨g, o, x, rfl, hg, hxi, hcell⟩ := HK1.out.at_ h1
      have hc2 := HCN.out x (List.mem_of_getElem? hxi)
      have hF := Lib.hid (HC.out x)
      have hce : l.count x ≤ 1000000 := Nat.le_trans List.count_le_length (by omega)
      generalize l.count x = n at hF hce hc2
      have q3 : decide (n < 2) = false := by simp; omega
      have q3' : decide ((n : Int) < 2) = false := decide_eq_false (by omega)
      clear hxi hc2
      go_wp2_with fail
      refine hF.out.mono ?_
      rintro e w' ⟨rfl, rfl⟩
      go_wp2
      go_round
      case rel => exact ⟨i + 1, by omega, by go_num⟩
      case measure => simp [Go.RowKit.intOf]; omega
    · clear HC
      have q4 : decide ((fs.length : Int) ≤ max most 0) = true := decide_eq_true (by omega)
      go_wp2_with fail
      refine HS.out.mono ?_
      rintro e w4 ⟨rfl, hb4⟩
      have HB4 := Lib.hid (Below.after' HB3.out hb4 (Nat.le_refl _))
      clear hb4
      go_wp2
      go_ret
      exact ⟨rfl, HB4.out⟩
end Go.Proofs.Yteegpbdkalpeiaa
