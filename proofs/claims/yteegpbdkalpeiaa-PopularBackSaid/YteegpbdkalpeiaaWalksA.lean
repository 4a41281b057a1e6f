/- The walks of layer 25: counting, and sameness. -/
import Derived.Test.YteegpbdkalpeiaaPlain
import Derived.Test.YteegpbdkalpeiaaOrder
namespace Go.Proofs.Yteegpbdkalpeiaa
open Go.RowKit

set_option maxHeartbeats 2000000 in
set_option maxRecDepth 100000 in
theorem count_any (A : Option Addr) (c : Nat) (xs : List Int) (v : Int) (w : World) (hx : Ints w A c xs) (hn : xs.length ≤ 1000000) :
    Calls Try.prog 14 #[.slice A xs.length c, .int .i64 v] w fun e w' => e = .returned (.int .i64 (xs.count v : Nat)) ∧ w = w' := by
  have HX := Lib.hid hx
  clear hx
  go_enter Try.func14, Try.ntmps14
  go_wp2_with fail
  go_loop [5, 10] (fun n u => ∃ i : Nat, i ≤ xs.length ∧ u = .int .i64 i ∧ n = .int .i64 ((xs.take i).count v : Nat)) (fun _ u => xs.length - (intOf u).toNat)
  case atStart => exact ⟨0, Nat.zero_le _, rfl, rfl⟩
  case round =>
    obtain ⟨i, hil, rfl, rfl⟩ := hrel
    have hcl : (xs.take i).count v ≤ 1000000 := Nat.le_trans List.count_le_length (by rw [List.length_take]; omega)
    by_cases h1 : i < xs.length
    · obtain ⟨g, o, x, rfl, hg, hxi, hcell⟩ := HX.out.at_ h1
      have hs := Lib.hid (show (xs.take (i + 1)).count v = (xs.take i).count v + if x = v then 1 else 0 by rw [take_snocI xs i x hxi, count_snoc])
      clear hxi
      by_cases hxv : x = v
      · have q : (x == v) = true := by simp [hxv]
        have hs2 := Lib.hid (hs.out.trans (by rw [if_pos hxv]))
        clear hxv
        go_wp2
        go_round
        case rel => exact ⟨i + 1, by omega, by go_num, by rw [hs2.out]; go_num⟩
        case measure => simp [intOf]; omega
      · have q : (x == v) = false := by simp [hxv]
        have hs2 := Lib.hid (hs.out.trans (by rw [if_neg hxv, Nat.add_zero]))
        clear hxv
        go_wp2
        go_round
        case rel => exact ⟨i + 1, by omega, by go_num, by rw [hs2.out]⟩
        case measure => simp [intOf]; omega
    · have hfin := Lib.hid (show xs.take i = xs from List.take_of_length_le (by omega))
      rw [hfin.out]
      go_wp2
      go_ret
      exact ⟨rfl, rfl⟩

set_option maxHeartbeats 2000000 in
set_option maxRecDepth 100000 in
theorem same_any (A B : Option Addr) (c d : Nat) (xs ys : List Int) (w : World) (hx : Ints w A c xs) (hy : Ints w B d ys) (hn : xs.length ≤ 1000000) (_hm : ys.length ≤ 1000000) :
    Calls Try.prog 9 #[.slice A xs.length c, .slice B ys.length d] w fun e w' => e = .returned (.bool (decide (xs = ys))) ∧ Below w.heap.size w w' := by
  by_cases hlen : xs.length = ys.length
  rotate_left
  · have hfin := Lib.hid (show decide (xs = ys) = false from decide_eq_false (fun e => hlen (by rw [e])))
    have q : ((xs.length : Int) != ys.length) = true := by rw [bne_iff_ne]; omega
    clear hx hy
    go_enter Try.func9, Try.ntmps9
    go_wp2
    go_ret
    exact ⟨ret_bool hfin.out.symm, Below.refl _ _⟩
  have q : ((xs.length : Int) != ys.length) = false := by rw [hlen]; simp
  have HX := Lib.hid hx
  have HY := Lib.hid hy
  have HL := Lib.hid hlen
  have hle : ys.length ≤ xs.length := by omega
  clear hx hy hlen
  go_enter Try.func9, Try.ntmps9
  go_wp2_with fail
  go_loopw [13] (fun u wr => ∃ i : Nat, i ≤ xs.length ∧ u = .int .i64 i ∧ Below w.heap.size w wr ∧ xs.take i = ys.take i) (fun u _ => xs.length - (intOf u).toNat)
  case atStart => exact ⟨0, Nat.zero_le _, rfl, Below.refl _ _, rfl⟩
  case round =>
    obtain ⟨i, hil, rfl, hB, ht⟩ := hrel
    have HB := Lib.hid hB
    have HT := Lib.hid ht
    by_cases h1 : i < xs.length
    · obtain ⟨g, o, x, rfl, hg, hxi, hcx⟩ := (HX.out.grow hB).at_ h1
      obtain ⟨g2, o2, y, rfl, hg2, hyi, hcy⟩ := (HY.out.grow hB).at_ (i := i) (by rw [← HL.out]; exact h1)
      have hiy : i < ys.length := by rw [← HL.out]; exact h1
      have HXI := Lib.hid hxi
      have HYI := Lib.hid hyi
      clear hB ht hxi hyi
      by_cases hxy : x = y
      · have q2 : (x != y) = false := by simp [hxy]
        have hs := Lib.hid (show xs.take (i + 1) = ys.take (i + 1) by rw [take_snocI xs i x HXI.out, take_snocI ys i y HYI.out, HT.out, hxy])
        clear hxy
        go_wp2_with fail
        refine wp_region_grow (by kernel_rfl) (by kernel_rfl) ?_
        repeat (go_big_quiet_step (fail))
        refine wpQuiet_nil ?_
        intro g1
        obtain ⟨w1, hb1⟩ := g1
        have HB2 := Lib.hid (Below.after' HB.out hb1 (Nat.le_refl _))
        dsimp only
        clear hb1
        go_wp2
        go_roundw
        case rel => exact ⟨i + 1, by omega, by go_num, HB2.out, hs.out⟩
        case measure => simp [intOf]; omega
      · have q2 : (x != y) = true := by simp [hxy]
        have hfin := Lib.hid (show decide (xs = ys) = false from decide_eq_false (fun e => by
          have h2 := HXI.out
          rw [e, HYI.out] at h2
          exact hxy (Option.some.inj h2).symm))
        clear hxy
        go_wp2_with fail
        refine wp_region_grow (by kernel_rfl) (by kernel_rfl) ?_
        repeat (go_big_quiet_step (fail))
        refine wpQuiet_nil ?_
        intro g1
        obtain ⟨w1, hb1⟩ := g1
        have HB2 := Lib.hid (Below.after' HB.out hb1 (Nat.le_refl _))
        dsimp only
        clear hb1
        go_wp2
        go_ret
        exact ⟨ret_bool hfin.out.symm, HB2.out⟩
    · have hfin := Lib.hid (show decide (xs = ys) = true from decide_eq_true (by
        rw [List.take_of_length_le (by omega), List.take_of_length_le (by rw [← HL.out]; omega)] at ht; exact ht))
      clear ht hB
      go_wp2
      go_ret
      exact ⟨ret_bool hfin.out.symm, HB.out⟩
end Go.Proofs.Yteegpbdkalpeiaa
