/- Joined texts: RhA, RhB, Rget, RhG, RhH. -/
import Derived.Test.YtbdkoagagcemcaaPk4
import Derived.Test.YtbdkoagagcemcaaPk6
import Derived.Test.YtbdkoagagcemcaaPk5
import Derived.Deep.Cut
/- The walks of layer 24's reference: whether a coding may be, its reach, plain numbers, and bounds. -/
namespace Go.Proofs.Ytbdkoagagcemcaa
open Go.RowKit

set_option maxHeartbeats 4000000 in
set_option maxRecDepth 100000 in
theorem rright_any (c : Cod) (hc : c.ok) (w : World) : Calls Try.prog 18 #[c.val] w fun ex y => ex = .returned (.bool true) ∧ Below w.heap.size w y := by
  obtain ⟨h1, h2, h3, h4, h5, h6, h7, h8⟩ := hc
  obtain ⟨B, H, S, D⟩ := c
  dsimp only at *
  unfold Cod.val
  have p1 : decide ((B : Int) < 1) = false := decide_eq_false (by omega)
  have p2 : decide ((5 : Int) < (B : Int)) = false := decide_eq_false (by omega)
  have p3 : decide ((H : Int) < 2) = false := decide_eq_false (by omega)
  have p4 : decide ((256 : Int) < (H : Int)) = false := decide_eq_false (by omega)
  have p5 : decide ((S : Int) < 0) = false := decide_eq_false (by omega)
  have p6 : decide ((2 : Int) < (S : Int)) = false := decide_eq_false (by omega)
  have p7 : decide ((D : Int) < 0) = false := decide_eq_false (by omega)
  have p8 : decide ((1 : Int) < (D : Int)) = false := decide_eq_false (by omega)
  by_cases q1 : 1 < B
  · have r1 : decide ((1 : Int) < (B : Int)) = true := decide_eq_true (by omega)
    by_cases q2 : H < 256
    · have r2 : decide ((H : Int) < 256) = true := decide_eq_true (by omega)
      clear h7 h8
      go_enter Try.func18, Try.ntmps18
      go_wp2
      go_ret
      exact ⟨rfl, by first | exact Below.refl _ _ | exact (Below.refl _ _).alloc (Nat.le_refl _) _⟩
    · have r2 : decide ((H : Int) < 256) = false := decide_eq_false (by omega)
      have r3 : decide ((B : Int) ≤ 4) = true := decide_eq_true (by omega)
      clear h7 h8
      go_enter Try.func18, Try.ntmps18
      go_wp2
      go_ret
      exact ⟨rfl, by first | exact Below.refl _ _ | exact (Below.refl _ _).alloc (Nat.le_refl _) _⟩
  · obtain rfl : H = 256 := by omega
    obtain rfl : B = 1 := by omega
    clear h7 h8
    go_enter Try.func18, Try.ntmps18
    go_wp2
    go_ret
    exact ⟨rfl, by first | exact Below.refl _ _ | exact (Below.refl _ _).alloc (Nat.le_refl _) _⟩
set_option maxRecDepth 100000 in
theorem rreach_any (c : Cod) (hc : c.ok) (w : World) : Calls Try.prog 59 #[c.val] w fun ex y => ex = .returned (.int .i64 (c.reach : Int)) ∧ Below w.heap.size w y := by
  have hh : c.h ≤ 256 := hc.2.2.2.1
  have h1 : 1 ≤ c.b := hc.1
  have h5 : c.b ≤ 5 := hc.2.1
  have hb := Lib.hid (fun k (hk : k ≤ 4) => Nat.le_trans (reachU_le c.h hh k) (Nat.pow_le_pow_right (by decide : 0 < 256) (by omega : k + 1 ≤ 5)))
  have hfin := Lib.hid (show c.reach = min (reachU c.h (c.b - 1)) 4294967296 from rfl)
  unfold Cod.val at *
  generalize c.b = B at *
  generalize c.h = H at *
  generalize c.s = S at *
  generalize c.d = D at *
  generalize c.reach = R at *
  clear hc c
  go_enter Try.func59, Try.ntmps59
  go_wp2_with fail
  go_loop [3, 4] (fun u t => ∃ i : Nat, i ≤ B - 1 ∧ t = .int .i64 (i + 1 : Nat) ∧ u = .int .i64 (reachU H i : Int)) (fun _ t => B + 1 - (intOf t).toNat)
  case atStart => exact ⟨0, Nat.zero_le _, rfl, rfl⟩
  case round =>
    obtain ⟨i, hi, rfl, rfl⟩ := hrel
    have hb0 := hb.out i (by omega)
    by_cases h2 : i < B - 1
    · have hb2 := hb.out (i + 1) (by omega)
      have hm := Lib.hid (show (256 - (H : Int)) + (H : Int) * (reachU H i : Int) = (reachU H (i + 1) : Int) by
        rw [show reachU H (i + 1) = 256 - H + H * reachU H i from rfl, Int.natCast_add, Int.natCast_mul, Int.ofNat_sub hh]; rfl)
      have hp0 : 0 ≤ (H : Int) * (reachU H i : Int) := Int.mul_nonneg (by omega) (by omega)
      have hp1 : (H : Int) * (reachU H i : Int) ≤ 2000000000000 := by have := hm.out; omega
      have q1 : decide (((i + 1 : Nat) : Int) < (B : Int)) = true := decide_eq_true (by omega)
      have q2 : decide (i + 1 < B) = true := decide_eq_true (by omega)
      have q3 : decide ((i : Int) + 1 < (B : Int)) = true := decide_eq_true (by omega)
      have hq := Lib.hid hb2
      clear hb2
      generalize hr2 : reachU H (i + 1) = r2 at *
      have HR2 := Lib.hid hr2
      clear hr2
      go_wp2_with fail
      go_round
      case rel => exact ⟨i + 1, by omega, by go_num, by rw [hm.out, HR2.out]⟩
      case measure => simp [intOf]; omega
    · obtain rfl : i = B - 1 := by omega
      have q1 : decide (((B - 1 + 1 : Nat) : Int) < (B : Int)) = false := decide_eq_false (by omega)
      have q2 : decide (B - 1 + 1 < B) = false := decide_eq_false (by omega)
      have q3 : decide (((B - 1 : Nat) : Int) + 1 < (B : Int)) = false := decide_eq_false (by omega)
      clear h2 hi
      have hm := hfin.out
      generalize reachU H (B - 1) = r at *
      by_cases hbig : 4294967296 < r
      · have q4 : decide ((4294967296 : Int) < (r : Int)) = true := decide_eq_true (by omega)
        have hm2 := Lib.hid (show R = 4294967296 by omega)
        clear hbig
        go_wp2_with fail
        go_ret
        exact ⟨ret_int (by have := hm2.out; omega), (Below.refl _ _).alloc (Nat.le_refl _) _⟩
      · have q4 : decide ((4294967296 : Int) < (r : Int)) = false := decide_eq_false (by omega)
        have hm2 := Lib.hid (show R = r by omega)
        clear hbig
        go_wp2_with fail
        go_ret
        exact ⟨ret_int (by have := hm2.out; omega), (Below.refl _ _).alloc (Nat.le_refl _) _⟩
set_option maxRecDepth 100000 in
theorem rpart_any (c : Cod) (hc : c.ok) (w : World) : Calls Try.prog 60 #[c.val] w fun ex y => ex = .returned (.int .i64 (2 ^ c.s - 1 : Int)) ∧ Below w.heap.size w y := by
  have h := small_s hc
  unfold Cod.val
  generalize c.b = B
  generalize c.h = H
  generalize c.d = D
  generalize c.s = S at *
  clear hc c
  rcases h with rfl | rfl | rfl
  all_goals
    go_enter Try.func60, Try.ntmps60
    go_wp2_with fail
    go_ret
    exact ⟨rfl, (Below.refl _ _).alloc (Nat.le_refl _) _⟩
set_option maxRecDepth 100000 in
theorem rbound_any (c : Cod) (hc : c.ok) (v : Int) (_hv : I64 v) (w : World) : Calls Try.prog 35 #[c.val, .int .i64 v] w fun ex y => ex = .returned (.bool (boundI c.s v)) ∧ Below w.heap.size w y := by
  have h := small_s hc
  unfold I64 at _hv
  unfold Cod.val boundI
  generalize c.b = B
  generalize c.h = H
  generalize c.d = D
  generalize c.s = S at *
  clear hc c
  rcases h with rfl | rfl | rfl
  · by_cases h0 : 0 ≤ v
    · have p0 : decide (0 ≤ v) = true := decide_eq_true h0
      go_enter Try.func35, Try.ntmps35
      go_wp2_with fail
      go_ret
      exact ⟨ret_bool (by simp), (Below.refl _ _).alloc (Nat.le_refl _) _⟩
    · have p0 : decide (0 ≤ v) = false := decide_eq_false h0
      go_enter Try.func35, Try.ntmps35
      go_wp2_with fail
      go_ret
      exact ⟨ret_bool (by simp), (Below.refl _ _).alloc (Nat.le_refl _) _⟩
  · by_cases h0 : -2147483648 ≤ v
    · have p0 : decide (-2147483648 ≤ v) = true := decide_eq_true h0
      go_enter Try.func35, Try.ntmps35
      go_wp2_with fail
      go_ret
      exact ⟨ret_bool (by simp), (Below.refl _ _).alloc (Nat.le_refl _) _⟩
    · have p0 : decide (-2147483648 ≤ v) = false := decide_eq_false h0
      go_enter Try.func35, Try.ntmps35
      go_wp2_with fail
      go_ret
      exact ⟨ret_bool (by simp), (Below.refl _ _).alloc (Nat.le_refl _) _⟩
  · by_cases h0 : -2147483648 ≤ v
    · have p0 : decide (-2147483648 ≤ v) = true := decide_eq_true h0
      go_enter Try.func35, Try.ntmps35
      go_wp2_with fail
      go_ret
      exact ⟨ret_bool (by simp), (Below.refl _ _).alloc (Nat.le_refl _) _⟩
    · have p0 : decide (-2147483648 ≤ v) = false := decide_eq_false h0
      go_enter Try.func35, Try.ntmps35
      go_wp2_with fail
      go_ret
      exact ⟨ret_bool (by simp), (Below.refl _ _).alloc (Nat.le_refl _) _⟩
theorem roundI_hi {s : Nat} {v : Int} (_h : boundI s v = false) (_hv : 0 < v) : roundI s (v - 4294967296) = roundI s v := by
  unfold roundI
  split <;> omega
theorem roundI_lo (s : Nat) (v : Int) : roundI s (v + 4294967296) = roundI s v := by
  unfold roundI
  split <;> omega
theorem roundI_dn (s : Nat) (v : Int) : roundI s (v - 4294967296) = roundI s v := by
  unfold roundI
  split <;> omega
theorem roundI_same {s : Nat} {v : Int} (h : boundI s v = true) : roundI s v = v := by
  unfold boundI at h
  unfold roundI
  by_cases hs : s = 0
  · rw [if_pos hs] at h ⊢
    have := of_decide_eq_true h
    omega
  · rw [if_neg hs] at h ⊢
    have := of_decide_eq_true h
    omega
theorem boundI_not {s : Nat} {v : Int} (h : boundI s v = false) : v < 0 ∨ 2147483648 ≤ v := by
  unfold boundI at h
  split at h
  · have := of_decide_eq_false h; omega
  · have := of_decide_eq_false h; omega
theorem boundI_up {s : Nat} {u : Int} (h : boundI s u = false) (hu : u < 0) : boundI s (u + 4294967296) = true ∨ u + 4294967296 < 0 := by
  by_cases h1 : u + 4294967296 < 0
  · exact .inr h1
  · refine .inl ?_
    unfold boundI at h ⊢
    by_cases hs : s = 0
    · rw [if_pos hs]
      exact decide_eq_true (by omega)
    · rw [if_neg hs] at h ⊢
      have := of_decide_eq_false h
      exact decide_eq_true (by omega)
theorem boundI_lowI {s : Nat} {v : Int} (h : boundI s v = false) (h1 : ¬ 0 < v) : v < 0 := by
  rcases boundI_not h with h | h <;> omega
set_option maxHeartbeats 4000000 in
set_option maxRecDepth 100000 in
theorem rround_any (c : Cod) (hc : c.ok) (v : Int) (hv : -1000000000000 ≤ v ∧ v ≤ 1000000000000) (w : World) : Calls Try.prog 36 #[c.val, .int .i64 v] w fun ex y => ex = .returned (.int .i64 (roundI c.s v)) ∧ Below w.heap.size w y := by
  have HBd := Lib.hid (fun v hv w => rbound_any c hc v hv w)
  unfold Cod.val at *
  go_enter Try.func36, Try.ntmps36
  go_wp2_with fail
  have hbx0 : CBox (w.alloc (.cells #[.int .i64 c.b, .int .i64 c.h, .int .i64 c.s, .int .i64 c.d] 38)) w.heap.size c := heap_alloc_new w _
  have hb0 := (Below.refl w.heap.size w).alloc (Nat.le_refl _) (.cells #[.int .i64 c.b, .int .i64 c.h, .int .i64 c.s, .int .i64 c.d] 38)
  have HX0 := Lib.hid hbx0
  have HB0 := Lib.hid hb0
  clear hbx0 hb0
  go_loopw [1] (fun t wr => ∃ u : Int, t = .int .i64 u ∧ -6000000000 + (if v < 0 then v else 0) ≤ u ∧ u ≤ 1000000000000 ∧ roundI c.s u = roundI c.s v ∧ CBox wr w.heap.size c ∧ Below w.heap.size w wr) (fun t _ => (intOf t + 6000000000000).toNat)
  case atStart => exact ⟨v, rfl, by split <;> omega, by omega, rfl, HX0.out, HB0.out⟩
  case round =>
    obtain ⟨u, rfl, hu1, hu2, hr, hbx, hB⟩ := hrel
    have hu3 : -2000000000000 ≤ u := by split at hu1 <;> omega
    have huI : I64 u := by unfold I64; omega
    have HBX := Lib.hid hbx
    have HW := Lib.hid hB
    have HR := Lib.hid hr
    have HU1 := Lib.hid hu1
    have d0 := (blk_facts hbx).1 0
    have d1 := (blk_facts hbx).1 1
    have d2 := (blk_facts hbx).1 2
    have d3 := (blk_facts hbx).1 3
    have hz := (Array.getElem?_eq_some_iff.1 hbx).1
    clear hbx hB hr hu1
    go_wp2_with fail
    refine (HBd.out u huI _).mono ?_
    rintro ex y ⟨rfl, hb1⟩
    have hbx1 := HBX.out.grow hb1
    have HBX1 := Lib.hid hbx1
    have HW1 := Lib.hid (Below.after' HW.out hb1 (Nat.le_refl _))
    clear d0 d1 d2 d3 hz hb1 HBX HW
    have d0 := (blk_facts hbx1).1 0
    have d1 := (blk_facts hbx1).1 1
    have d2 := (blk_facts hbx1).1 2
    have d3 := (blk_facts hbx1).1 3
    have hz := (Array.getElem?_eq_some_iff.1 hbx1).1
    clear hbx1
    cases hbd : boundI c.s u with
    | true =>
      have HST := Lib.hid (show boundI c.s u = true ∨ u < 0 from .inl hbd)
      clear hbd
      go_wp2_with fail
      go_loopw [1] (fun t wr => ∃ u : Int, t = .int .i64 u ∧ -3000000000000 ≤ u ∧ u ≤ 1000000000000 ∧ roundI c.s u = roundI c.s v ∧ (boundI c.s u = true ∨ u < 0) ∧ CBox wr w.heap.size c ∧ Below w.heap.size w wr) (fun t _ => (4000000000000 - intOf t).toNat)
      case atStart => exact ⟨u, rfl, by omega, by omega, HR.out, HST.out, HBX1.out, HW1.out⟩
      case round =>
        clear d0 d1 d2 d3 hz HBX1 HW1 HR HST hu2 hu3 huI HU1
        obtain ⟨q, rfl, hq1, hq2, hr, hst, hbx, hB⟩ := hrel
        have hqI : I64 q := by unfold I64; omega
        have HBX := Lib.hid hbx
        have HW := Lib.hid hB
        have HR := Lib.hid hr
        have d0 := (blk_facts hbx).1 0
        have d1 := (blk_facts hbx).1 1
        have d2 := (blk_facts hbx).1 2
        have d3 := (blk_facts hbx).1 3
        have hz := (Array.getElem?_eq_some_iff.1 hbx).1
        clear hbx hB hr
        go_wp2_with fail
        refine (HBd.out q hqI _).mono ?_
        rintro ex y2 ⟨rfl, hb1⟩
        have hbx1 := HBX.out.grow hb1
        have HBX1 := Lib.hid hbx1
        have HW1 := Lib.hid (Below.after' HW.out hb1 (Nat.le_refl _))
        clear d0 d1 d2 d3 hz hb1 HBX HW
        cases hbq : boundI c.s q with
        | true =>
          have hfin := Lib.hid (HR.out.symm.trans (roundI_same hbq))
          clear hst hbq hbx1
          go_wp2_with fail
          go_ret
          exact ⟨ret_int hfin.out.symm, HW1.out⟩
        | false =>
          have hq0 : q < 0 := by
            rcases hst with h | h
            · rw [hbq] at h; cases h
            · exact h
          have HS2 := Lib.hid (boundI_up hbq hq0)
          clear hst hbq hbx1
          go_wp2_with fail
          go_roundw
          case rel => exact ⟨q + 4294967296, by go_num, by omega, by omega, (roundI_lo _ _).trans HR.out, HS2.out, HBX1.out, HW1.out⟩
          case measure => simp [intOf]; omega
    | false =>
      by_cases hu0 : 0 < u
      · have p1 : decide (0 < u) = true := decide_eq_true hu0
        have HR2 := Lib.hid ((roundI_dn c.s u).trans HR.out)
        clear hbd
        go_wp2_with fail
        go_roundw
        case rel => exact ⟨u - 4294967296, by go_num, by split <;> omega, by omega, HR2.out, HBX1.out, HW1.out⟩
        case measure => simp [intOf]; omega
      · have p1 : decide (0 < u) = false := decide_eq_false hu0
        have HST := Lib.hid (show boundI c.s u = true ∨ u < 0 from .inr (boundI_lowI hbd hu0))
        clear hbd
        go_wp2_with fail
        go_loopw [1] (fun t wr => ∃ u : Int, t = .int .i64 u ∧ -3000000000000 ≤ u ∧ u ≤ 1000000000000 ∧ roundI c.s u = roundI c.s v ∧ (boundI c.s u = true ∨ u < 0) ∧ CBox wr w.heap.size c ∧ Below w.heap.size w wr) (fun t _ => (4000000000000 - intOf t).toNat)
        case atStart => exact ⟨u, rfl, by omega, by omega, HR.out, HST.out, HBX1.out, HW1.out⟩
        case round =>
          clear d0 d1 d2 d3 hz HBX1 HW1 HR HST hu2 hu3 huI HU1
          obtain ⟨q, rfl, hq1, hq2, hr, hst, hbx, hB⟩ := hrel
          have hqI : I64 q := by unfold I64; omega
          have HBX := Lib.hid hbx
          have HW := Lib.hid hB
          have HR := Lib.hid hr
          have d0 := (blk_facts hbx).1 0
          have d1 := (blk_facts hbx).1 1
          have d2 := (blk_facts hbx).1 2
          have d3 := (blk_facts hbx).1 3
          have hz := (Array.getElem?_eq_some_iff.1 hbx).1
          clear hbx hB hr
          go_wp2_with fail
          refine (HBd.out q hqI _).mono ?_
          rintro ex y2 ⟨rfl, hb1⟩
          have hbx1 := HBX.out.grow hb1
          have HBX1 := Lib.hid hbx1
          have HW1 := Lib.hid (Below.after' HW.out hb1 (Nat.le_refl _))
          clear d0 d1 d2 d3 hz hb1 HBX HW
          cases hbq : boundI c.s q with
          | true =>
            have hfin := Lib.hid (HR.out.symm.trans (roundI_same hbq))
            clear hst hbq hbx1
            go_wp2_with fail
            go_ret
            exact ⟨ret_int hfin.out.symm, HW1.out⟩
          | false =>
            have hq0 : q < 0 := by
              rcases hst with h | h
              · rw [hbq] at h; cases h
              · exact h
            have HS2 := Lib.hid (boundI_up hbq hq0)
            clear hst hbq hbx1
            go_wp2_with fail
            go_roundw
            case rel => exact ⟨q + 4294967296, by go_num, by omega, by omega, (roundI_lo _ _).trans HR.out, HS2.out, HBX1.out, HW1.out⟩
            case measure => simp [intOf]; omega
end Go.Proofs.Ytbdkoagagcemcaa

/- The walks of layer 24's reference: a number's plain one, whether it may be written, and its bytes. -/
namespace Go.Proofs.Ytbdkoagagcemcaa
open Go.RowKit

theorem tdiv_pos {x y : Int} (h : 0 ≤ x) (_hy : 0 < y) : x.tdiv y = x / y := Int.tdiv_eq_ediv_of_nonneg h
set_option maxHeartbeats 4000000 in
set_option maxRecDepth 100000 in
theorem rplain_far (c : Cod) (v : Int) (h : v < -8589934592 ∨ 8589934592 < v) (w : World) : Calls Try.prog 38 #[c.val, .int .i64 v] w fun ex y => ex = .returned (.tuple #[.int .i64 0, .bool false]) ∧ Below w.heap.size w y := by
  unfold Cod.val
  generalize c.b = B
  generalize c.h = H
  generalize c.d = D
  generalize c.s = S
  clear c
  by_cases h1 : v < -8589934592
  · have p1 : decide (v < -8589934592) = true := decide_eq_true h1
    go_enter Try.func38, Try.ntmps38
    go_wp2_with fail
    go_ret2
    exact ⟨rfl, (Below.refl _ _).alloc (Nat.le_refl _) _⟩
  · have p1 : decide (v < -8589934592) = false := decide_eq_false h1
    have p2 : decide (8589934592 < v) = true := decide_eq_true (by omega)
    go_enter Try.func38, Try.ntmps38
    go_wp2_with fail
    go_ret2
    exact ⟨rfl, (Below.refl _ _).alloc (Nat.le_refl _) _⟩
set_option maxHeartbeats 4000000 in
set_option maxRecDepth 100000 in
theorem rplain_any (c : Cod) (hc : c.ok) (v : Int) (hv1 : -8589934592 ≤ v) (hv2 : v ≤ 8589934592) (w : World) : Calls Try.prog 38 #[c.val, .int .i64 v] w fun ex y => ex = .returned (.tuple #[.int .i64 (plainI c.s v), .bool true]) ∧ Below w.heap.size w y := by
  have h := small_s hc
  have HP := Lib.hid (fun w => rpart_any c hc w)
  unfold Cod.val at *
  unfold plainI
  generalize c.b = B at *
  generalize c.h = H at *
  generalize c.d = D at *
  generalize c.s = S at *
  clear hc c
  have p1 : decide (v < -8589934592) = false := decide_eq_false (by omega)
  have p2 : decide (8589934592 < v) = false := decide_eq_false (by omega)
  rcases h with rfl | rfl | rfl
  · go_enter Try.func38, Try.ntmps38
    go_wp2_with fail
    go_ret2
    exact ⟨rfl, (Below.refl _ _).alloc (Nat.le_refl _) _⟩
  · rw [show ((2 : Int) ^ 1 - 1) = 1 from rfl] at HP
    by_cases h3 : v < 0
    · have p3 : decide (v < 0) = true := decide_eq_true h3
      go_enter Try.func38, Try.ntmps38
      go_wp2_with fail
      refine (HP.out _).mono ?_
      rintro ex y ⟨rfl, hb1⟩
      have HB := Lib.hid (Below.after' ((Below.refl w.heap.size w).alloc (Nat.le_refl _) _) hb1 (by simp))
      clear hb1
      go_wp2_with fail
      go_ret2
      exact ⟨by simp, HB.out⟩
    · have p3 : decide (v < 0) = false := decide_eq_false h3
      go_enter Try.func38, Try.ntmps38
      go_wp2_with fail
      refine (HP.out _).mono ?_
      rintro ex y ⟨rfl, hb1⟩
      have HB := Lib.hid (Below.after' ((Below.refl w.heap.size w).alloc (Nat.le_refl _) _) hb1 (by simp))
      clear hb1
      go_wp2_with fail
      go_ret2
      exact ⟨by simp, HB.out⟩
  · rw [show ((2 : Int) ^ 2 - 1) = 3 from rfl] at HP
    by_cases h3 : v < 0
    · have p3 : decide (v < 0) = true := decide_eq_true h3
      go_enter Try.func38, Try.ntmps38
      go_wp2_with fail
      refine (HP.out _).mono ?_
      rintro ex y ⟨rfl, hb1⟩
      have HB := Lib.hid (Below.after' ((Below.refl w.heap.size w).alloc (Nat.le_refl _) _) hb1 (by simp))
      clear hb1
      go_wp2_with fail
      go_ret2
      exact ⟨by simp, HB.out⟩
    · have p3 : decide (v < 0) = false := decide_eq_false h3
      go_enter Try.func38, Try.ntmps38
      go_wp2_with fail
      refine (HP.out _).mono ?_
      rintro ex y ⟨rfl, hb1⟩
      have HB := Lib.hid (Below.after' ((Below.refl w.heap.size w).alloc (Nat.le_refl _) _) hb1 (by simp))
      clear hb1
      go_wp2_with fail
      go_ret2
      exact ⟨by simp, HB.out⟩
theorem fits_far {c : Cod} (hc : c.ok) {v : Int} (h : v < -8589934592 ∨ 8589934592 < v) : c.fits (plainI c.s v) = false := by
  rw [← plainP_fits c hc.2.2.2.2.1 v]
  unfold plainP
  rw [if_pos h]
  unfold Cod.fits
  exact decide_eq_false (by omega)
theorem fits_and (c : Cod) (u : Int) : c.fits u = (decide (0 ≤ u) && decide (u < (c.reach : Int))) := by unfold Cod.fits; rw [Bool.decide_and]
set_option maxHeartbeats 4000000 in
set_option maxRecDepth 100000 in
theorem rfits_any (c : Cod) (hc : c.ok) (v : Int) (w : World) : Calls Try.prog 37 #[c.val, .int .i64 v] w fun ex y => ex = .returned (.bool (c.fits (plainI c.s v))) ∧ Below w.heap.size w y := by
  have HRt := Lib.hid (fun w => rright_any c hc w)
  have HRc := Lib.hid (fun w => rreach_any c hc w)
  have HF := Lib.hid (fun h w => rplain_far c v h w)
  have HP := Lib.hid (fun h1 h2 w => rplain_any c hc v h1 h2 w)
  have hin := Lib.hid (fun h1 h2 => plainI_in (s := c.s) hc.2.2.2.2.1 (v := v) h1 h2)
  have hff := Lib.hid (fun h => fits_far (c := c) hc (v := v) h)
  have hand := Lib.hid (fits_and c (plainI c.s v))
  unfold Cod.val at *
  clear hc
  go_enter Try.func37, Try.ntmps37
  go_wp2_with fail
  refine (HRt.out _).mono ?_
  rintro ex y ⟨rfl, hb1⟩
  have hbx : CBox y w.heap.size c := (hb1.block w.heap.size (by simp)).trans (heap_alloc_new w _)
  have HB1 := Lib.hid (Below.after' ((Below.refl w.heap.size w).alloc (Nat.le_refl _) _) hb1 (by simp))
  have HBX := Lib.hid hbx
  have d0 := (blk_facts hbx).1 0
  have d1 := (blk_facts hbx).1 1
  have d2 := (blk_facts hbx).1 2
  have d3 := (blk_facts hbx).1 3
  have hz := (Array.getElem?_eq_some_iff.1 hbx).1
  clear hb1 hbx
  by_cases hf : v < -8589934592 ∨ 8589934592 < v
  · have hfin := Lib.hid (hff.out hf)
    have HP9 := Lib.hid (HF.out hf)
    clear hf
    go_wp2_with fail
    refine (HP9.out _).mono ?_
    rintro ex z ⟨rfl, hb2⟩
    have HB2 := Lib.hid (Below.after' HB1.out hb2 (Nat.le_refl _))
    clear hb2
    go_wp2_with fail
    go_ret
    exact ⟨by rw [hfin.out]; rfl, HB2.out⟩
  · have HP9 := Lib.hid (HP.out (by omega) (by omega))
    obtain ⟨i1, i2⟩ := hin.out (by omega) (by omega)
    clear hf
    generalize hu : plainI c.s v = u at *
    have HU := Lib.hid hu
    clear hu
    go_wp2_with fail
    refine (HP9.out _).mono ?_
    rintro ex z ⟨rfl, hb2⟩
    have HB2 := Lib.hid (Below.after' HB1.out hb2 (Nat.le_refl _))
    have hbx2 := HBX.out.grow hb2
    clear hb2 d0 d1 d2 d3 hz
    have d0 := (blk_facts hbx2).1 0
    have d1 := (blk_facts hbx2).1 1
    have d2 := (blk_facts hbx2).1 2
    have d3 := (blk_facts hbx2).1 3
    have hz := (Array.getElem?_eq_some_iff.1 hbx2).1
    clear hbx2
    by_cases h0 : 0 ≤ u
    · have p0 : decide (0 ≤ u) = true := decide_eq_true h0
      go_wp2_with fail
      refine (HRc.out _).mono ?_
      rintro ex z2 ⟨rfl, hb3⟩
      have HB3 := Lib.hid (Below.after' HB2.out hb3 (Nat.le_refl _))
      clear hb3
      go_wp2_with fail
      go_ret
      exact ⟨by rw [HU.out, hand.out, p0]; rfl, HB3.out⟩
    · have p0 : decide (0 ≤ u) = false := decide_eq_false h0
      go_wp2_with fail
      go_ret
      exact ⟨by rw [HU.out, hand.out, p0]; rfl, HB2.out⟩
end Go.Proofs.Ytbdkoagagcemcaa

/- The walk of layer 24's reference: a number that is read. -/
namespace Go.Proofs.Ytbdkoagagcemcaa
open Go.RowKit

theorem reach_iff {c : Cod} {l r : List UInt8} {u : Nat} (hh : c.h ≤ 256) (h : getU c.h (c.b - 1) l = some (u, r)) : c.reach ≤ u ↔ 4294967296 ≤ u := by
  have := get_lt hh _ _ _ h
  dsimp only at this
  unfold Cod.reach
  omega
section
variable {x : World} {b : Nat} {A : Option Addr} {cc : Nat} {l : List UInt8} {n : Nat}
set_option maxHeartbeats 8000000 in
set_option maxRecDepth 100000 in
theorem rget_any (c : Cod) (hc : c.ok) (h : RCur x b A cc l n 0) :
    Calls Try.prog 64 #[.pointer (some ⟨b, 0, none⟩), c.val] x fun ex y => ∃ (v : Int) (m : Nat) (e : Int), ex = .returned (.int .i64 v) ∧ RCur y b A cc l m e ∧ Outc (c.get (l.drop n)) 0 v e (l.drop m) ∧ x.grownBy y (some b) := by
  have H0 := Lib.hid h
  have hbl := h.lt
  have HRt := Lib.hid (fun w => rright_any c hc w)
  have HRc := Lib.hid (fun w => rreach_any c hc w)
  have HPt := Lib.hid (fun w => rpart_any c hc w)
  have hh := ok_h hc
  have hb := ok_b hc
  have hss := small_s hc
  have hN := Lib.hid (fun h => Cod.get_none (c := c) (l := l.drop n) h)
  have hF := Lib.hid (fun u r h => Cod.get_far (c := c) (l := l.drop n) (r := r) (u := u) h)
  have hO := Lib.hid (fun u r h => Cod.get_ok (c := c) (l := l.drop n) (r := r) (u := u) h)
  have hRI := Lib.hid (fun u r h => reach_iff (c := c) (l := l.drop n) (r := r) (u := u) hh.2 h)
  unfold Cod.val at *
  have k1 := (Below.refl x.heap.size x).alloc (Nat.le_refl _) (.cells #[.int .i64 c.b, .int .i64 c.h, .int .i64 c.s, .int .i64 c.d] 38)
  have hcc0 := h.grow k1
  have f0 := hcc0.cb
  have f1 := hcc0.ca
  have f2 := hcc0.ce
  have ff := hcc0.frozen 2
  have fz := hcc0.lt
  have HK1 := Lib.hid k1
  clear h k1 hcc0
  go_enter Try.func64, Try.ntmps64
  go_wp2_with fail
  refine (HRt.out _).mono ?_
  rintro ex y ⟨rfl, hb1⟩
  have hbx : CBox y x.heap.size c := (hb1.block x.heap.size (by simp)).trans (heap_alloc_new x _)
  have hx1 := Below.after' HK1.out hb1 (by simp)
  have HC := Lib.hid (H0.out.grow hx1)
  have HG := Lib.hid (grownBy_below hx1 (some b))
  have HBX := Lib.hid hbx
  clear hb1 hbx hx1 f0 f1 f2 ff fz
  go_wp2_with fail
  go_loopw [5, 6, 7] (fun s t i wr => ∃ (k u W : Nat), i = .int .i64 (k + 1 : Nat) ∧ s = .int .i64 u ∧ t = .int .i64 W ∧ u ≤ 256 ^ k ∧ W ≤ 256 ^ k ∧ x.grownBy wr (some b) ∧ CBox wr x.heap.size c ∧ k < c.b ∧
    ((RCur wr b A cc l (n + k) 0 ∧ onU u W (getU c.h (c.b - 1 - k) (l.drop (n + k))) = getU c.h (c.b - 1) (l.drop n)) ∨
     ((∃ m, RCur wr b A cc l m 6) ∧ getU c.h (c.b - 1) (l.drop n) = none))) (fun _ _ i _ => c.b + 2 - (intOf i).toNat)
  case atStart => exact ⟨0, 0, 1, rfl, rfl, rfl, by decide, by decide, HG.out, HBX.out, by omega, .inl ⟨HC.out, by
    rw [Nat.sub_zero, Nat.add_zero]
    cases getU c.h (c.b - 1) (l.drop n) with
    | none => rfl
    | some p => simp [onU]⟩⟩
  case round =>
    clear HC HG HBX
    obtain ⟨k, u, W, rfl, rfl, rfl, hu, hW, hg, hbx, hk, hst⟩ := hrel
    have HGR := Lib.hid hg
    have HBX := Lib.hid hbx
    have hp5 : 256 ^ k ≤ 4294967296 := Nat.le_trans (Nat.pow_le_pow_right (by decide) (by omega : k ≤ 4)) (by decide)
    rcases hst with ⟨hc0, hst⟩ | ⟨⟨m, hc6⟩, hst⟩
    · skip
      have d0 := (blk_facts hbx).1 0
      have d1 := (blk_facts hbx).1 1
      have d2 := (blk_facts hbx).1 2
      have d3 := (blk_facts hbx).1 3
      have hz := (Array.getElem?_eq_some_iff.1 hbx).1
      have f0 := hc0.cb
      have f1 := hc0.ca
      have f2 := hc0.ce
      have ff := hc0.frozen 2
      have fz := hc0.lt
      have HST := Lib.hid hst
      have HC0 := Lib.hid hc0
      clear hst hg hbx
      by_cases hend : n + k < l.length
      · obtain ⟨a, ha⟩ : ∃ a, l[n + k]? = some a := ⟨_, List.getElem?_eq_getElem hend⟩
        have HBg := Lib.hid (rbig_ok hc0 ha)
        have hdr := Lib.hid (drop_atI ha)
        have hab := a.toNat_lt
        clear hc0 ha
        go_wp2_with fail
        refine HBg.out.mono ?_
        rintro ex z ⟨rfl, hc1, hg1⟩
        have HC1 := Lib.hid hc1
        have HG1 := Lib.hid (grownBy_trans HGR.out hg1 (.inl rfl))
        have hbx1 := HBX.out.kept hg1 (by intro e; injection e with e; omega)
        have HBX1 := Lib.hid hbx1
        clear d0 d1 d2 d3 hz f0 f1 f2 ff fz hg1 HGR HBX HC0 HBg
        have d0 := (blk_facts hbx1).1 0
        have d1 := (blk_facts hbx1).1 1
        have d2 := (blk_facts hbx1).1 2
        have d3 := (blk_facts hbx1).1 3
        have hz := (Array.getElem?_eq_some_iff.1 hbx1).1
        have f0 := hc1.cb
        have f1 := hc1.ca
        have f2 := hc1.ce
        have ff := hc1.frozen 2
        have fz := hc1.lt
        clear hbx1 hc1
        have n1 : a.toNat * W ≤ 255 * 256 ^ k := Nat.mul_le_mul (by omega) hW
        have n2 : W * c.h ≤ 256 ^ k * 256 := Nat.mul_le_mul hW hh.2
        have HU1 := Lib.hid (show u + a.toNat * W ≤ 256 ^ (k + 1) by rw [Nat.pow_succ]; omega)
        have HW1 := Lib.hid (show W * c.h ≤ 256 ^ (k + 1) by rw [Nat.pow_succ]; exact n2)
        have m0 : ((a.toNat * W : Nat) : Int) = (a.toNat : Int) * (W : Int) := Int.natCast_mul _ _
        have m1 : ((W * c.h : Nat) : Int) = (W : Int) * (c.h : Int) := Int.natCast_mul _ _
        have m2 : 0 ≤ (a.toNat : Int) * (W : Int) ∧ (a.toNat : Int) * (W : Int) ≤ 1099511627776 := by omega
        have m3 : 0 ≤ (W : Int) * (c.h : Int) ∧ (W : Int) * (c.h : Int) ≤ 1099511627776 := by omega
        have M0 := Lib.hid m0
        have M1 := Lib.hid m1
        have hu4 : u ≤ 4294967296 := by omega
        by_cases hstop : a.toNat < 256 - c.h ∨ k + 1 = c.b
        · have hgu := Lib.hid (show getU c.h (c.b - 1) (l.drop n) = some (u + a.toNat * W, l.drop (n + k + 1)) by
            rw [← HST.out, hdr.out]
            by_cases h9 : a.toNat < 256 - c.h
            · rw [getU_stop _ h9]; rfl
            · rw [show c.b - 1 - k = 0 from by omega, getU_last]; rfl)
          have hbk : decide ((a.toNat : Int) < 256 - (c.h : Int)) = true ∨ (decide ((a.toNat : Int) < 256 - (c.h : Int)) = false ∧ (((k : Int) + 1) == (c.b : Int)) = true) := by
            by_cases h9 : a.toNat < 256 - c.h
            · exact .inl (decide_eq_true (by omega))
            · refine .inr ⟨decide_eq_false (by omega), ?_⟩
              simp
              omega
          have hri := hRI.out _ _ hgu.out
          have hcast := Lib.hid (show (u : Int) + (a.toNat : Int) * (W : Int) = ((u + a.toNat * W : Nat) : Int) by rw [Int.natCast_add, m0])
          have hub0 : 0 ≤ (u : Int) + (a.toNat : Int) * (W : Int) ∧ (u : Int) + (a.toNat : Int) * (W : Int) ≤ 1200000000000 := by omega
          by_cases hbig : 4294967296 ≤ u + a.toNat * W
          · have hfin := Lib.hid (hF.out _ _ hgu.out hbig)
            have p9 : decide ((c.reach : Int) ≤ (u : Int) + (a.toNat : Int) * (W : Int)) = true := decide_eq_true (by omega)
            clear hstop HST n1 n2 hu hW hp5 hri hbig m0 m1 hss
            rcases hbk with p2 | ⟨p2, p3⟩
            all_goals
              go_wp2_with fail
              refine (HRc.out _).mono ?_
              rintro ex z2 ⟨rfl, hb2⟩
              have hc2 := HC1.out.grow hb2
              have HS2 := Lib.hid (hc2.setErr 5)
              have HG2 := Lib.hid (grownBy_trans (grownBy_trans HG1.out (grownBy_below hb2 none) (.inr fun g e => by cases e)) (hc2.turned 2 (.int .i64 5)) (.inl rfl))
              clear d0 d1 d2 d3 hz f0 f1 f2 ff fz hb2
              have f0 := hc2.cb
              have f1 := hc2.ca
              have f2 := hc2.ce
              have ff := hc2.frozen 2
              have fz := hc2.lt
              clear hc2
              go_wp2_with fail
              go_ret
              exact ⟨0, _, 5, rfl, HS2.out, outc_error hfin.out (by decide), HG2.out⟩
          · have hfin := Lib.hid (hO.out _ _ hgu.out hbig)
            have p9 : decide ((c.reach : Int) ≤ (u : Int) + (a.toNat : Int) * (W : Int)) = false := decide_eq_false (by omega)
            have hnum : numI c.s ((u : Int) + (a.toNat : Int) * (W : Int)) = numI c.s ((u + a.toNat * W : Nat) : Int) := by rw [hcast.out]
            have hFX := Lib.hid (show c.get (l.drop n) = .ok (numI c.s ((u : Int) + (a.toNat : Int) * (W : Int)), l.drop (n + k + 1)) by rw [hnum]; exact hfin.out)
            clear hstop HST n1 n2 hu hW hp5 hri hbig m0 m1 hnum hfin hgu
            rcases hbk with p2 | ⟨p2, p3⟩
            all_goals
              go_wp2_with fail
              refine (HRc.out _).mono ?_
              rintro ex z2 ⟨rfl, hb2⟩
              have hc2 := HC1.out.grow hb2
              have HC2 := Lib.hid hc2
              have hbx2 := HBX1.out.grow hb2
              have HBX2 := Lib.hid hbx2
              have HG2 := Lib.hid (grownBy_trans HG1.out (grownBy_below hb2 none) (.inr fun g e => by cases e))
              clear d0 d1 d2 d3 hz f0 f1 f2 ff fz hb2 HC1 HBX1 HG1
              have f0 := hc2.cb
              have f1 := hc2.ca
              have f2 := hc2.ce
              have ff := hc2.frozen 2
              have fz := hc2.lt
              have d0 := (blk_facts hbx2).1 0
              have d1 := (blk_facts hbx2).1 1
              have d2 := (blk_facts hbx2).1 2
              have d3 := (blk_facts hbx2).1 3
              have hz := (Array.getElem?_eq_some_iff.1 hbx2).1
              clear hc2 hbx2 hcast M0
              generalize (u : Int) + (a.toNat : Int) * (W : Int) = X at *
              go_wp2_with fail
              refine (HPt.out _).mono ?_
              rintro ex z3 ⟨rfl, hb3⟩
              have hbx3 := HBX2.out.grow hb3
              have HC3 := Lib.hid (HC2.out.grow hb3)
              have HG3 := Lib.hid (grownBy_trans HG2.out (grownBy_below hb3 none) (.inr fun g e => by cases e))
              clear d0 d1 d2 d3 hz f0 f1 f2 ff fz hb3 HC2 HBX2 HG2
              have d0 := (blk_facts hbx3).1 0
              have d1 := (blk_facts hbx3).1 1
              have d2 := (blk_facts hbx3).1 2
              have d3 := (blk_facts hbx3).1 3
              have hz := (Array.getElem?_eq_some_iff.1 hbx3).1
              clear hbx3
              rcases hss with hs | hs | hs
              · have q1 : ((c.s : Int) == 0) = true := by rw [hs]; rfl
                have hn9 := Lib.hid (show numI c.s X = X by rw [hs]; rfl)
                clear hs
                go_wp2_with fail
                go_ret
                exact ⟨_, _, 0, rfl, HC3.out, by rw [hn9.out] at hFX; exact outc_ok hFX.out, HG3.out⟩
              · have q1 : ((c.s : Int) == 0) = false := by rw [hs]; rfl
                have hpw : ((2 : Int) ^ c.s - 1) = 1 := by rw [hs]; rfl
                by_cases h5 : X % 2 = 1
                · have hn9 := Lib.hid (show numI c.s X = -1 - X / 2 by rw [hs]; unfold numI; rw [if_neg (by decide), if_pos (by simpa using h5)]; rfl)
                  have q2 : (X % 2 == 1) = true := by simpa using h5
                  rw [hpw]
                  clear hs hpw h5
                  go_wp2_with fail
                  go_ret
                  exact ⟨_, _, 0, rfl, HC3.out, by rw [hn9.out] at hFX; exact outc_ok hFX.out, HG3.out⟩
                · have hn9 := Lib.hid (show numI c.s X = X - X / 2 by rw [hs]; unfold numI; rw [if_neg (by decide), if_neg (by simpa using h5)]; rfl)
                  have q2 : (X % 2 == 1) = false := by simpa using h5
                  rw [hpw]
                  clear hs hpw h5
                  go_wp2_with fail
                  go_ret
                  exact ⟨_, _, 0, rfl, HC3.out, by rw [hn9.out] at hFX; exact outc_ok hFX.out, HG3.out⟩
              · have q1 : ((c.s : Int) == 0) = false := by rw [hs]; rfl
                have hpw : ((2 : Int) ^ c.s - 1) = 3 := by rw [hs]; rfl
                by_cases h5 : X % 4 = 3
                · have hn9 := Lib.hid (show numI c.s X = -1 - X / 4 by rw [hs]; unfold numI; rw [if_neg (by decide), if_pos (by simpa using h5)]; rfl)
                  have q2 : (X % 4 == 3) = true := by simpa using h5
                  rw [hpw]
                  clear hs hpw h5
                  go_wp2_with fail
                  go_ret
                  exact ⟨_, _, 0, rfl, HC3.out, by rw [hn9.out] at hFX; exact outc_ok hFX.out, HG3.out⟩
                · have hn9 := Lib.hid (show numI c.s X = X - X / 4 by rw [hs]; unfold numI; rw [if_neg (by decide), if_neg (by simpa using h5)]; rfl)
                  have q2 : (X % 4 == 3) = false := by simpa using h5
                  rw [hpw]
                  clear hs hpw h5
                  go_wp2_with fail
                  go_ret
                  exact ⟨_, _, 0, rfl, HC3.out, by rw [hn9.out] at hFX; exact outc_ok hFX.out, HG3.out⟩
        · have p2 : decide ((a.toNat : Int) < 256 - (c.h : Int)) = false := decide_eq_false (by omega)
          have p3 : (((k : Int) + 1) == (c.b : Int)) = false := by simp; omega
          have hlast := Lib.hid (show onU (u + a.toNat * W) (W * c.h) (getU c.h (c.b - 1 - (k + 1)) (l.drop (n + k + 1))) = getU c.h (c.b - 1) (l.drop n) by
            rw [← HST.out, hdr.out, show c.b - 1 - k = (c.b - 1 - (k + 1)) + 1 from by omega, getU_on _ (by omega), onU_on])
          clear HST m0 m1 n1 n2 hu hW hp5
          go_wp2_with fail
          go_roundw
          case rel => exact ⟨k + 1, u + a.toNat * W, W * c.h, by go_num, by rw [Int.natCast_add, M0.out], by rw [M1.out], HU1.out, HW1.out, HG1.out, HBX1.out, by omega, .inl ⟨HC1.out, hlast.out⟩⟩
          case measure => simp [intOf]; omega
      · have hnl : n + k = l.length := by have := hc0.le; omega
        have HBg := Lib.hid (rbig_end hc0 hnl)
        have hgu := Lib.hid (show getU c.h (c.b - 1) (l.drop n) = none by
          rw [← HST.out, List.drop_of_length_le (by omega), getU_nil]; rfl)
        clear hc0
        go_wp2_with fail
        refine HBg.out.mono ?_
        rintro ex z ⟨rfl, hc1, hg1⟩
        have HC1 := Lib.hid hc1
        have HG1 := Lib.hid (grownBy_trans HGR.out hg1 (.inl rfl))
        have hbx1 := HBX.out.kept hg1 (by intro e; injection e with e; omega)
        have HBX1 := Lib.hid hbx1
        clear d0 d1 d2 d3 hz f0 f1 f2 ff fz hg1 HGR HBX HC0 HBg HST
        have d0 := (blk_facts hbx1).1 0
        have d1 := (blk_facts hbx1).1 1
        have d2 := (blk_facts hbx1).1 2
        have d3 := (blk_facts hbx1).1 3
        have hz := (Array.getElem?_eq_some_iff.1 hbx1).1
        have f0 := hc1.cb
        have f1 := hc1.ca
        have f2 := hc1.ce
        have ff := hc1.frozen 2
        have fz := hc1.lt
        clear hbx1 hc1
        have n2 : W * c.h ≤ 256 ^ k * 256 := Nat.mul_le_mul hW hh.2
        have HW1 := Lib.hid (show W * c.h ≤ 256 ^ (k + 1) by rw [Nat.pow_succ]; exact n2)
        have HU1 := Lib.hid (show u ≤ 256 ^ (k + 1) by rw [Nat.pow_succ]; omega)
        have m1 : ((W * c.h : Nat) : Int) = (W : Int) * (c.h : Int) := Int.natCast_mul _ _
        have m3 : 0 ≤ (W : Int) * (c.h : Int) ∧ (W : Int) * (c.h : Int) ≤ 1099511627776 := by omega
        have M1 := Lib.hid m1
        have hu4 : u ≤ 4294967296 := by omega
        clear n2 hu hW hp5 m1
        by_cases hstop : c.h < 256 ∨ k + 1 = c.b
        · have hbk : (decide ((0 : Int) < 256 - (c.h : Int)) = true ∧ decide (c.h < 256) = true ∧ decide ((c.h : Int) < 256) = true) ∨ (decide ((0 : Int) < 256 - (c.h : Int)) = false ∧ decide (c.h < 256) = false ∧ decide ((c.h : Int) < 256) = false ∧ (((k : Int) + 1) == (c.b : Int)) = true) := by
            by_cases h9 : c.h < 256
            · exact .inl ⟨decide_eq_true (by omega), decide_eq_true (by omega), decide_eq_true (by omega)⟩
            · refine .inr ⟨decide_eq_false (by omega), decide_eq_false (by omega), decide_eq_false (by omega), ?_⟩
              simp
              omega
          clear hstop
          rcases hbk with ⟨p2, p3, p4⟩ | ⟨p2, p3, p4, p5⟩
          all_goals
            go_wp2_with fail
            go_ret
            exact ⟨0, _, 6, rfl, HC1.out, outc_error (hN.out hgu.out) (by decide), HG1.out⟩
        · have p2 : decide ((0 : Int) < 256 - (c.h : Int)) = false := decide_eq_false (by omega)
          have p3 : decide (c.h < 256) = false := decide_eq_false (by omega)
          have p4 : decide ((c.h : Int) < 256) = false := decide_eq_false (by omega)
          have p5 : (((k : Int) + 1) == (c.b : Int)) = false := by simp; omega
          have hkk : k + 1 < c.b := by omega
          clear hstop
          go_wp2_with fail
          go_roundw
          case rel => exact ⟨k + 1, u, W * c.h, by go_num, rfl, by rw [M1.out], HU1.out, HW1.out, HG1.out, HBX1.out, hkk, .inr ⟨⟨_, HC1.out⟩, hgu.out⟩⟩
          case measure => simp [intOf]; omega
    · skip
      have d0 := (blk_facts hbx).1 0
      have d1 := (blk_facts hbx).1 1
      have d2 := (blk_facts hbx).1 2
      have d3 := (blk_facts hbx).1 3
      have hz := (Array.getElem?_eq_some_iff.1 hbx).1
      have f0 := hc6.cb
      have f1 := hc6.ca
      have f2 := hc6.ce
      have ff := hc6.frozen 2
      have fz := hc6.lt
      have HC1 := Lib.hid hc6
      have hgu := Lib.hid hst
      have hu4 : u ≤ 4294967296 := by omega
      clear hc6 hst hu hW hp5 hg hbx
      go_wp2_with fail
      go_ret
      exact ⟨0, _, 6, rfl, HC1.out, outc_error (hN.out hgu.out) (by decide), HGR.out⟩
end
end Go.Proofs.Ytbdkoagagcemcaa

/- The walk of layer 24's reference: a row that is read. -/
namespace Go.Proofs.Ytbdkoagagcemcaa
open Go.RowKit

section
variable {x : World} {b : Nat} {A : Option Addr} {cc : Nat} {l : List UInt8} {n : Nat}
set_option maxHeartbeats 8000000 in
set_option maxRecDepth 100000 in
theorem rreadrow_any (c : Cod) (hc : c.ok) (h : RCur x b A cc l n 0) (k : Nat) (hk : k ≤ 9223372036854775807) :
    Calls Try.prog 43 #[.pointer (some ⟨b, 0, none⟩), c.val, .int .i64 k] x fun ex y => ∃ (u : Value) (vs : List Int) (m : Nat) (e : Int), ex = .returned u ∧ IRow y x.heap.size u vs ∧ RCur y b A cc l m e ∧ Outc (c.read k 0 (l.drop n)) [] vs e (l.drop m) ∧ x.grownBy y (some b) := by
  have H0 := Lib.hid h
  have hbl := h.lt
  have hls := h.small
  have HC := Lib.hid hc
  have HRt := Lib.hid (fun w => rright_any c hc w)
  have HBd := Lib.hid (fun v hv w => rbound_any c hc v hv w)
  have HRd := Lib.hid (fun v hv w => rround_any c hc v hv w)
  have HGt := Lib.hid (fun x n (h : RCur x b A cc l n 0) => rget_any c hc h)
  unfold Cod.val at *
  have k1 := (Below.refl x.heap.size x).alloc (Nat.le_refl _) (.cells #[.int .i64 c.b, .int .i64 c.h, .int .i64 c.s, .int .i64 c.d] 38)
  have hcc0 := h.grow k1
  have f0 := hcc0.cb
  have f1 := hcc0.ca
  have f2 := hcc0.ce
  have ff := hcc0.frozen 2
  have fz := hcc0.lt
  have HK1 := Lib.hid k1
  clear h hc k1 hcc0
  have p0 : decide ((k : Int) < 0) = false := decide_eq_false (by omega)
  go_enter Try.func43, Try.ntmps43
  go_wp2_with fail
  refine (HRt.out _).mono ?_
  rintro ex y ⟨rfl, hb1⟩
  have hbx : CBox y x.heap.size c := (hb1.block x.heap.size (by simp)).trans (heap_alloc_new x _)
  have hx1 := Below.after' HK1.out hb1 (by simp)
  have HCU := Lib.hid (H0.out.grow hx1)
  have HG := Lib.hid (grownBy_below hx1 (some b))
  have HBX := Lib.hid hbx
  clear hb1 hbx hx1 f0 f1 f2 ff fz
  go_wp2_with fail
  go_loopw [7, 8, 9] (fun s t i wr => ∃ (vs : List Int) (last : Int) (m : Nat) (e : Int), i = .int .i64 (vs.length : Nat) ∧ t = .int .i64 last ∧ -8589934592 ≤ last ∧ last ≤ 8589934592 ∧ vs.length ≤ k ∧ vs.length ≤ 1000001 ∧ IRow wr x.heap.size s vs ∧ RCur wr b A cc l m e ∧ x.grownBy wr (some b) ∧ CBox wr x.heap.size c ∧ RdSt c l n k vs last m e) (fun s _ _ _ => k + 2 - sliceLen s)
  case atStart => exact ⟨[], 0, n, 0, rfl, rfl, by omega, by omega, by simp, by simp, IRow.nil _ _, HCU.out, HG.out, HBX.out, .inl ⟨rfl, by simp, by simp, by rw [pre_nil]; rfl⟩⟩
  case round =>
    clear HCU HG HBX
    obtain ⟨vs, last, m, e, rfl, rfl, hl1, hl2, hvk, hvl, hrow, hcur, hg, hbx, hst⟩ := hrel
    obtain ⟨Av, cv, rfl, _⟩ := hrow.reads
    have HR := Lib.hid hrow
    have HCU := Lib.hid hcur
    have HG := Lib.hid hg
    have HBX := Lib.hid hbx
    have HST := Lib.hid hst
    have hml := hcur.le
    have f0 := hcur.cb
    have f1 := hcur.ca
    have f2 := hcur.ce
    have ff := hcur.frozen 2
    have fz := hcur.lt
    clear hrow hcur hg
    by_cases hlt : vs.length < k
    · have q1 : decide ((vs.length : Int) < (k : Int)) = true := decide_eq_true (by omega)
      by_cases he : e = 0
      · subst he
        have hvl2 : vs.length ≤ 1000000 := by
          rcases HST.out with ⟨_, _, h2, _⟩ | ⟨h1, _⟩
          · omega
          · exact absurd rfl h1
        have d0 := (blk_facts hbx).1 0
        have d1 := (blk_facts hbx).1 1
        have d2 := (blk_facts hbx).1 2
        have d3 := (blk_facts hbx).1 3
        have hz := (Array.getElem?_eq_some_iff.1 hbx).1
        clear hbx hst
        go_wp2_with fail
        refine (HGt.out _ _ HCU.out).mono ?_
        rintro ex z ⟨v, m', e', rfl, hc1, ho, hg1⟩
        have hm' := hc1.le
        have HR1 := Lib.hid (irow_kept HR.out hg1 HCU.out.box (by decide))
        have hbx1 := HBX.out.kept hg1 (by intro e; injection e with e; omega)
        have HBX1 := Lib.hid hbx1
        have HG1 := Lib.hid (grownBy_trans HG.out hg1 (.inl rfl))
        have HC1 := Lib.hid hc1
        clear d0 d1 d2 d3 hz f0 f1 f2 ff fz hg1 HR HBX HG HCU
        have d0 := (blk_facts hbx1).1 0
        have d1 := (blk_facts hbx1).1 1
        have d2 := (blk_facts hbx1).1 2
        have d3 := (blk_facts hbx1).1 3
        have hz := (Array.getElem?_eq_some_iff.1 hbx1).1
        have f0 := hc1.cb
        have f1 := hc1.ca
        have f2 := hc1.ce
        have ff := hc1.frozen 2
        have fz := hc1.lt
        clear hbx1 hc1
        have hkey : I64 v ∧ -8589934592 ≤ v ∧ v ≤ 8589934592 ∧ ((e' = 0 ∧ boundI c.s v = true ∧ RdSt c l n k (vs ++ [c.sum last v]) (c.sum last v) m' 0) ∨ (e' = 0 ∧ boundI c.s v = false ∧ ∀ ws last', RdSt c l n k ws last' m' 5) ∨ (e' ≠ 0 ∧ ∀ ws last', RdSt c l n k ws last' m' e')) := by
          cases hgt : c.get (l.drop m) with
          | error e2 =>
            rw [hgt] at ho
            obtain ⟨rfl, h1, rfl⟩ := ho
            exact ⟨by unfold I64; omega, by omega, by omega, .inr (.inr ⟨h1, fun ws last' => HST.out.step_bad hlt hgt h1⟩)⟩
          | ok p =>
            obtain ⟨v2, r2⟩ := p
            rw [hgt] at ho
            obtain ⟨rfl, rfl, h3⟩ := ho
            dsimp only at *
            subst h3
            have hin := c.get_in HC.out hgt
            dsimp only at hin
            cases hbd : boundI c.s v with
            | true => exact ⟨by unfold I64; omega, hin.1, hin.2, .inl ⟨rfl, rfl, HST.out.step_ok hlt hml hm' hgt hbd⟩⟩
            | false => exact ⟨by unfold I64; omega, hin.1, hin.2, .inr (.inl ⟨rfl, rfl, fun ws last' => HST.out.step_out hlt hgt hbd⟩)⟩
        obtain ⟨hv, hv1, hv2, hcase⟩ := hkey
        have HV := Lib.hid hv
        clear ho HST hv
        rcases hcase with ⟨rfl, hbd, hst2⟩ | ⟨rfl, hbd, hst2⟩ | ⟨hne, hst2⟩
        · skip
          have HBO := Lib.hid hbd
          have HS2 := Lib.hid hst2
          clear hbd hst2
          go_wp2_with fail
          refine (HBd.out v HV.out _).mono ?_
          rintro ex z1 ⟨rfl, hb2⟩
          rw [HBO.out]
          have HR2 := Lib.hid (HR1.out.grow hb2)
          have hbx2 := HBX1.out.grow hb2
          have HBX2 := Lib.hid hbx2
          have HG2 := Lib.hid (grownBy_trans HG1.out (grownBy_below hb2 none) (.inr fun g e => by cases e))
          have hc2 := HC1.out.grow hb2
          have HC2 := Lib.hid hc2
          clear d0 d1 d2 d3 hz f0 f1 f2 ff fz hb2 HR1 HBX1 HG1 HC1
          have d0 := (blk_facts hbx2).1 0
          have d1 := (blk_facts hbx2).1 1
          have d2 := (blk_facts hbx2).1 2
          have d3 := (blk_facts hbx2).1 3
          have hz := (Array.getElem?_eq_some_iff.1 hbx2).1
          have f0 := hc2.cb
          have f1 := hc2.ca
          have f2 := hc2.ce
          have ff := hc2.frozen 2
          have fz := hc2.lt
          clear hbx2 hc2
          have HR3 := HR2
          have HBX3 := HBX2
          have HG3 := HG2
          have HC3 := HC2
          clear HR2 HBX2 HG2 HC2
          by_cases hd : c.d = 1
          · have q : ((c.d : Int) == 1) = true := by simp; omega
            have hsum := Lib.hid (show c.sum last v = roundI c.s (last + v) by unfold Cod.sum; rw [if_pos hd])
            have hri := roundI_in c.s (last + v)
            have HRd9 := Lib.hid (fun w => HRd.out (last + v) (by omega) w)
            clear hd
            go_wp2_with fail
            refine (HRd9.out _).mono ?_
            rintro ex z4 ⟨rfl, hb4⟩
            have HR4 := Lib.hid (HR3.out.grow hb4)
            have HBX4 := Lib.hid (HBX3.out.grow hb4)
            have HG4 := Lib.hid (grownBy_trans HG3.out (grownBy_below hb4 none) (.inr fun g e => by cases e))
            have HC4 := Lib.hid (HC3.out.grow hb4)
            clear d0 d1 d2 d3 hz hb4 HR3 HBX3 HG3 HC3 q HRd9
            generalize hw : roundI c.s (last + v) = w1 at *
            have hw9 := hsum
            clear hw hsum
            have k1 := Lib.hid (fun (o : Obj) => (Below.refl z4.heap.size z4).alloc (Nat.le_refl _) o)
            have hzs : x.heap.size ≤ z4.heap.size := HG4.out.size
            go_wp2_with (at_builtin; refine Pp.wpList_app1 rfl _ _ rfl x.heap.size _ vs rfl (HR4.out.grow (k1.out _)) z4.heap.size w1 _ _ rfl (heap_alloc_new _ _) (by omega) (Nat.le_trans hzs (k1.out _).size) ?_; intro v5 z5 hr5 hp5; have HR5 := Lib.hid hr5; have HBX5 := Lib.hid (ibox_hop (HR4.out.grow (k1.out _)) hp5 (HBX4.out.grow (k1.out _)) (by decide)); have HC5 := Lib.hid (H0.out.hop (HC4.out.grow (k1.out _)) hp5.1 (fun g e => (HR4.out.base_le e))); have HG5 := Lib.hid (grownBy_trans (grownBy_trans HG4.out (grownBy_below (k1.out _) none) (.inr fun g e => by cases e)) hp5.1 (.inr fun g e => HR4.out.base_le e)); clear hr5 hp5)
            obtain ⟨A5, c5, rfl, _⟩ := HR5.out.reads
            go_roundw
            case rel => exact ⟨vs ++ [w1], w1, m', 0, by simp, rfl, by omega, by omega, by simp; omega, by simp; omega, HR5.out, HC5.out, HG5.out, HBX5.out, hw9.out ▸ HS2.out⟩
            case measure => simp [sliceLen]; omega
          · have q : ((c.d : Int) == 1) = false := by simp; omega
            have hw9 := Lib.hid (show c.sum last v = v by unfold Cod.sum; rw [if_neg hd])
            have HR4 := HR3
            have HBX4 := HBX3
            have HG4 := HG3
            have HC4 := HC3
            clear hd HR3 HBX3 HG3 HC3
            have k1 := Lib.hid (fun (o : Obj) => (Below.refl z1.heap.size z1).alloc (Nat.le_refl _) o)
            have hzs : x.heap.size ≤ z1.heap.size := HG4.out.size
            go_wp2_with (at_builtin; refine Pp.wpList_app1 rfl _ _ rfl x.heap.size _ vs rfl (HR4.out.grow (k1.out _)) z1.heap.size v _ _ rfl (heap_alloc_new _ _) (by omega) (Nat.le_trans hzs (k1.out _).size) ?_; intro v5 z5 hr5 hp5; have HR5 := Lib.hid hr5; have HBX5 := Lib.hid (ibox_hop (HR4.out.grow (k1.out _)) hp5 (HBX4.out.grow (k1.out _)) (by decide)); have HC5 := Lib.hid (H0.out.hop (HC4.out.grow (k1.out _)) hp5.1 (fun g e => (HR4.out.base_le e))); have HG5 := Lib.hid (grownBy_trans (grownBy_trans HG4.out (grownBy_below (k1.out _) none) (.inr fun g e => by cases e)) hp5.1 (.inr fun g e => HR4.out.base_le e)); clear hr5 hp5)
            obtain ⟨A5, c5, rfl, _⟩ := HR5.out.reads
            go_roundw
            case rel => exact ⟨vs ++ [v], v, m', 0, by simp, rfl, by omega, by omega, by simp; omega, by simp; omega, HR5.out, HC5.out, HG5.out, HBX5.out, hw9.out ▸ HS2.out⟩
            case measure => simp [sliceLen]; omega
        · skip
          have HBO := Lib.hid hbd
          have HS2 := Lib.hid hst2
          clear hbd hst2
          go_wp2_with fail
          refine (HBd.out v HV.out _).mono ?_
          rintro ex z1 ⟨rfl, hb2⟩
          rw [HBO.out]
          have HR2 := Lib.hid (HR1.out.grow hb2)
          have hbx2 := HBX1.out.grow hb2
          have HBX2 := Lib.hid hbx2
          have HG2 := Lib.hid (grownBy_trans HG1.out (grownBy_below hb2 none) (.inr fun g e => by cases e))
          have hc2 := HC1.out.grow hb2
          have HC2 := Lib.hid hc2
          clear d0 d1 d2 d3 hz f0 f1 f2 ff fz hb2 HR1 HBX1 HG1 HC1
          have d0 := (blk_facts hbx2).1 0
          have d1 := (blk_facts hbx2).1 1
          have d2 := (blk_facts hbx2).1 2
          have d3 := (blk_facts hbx2).1 3
          have hz := (Array.getElem?_eq_some_iff.1 hbx2).1
          have f0 := hc2.cb
          have f1 := hc2.ca
          have f2 := hc2.ce
          have ff := hc2.frozen 2
          have fz := hc2.lt
          clear hbx2 hc2
          have hc3 := HC2.out.setErr 5
          have hg3 := HC2.out.turned 2 (.int .i64 5)
          have HR3 := Lib.hid (irow_kept HR2.out hg3 HC2.out.box (by decide))
          have hbx3 := HBX2.out.kept hg3 (by intro e; injection e with e; omega)
          have HBX3 := Lib.hid hbx3
          have HG3 := Lib.hid (grownBy_trans HG2.out hg3 (.inl rfl))
          have HC3 := Lib.hid hc3
          go_upto_region 11 with fail
          generalize hZ : z1.setCell ⟨b, 2, none⟩ (.int .i64 5) = z2 at *
          clear d0 d1 d2 d3 hz f0 f1 f2 ff fz hg3 hc3 HR2 HBX2 HG2 HC2 hZ
          have d0 := (blk_facts hbx3).1 0
          have d1 := (blk_facts hbx3).1 1
          have d2 := (blk_facts hbx3).1 2
          have d3 := (blk_facts hbx3).1 3
          have hz := (Array.getElem?_eq_some_iff.1 hbx3).1
          clear hbx3
          by_cases hd : c.d = 1
          · have q : ((c.d : Int) == 1) = true := by simp; omega
            have hsum := Lib.hid (show c.sum last v = roundI c.s (last + v) by unfold Cod.sum; rw [if_pos hd])
            have hri := roundI_in c.s (last + v)
            have HRd9 := Lib.hid (fun w => HRd.out (last + v) (by omega) w)
            clear hd
            go_wp2_with fail
            refine (HRd9.out _).mono ?_
            rintro ex z4 ⟨rfl, hb4⟩
            have HR4 := Lib.hid (HR3.out.grow hb4)
            have HBX4 := Lib.hid (HBX3.out.grow hb4)
            have HG4 := Lib.hid (grownBy_trans HG3.out (grownBy_below hb4 none) (.inr fun g e => by cases e))
            have HC4 := Lib.hid (HC3.out.grow hb4)
            clear d0 d1 d2 d3 hz hb4 HR3 HBX3 HG3 HC3 q HRd9
            generalize hw : roundI c.s (last + v) = w1 at *
            have hw9 := hsum
            clear hw hsum
            have k1 := Lib.hid (fun (o : Obj) => (Below.refl z4.heap.size z4).alloc (Nat.le_refl _) o)
            have hzs : x.heap.size ≤ z4.heap.size := HG4.out.size
            go_wp2_with (at_builtin; refine Pp.wpList_app1 rfl _ _ rfl x.heap.size _ vs rfl (HR4.out.grow (k1.out _)) z4.heap.size w1 _ _ rfl (heap_alloc_new _ _) (by omega) (Nat.le_trans hzs (k1.out _).size) ?_; intro v5 z5 hr5 hp5; have HR5 := Lib.hid hr5; have HBX5 := Lib.hid (ibox_hop (HR4.out.grow (k1.out _)) hp5 (HBX4.out.grow (k1.out _)) (by decide)); have HC5 := Lib.hid (H0.out.hop (HC4.out.grow (k1.out _)) hp5.1 (fun g e => (HR4.out.base_le e))); have HG5 := Lib.hid (grownBy_trans (grownBy_trans HG4.out (grownBy_below (k1.out _) none) (.inr fun g e => by cases e)) hp5.1 (.inr fun g e => HR4.out.base_le e)); clear hr5 hp5)
            obtain ⟨A5, c5, rfl, _⟩ := HR5.out.reads
            go_roundw
            case rel => exact ⟨vs ++ [w1], w1, m', 5, by simp, rfl, by omega, by omega, by simp; omega, by simp; omega, HR5.out, HC5.out, HG5.out, HBX5.out, HS2.out _ _⟩
            case measure => simp [sliceLen]; omega
          · have q : ((c.d : Int) == 1) = false := by simp; omega
            have hw9 := Lib.hid (show c.sum last v = v by unfold Cod.sum; rw [if_neg hd])
            have HR4 := HR3
            have HBX4 := HBX3
            have HG4 := HG3
            have HC4 := HC3
            clear hd HR3 HBX3 HG3 HC3
            have k1 := Lib.hid (fun (o : Obj) => (Below.refl z2.heap.size z2).alloc (Nat.le_refl _) o)
            have hzs : x.heap.size ≤ z2.heap.size := HG4.out.size
            go_wp2_with (at_builtin; refine Pp.wpList_app1 rfl _ _ rfl x.heap.size _ vs rfl (HR4.out.grow (k1.out _)) z2.heap.size v _ _ rfl (heap_alloc_new _ _) (by omega) (Nat.le_trans hzs (k1.out _).size) ?_; intro v5 z5 hr5 hp5; have HR5 := Lib.hid hr5; have HBX5 := Lib.hid (ibox_hop (HR4.out.grow (k1.out _)) hp5 (HBX4.out.grow (k1.out _)) (by decide)); have HC5 := Lib.hid (H0.out.hop (HC4.out.grow (k1.out _)) hp5.1 (fun g e => (HR4.out.base_le e))); have HG5 := Lib.hid (grownBy_trans (grownBy_trans HG4.out (grownBy_below (k1.out _) none) (.inr fun g e => by cases e)) hp5.1 (.inr fun g e => HR4.out.base_le e)); clear hr5 hp5)
            obtain ⟨A5, c5, rfl, _⟩ := HR5.out.reads
            go_roundw
            case rel => exact ⟨vs ++ [v], v, m', 5, by simp, rfl, by omega, by omega, by simp; omega, by simp; omega, HR5.out, HC5.out, HG5.out, HBX5.out, HS2.out _ _⟩
            case measure => simp [sliceLen]; omega
        · have q9 : (e' == 0) = false := by simpa using hne
          have HS2 := Lib.hid hst2
          have HR3 := HR1
          have HBX3 := HBX1
          have HG3 := HG1
          have HC3 := HC1
          clear hst2 hne HR1 HBX1 HG1 HC1
          by_cases hd : c.d = 1
          · have q : ((c.d : Int) == 1) = true := by simp; omega
            have hsum := Lib.hid (show c.sum last v = roundI c.s (last + v) by unfold Cod.sum; rw [if_pos hd])
            have hri := roundI_in c.s (last + v)
            have HRd9 := Lib.hid (fun w => HRd.out (last + v) (by omega) w)
            clear hd
            go_wp2_with fail
            refine (HRd9.out _).mono ?_
            rintro ex z4 ⟨rfl, hb4⟩
            have HR4 := Lib.hid (HR3.out.grow hb4)
            have HBX4 := Lib.hid (HBX3.out.grow hb4)
            have HG4 := Lib.hid (grownBy_trans HG3.out (grownBy_below hb4 none) (.inr fun g e => by cases e))
            have HC4 := Lib.hid (HC3.out.grow hb4)
            clear d0 d1 d2 d3 hz hb4 HR3 HBX3 HG3 HC3 q HRd9
            generalize hw : roundI c.s (last + v) = w1 at *
            have hw9 := hsum
            clear hw hsum
            have k1 := Lib.hid (fun (o : Obj) => (Below.refl z4.heap.size z4).alloc (Nat.le_refl _) o)
            have hzs : x.heap.size ≤ z4.heap.size := HG4.out.size
            go_wp2_with (at_builtin; refine Pp.wpList_app1 rfl _ _ rfl x.heap.size _ vs rfl (HR4.out.grow (k1.out _)) z4.heap.size w1 _ _ rfl (heap_alloc_new _ _) (by omega) (Nat.le_trans hzs (k1.out _).size) ?_; intro v5 z5 hr5 hp5; have HR5 := Lib.hid hr5; have HBX5 := Lib.hid (ibox_hop (HR4.out.grow (k1.out _)) hp5 (HBX4.out.grow (k1.out _)) (by decide)); have HC5 := Lib.hid (H0.out.hop (HC4.out.grow (k1.out _)) hp5.1 (fun g e => (HR4.out.base_le e))); have HG5 := Lib.hid (grownBy_trans (grownBy_trans HG4.out (grownBy_below (k1.out _) none) (.inr fun g e => by cases e)) hp5.1 (.inr fun g e => HR4.out.base_le e)); clear hr5 hp5)
            obtain ⟨A5, c5, rfl, _⟩ := HR5.out.reads
            go_roundw
            case rel => exact ⟨vs ++ [w1], w1, m', e', by simp, rfl, by omega, by omega, by simp; omega, by simp; omega, HR5.out, HC5.out, HG5.out, HBX5.out, HS2.out _ _⟩
            case measure => simp [sliceLen]; omega
          · have q : ((c.d : Int) == 1) = false := by simp; omega
            have hw9 := Lib.hid (show c.sum last v = v by unfold Cod.sum; rw [if_neg hd])
            have HR4 := HR3
            have HBX4 := HBX3
            have HG4 := HG3
            have HC4 := HC3
            clear hd HR3 HBX3 HG3 HC3
            have k1 := Lib.hid (fun (o : Obj) => (Below.refl z.heap.size z).alloc (Nat.le_refl _) o)
            have hzs : x.heap.size ≤ z.heap.size := HG4.out.size
            go_wp2_with (at_builtin; refine Pp.wpList_app1 rfl _ _ rfl x.heap.size _ vs rfl (HR4.out.grow (k1.out _)) z.heap.size v _ _ rfl (heap_alloc_new _ _) (by omega) (Nat.le_trans hzs (k1.out _).size) ?_; intro v5 z5 hr5 hp5; have HR5 := Lib.hid hr5; have HBX5 := Lib.hid (ibox_hop (HR4.out.grow (k1.out _)) hp5 (HBX4.out.grow (k1.out _)) (by decide)); have HC5 := Lib.hid (H0.out.hop (HC4.out.grow (k1.out _)) hp5.1 (fun g e => (HR4.out.base_le e))); have HG5 := Lib.hid (grownBy_trans (grownBy_trans HG4.out (grownBy_below (k1.out _) none) (.inr fun g e => by cases e)) hp5.1 (.inr fun g e => HR4.out.base_le e)); clear hr5 hp5)
            obtain ⟨A5, c5, rfl, _⟩ := HR5.out.reads
            go_roundw
            case rel => exact ⟨vs ++ [v], v, m', e', by simp, rfl, by omega, by omega, by simp; omega, by simp; omega, HR5.out, HC5.out, HG5.out, HBX5.out, HS2.out _ _⟩
            case measure => simp [sliceLen]; omega
      · have q0 : (e == 0) = false := by simpa using he
        have q2 : (e != 0) = true := by simpa using he
        have hfin := Lib.hid (HST.out.bad he)
        have HEN := Lib.hid he
        clear hbx hst he
        go_wp2_with fail
        go_ret
        exact ⟨_, [], m, e, rfl, IRow.nil _ _, HCU.out, outc_error hfin.out HEN.out, HG.out⟩
    · have q1 : decide ((vs.length : Int) < (k : Int)) = false := decide_eq_false (by omega)
      by_cases he : e = 0
      · subst he
        have hfin := Lib.hid (HST.out.done hlt)
        clear hbx hst
        go_wp2_with fail
        go_ret
        exact ⟨_, vs, m, 0, rfl, HR.out, HCU.out, outc_ok hfin.out, HG.out⟩
      · have q2 : (e != 0) = true := by simpa using he
        have hfin := Lib.hid (HST.out.bad he)
        have HEN := Lib.hid he
        clear hbx hst he
        go_wp2_with fail
        go_ret
        exact ⟨_, [], m, e, rfl, IRow.nil _ _, HCU.out, outc_error hfin.out HEN.out, HG.out⟩
end
end Go.Proofs.Ytbdkoagagcemcaa

/- The walk of layer 26's statement: a band that is read by the document. -/
namespace Go.Proofs.Ytbdkoagagcemcaa
open Go.RowKit Pp

/-- What the document's reading comes to, whether there is an error ahead or not. -/
def RNext (b : Nat) (A : Option Addr) (cc : Nat) (l : List UInt8) (_n : Nat) (e : Int) (o : Except Int (List Int × List UInt8)) (x : World) (ex : Ending) (y : World) : Prop :=
  ∃ (u : Value) (vs : List Int) (m : Nat) (e' : Int), ex = .returned u ∧ IRead y x.heap.size u vs ∧ RCur y b A cc l m e' ∧ (e = 0 → Outc o [] vs e' (l.drop m)) ∧ (e ≠ 0 → vs = [] ∧ e' = e) ∧ x.grownBy y (some b)
theorem plainR_kind {kind k : Nat} (h : ¬ kind < 15) (r : List UInt8) : plainR kind k r = .error 9 := by
  unfold plainR
  rw [List.getElem?_eq_none (show cods.length ≤ kind from (by have : cods.length = 15 := rfl; omega))]
section
variable {x : World} {b : Nat} {A : Option Addr} {cc : Nat} {l : List UInt8} {n : Nat} {e : Int}
set_option maxHeartbeats 8000000 in
set_option maxRecDepth 100000 in
theorem lread_one (h : RCur x b A cc l n e) (k : Nat) (hk : k ≤ 9223372036854775807) :
    Calls Try.prog 19 #[.pointer (some ⟨b, 0, none⟩), .int .i64 k, .bool false] x (RNext b A cc l n e (nextR k (l.drop n)) x) := by
  have H0 := Lib.hid h
  have hnl := h.le
  by_cases he : e = 0
  · subst he
    by_cases hend : n < l.length
    · obtain ⟨a, ha⟩ : ∃ a, l[n]? = some a := ⟨_, List.getElem?_eq_getElem hend⟩
      have HB := Lib.hid (rbig_ok h ha)
      have hab := a.toNat_lt
      have hdr := Lib.hid (drop_atI ha)
      clear h ha
      go_enter Try.func19, Try.ntmps19
      go_wp2_with fail
      refine HB.out.mono ?_
      rintro ex z ⟨rfl, hc1, hg1⟩
      have HC1 := Lib.hid hc1
      have HG1 := Lib.hid hg1
      have f0 := hc1.cb
      have f1 := hc1.ca
      have f2 := hc1.ce
      have ff := hc1.frozen 2
      have fz := hc1.lt
      clear hc1 hg1 HB
      have hfin := Lib.hid (show nextR k (l.drop n) = plainR a.toNat k (l.drop (n + 1)) by rw [hdr.out]; rfl)
      have qa : ((a.toNat : Int) == 255) = true ∨ ((a.toNat : Int) == 255) = false := by cases ((a.toNat : Int) == 255) <;> simp
      rcases qa with qa | qa
      · go_wp2_with fail
        refine (codings_any z).mono ?_
        rintro ex z1 ⟨rfl, hcd, hb2⟩
        have hc2 := HC1.out.grow hb2
        have HC2 := Lib.hid hc2
        have HG2 := Lib.hid (grownBy_trans HG1.out (grownBy_below hb2 none) (.inr fun g e => by cases e))
        have HCD := Lib.hid hcd
        have hzx := Lib.hid HG1.out.size
        have hm2 := hc2.le
        have hs2 := hc2.small
        clear f0 f1 f2 ff fz hb2 hcd HC1 HG1
        have f0 := hc2.cb
        have f1 := hc2.ca
        have f2 := hc2.ce
        have ff := hc2.frozen 2
        have fz := hc2.lt
        clear hc2
        by_cases hkd : a.toNat < 15
        · have q1 : decide ((15 : Int) ≤ (a.toNat : Int)) = false := decide_eq_false (by omega)
          have q2 : decide (15 ≤ a.toNat) = false := decide_eq_false (by omega)
          obtain ⟨c, hc⟩ : ∃ c, cods[a.toNat]? = some c := ⟨_, List.getElem?_eq_getElem (show a.toNat < cods.length from hkd)⟩
          have hok := Lib.hid (cods_ok c (List.mem_of_getElem? hc))
          have HCC := Lib.hid hc
          clear hc
          by_cases hlt : l.length - (n + 1) < k
          · have q3 : decide ((l.length : Int) - ((n : Int) + 1) < (k : Int)) = true := decide_eq_true (by omega)
            have hfin2 := Lib.hid (show nextR k (l.drop n) = .error 6 by
              rw [hfin.out]
              unfold plainR; rw [HCC.out]; dsimp only; rw [if_pos (by rw [List.length_drop]; exact hlt)])
            have HS := Lib.hid (fun y (k : Below z1.heap.size z1 y) => (HC2.out.grow k).setErr 6)
            have HT := Lib.hid (fun y (k : Below z1.heap.size z1 y) => grownBy_trans (grownBy_trans HG2.out (grownBy_below k none) (.inr fun g e => by cases e)) ((HC2.out.grow k).turned 2 (.int .i64 6)) (.inl rfl))
            clear hlt
            go_wp2_with fail
            go_region
            go_wp2_with fail
            go_ret
            exact ⟨_, [], _, 6, rfl, IRead.nil _ _, HS.out _ (Below.refl _ _).drew, fun _ => outc_error hfin2.out (by decide), fun h => absurd rfl h, HT.out _ (Below.refl _ _).drew⟩
          · have q3 : decide ((l.length : Int) - ((n : Int) + 1) < (k : Int)) = false := decide_eq_false (by omega)
            have hfin2 := Lib.hid (show nextR k (l.drop n) = c.read k 0 (l.drop (n + 1)) by
              rw [hfin.out]
              unfold plainR; rw [HCC.out]; dsimp only; rw [if_neg (by rw [List.length_drop]; exact hlt)])
            have HRR := Lib.hid (fun y (kk : Below z1.heap.size z1 y) => rreadrow_any c hok.out (HC2.out.grow kk) k hk)
            unfold Cod.val at HRR
            have HAT := Lib.hid (fun y (kk : Below z1.heap.size z1 y) => (HCD.out.grow kk).at_ HCC.out)
            obtain ⟨g0, g1, g2, g3⟩ := HCD.out.at_ HCC.out
            have gz := HCD.out.lt
            clear hlt
            go_wp2_with fail
            go_region
            go_wp2_with fail
            refine (HRR.out _ (Below.refl _ _).drew).mono ?_
            rintro ex z3 ⟨u, vs, m, e, rfl, hr4, hc4, ho4, hg4⟩
            have HC4 := Lib.hid hc4
            have HG4 := Lib.hid (grownBy_trans (grownBy_trans HG2.out (grownBy_below (Below.refl _ _).drew none) (.inr fun g e => by cases e)) hg4 (.inl rfl))
            have HR4 := Lib.hid ((IRead.of hr4).lower (Nat.le_trans HG2.out.size (Nat.le_refl _)))
            have HO4 := Lib.hid ho4
            clear hc4 hg4 hr4 ho4 HRR
            go_wp2_with fail
            go_ret
            exact ⟨u, vs, m, e, rfl, HR4.out, HC4.out, fun _ => by rw [hfin2.out]; exact HO4.out, fun h => absurd rfl h, HG4.out⟩
        · have q1 : decide ((15 : Int) ≤ (a.toNat : Int)) = true := decide_eq_true (by omega)
          have q2 : decide (15 ≤ a.toNat) = true := decide_eq_true (by omega)
          have hfin2 := Lib.hid (show nextR k (l.drop n) = .error 9 by rw [hfin.out]; exact plainR_kind hkd _)
          have HS := Lib.hid (HC2.out.setErr 9)
          have HT := Lib.hid (grownBy_trans HG2.out (HC2.out.turned 2 (.int .i64 9)) (.inl rfl))
          clear hkd
          go_wp2_with fail
          go_ret
          exact ⟨_, [], _, 9, rfl, IRead.nil _ _, HS.out, fun _ => outc_error hfin2.out (by decide), fun h => absurd rfl h, HT.out⟩
      · go_wp2_with fail
        refine (codings_any z).mono ?_
        rintro ex z1 ⟨rfl, hcd, hb2⟩
        have hc2 := HC1.out.grow hb2
        have HC2 := Lib.hid hc2
        have HG2 := Lib.hid (grownBy_trans HG1.out (grownBy_below hb2 none) (.inr fun g e => by cases e))
        have HCD := Lib.hid hcd
        have hzx := Lib.hid HG1.out.size
        have hm2 := hc2.le
        have hs2 := hc2.small
        clear f0 f1 f2 ff fz hb2 hcd HC1 HG1
        have f0 := hc2.cb
        have f1 := hc2.ca
        have f2 := hc2.ce
        have ff := hc2.frozen 2
        have fz := hc2.lt
        clear hc2
        by_cases hkd : a.toNat < 15
        · have q1 : decide ((15 : Int) ≤ (a.toNat : Int)) = false := decide_eq_false (by omega)
          have q2 : decide (15 ≤ a.toNat) = false := decide_eq_false (by omega)
          obtain ⟨c, hc⟩ : ∃ c, cods[a.toNat]? = some c := ⟨_, List.getElem?_eq_getElem (show a.toNat < cods.length from hkd)⟩
          have hok := Lib.hid (cods_ok c (List.mem_of_getElem? hc))
          have HCC := Lib.hid hc
          clear hc
          by_cases hlt : l.length - (n + 1) < k
          · have q3 : decide ((l.length : Int) - ((n : Int) + 1) < (k : Int)) = true := decide_eq_true (by omega)
            have hfin2 := Lib.hid (show nextR k (l.drop n) = .error 6 by
              rw [hfin.out]
              unfold plainR; rw [HCC.out]; dsimp only; rw [if_pos (by rw [List.length_drop]; exact hlt)])
            have HS := Lib.hid (fun y (k : Below z1.heap.size z1 y) => (HC2.out.grow k).setErr 6)
            have HT := Lib.hid (fun y (k : Below z1.heap.size z1 y) => grownBy_trans (grownBy_trans HG2.out (grownBy_below k none) (.inr fun g e => by cases e)) ((HC2.out.grow k).turned 2 (.int .i64 6)) (.inl rfl))
            clear hlt
            go_wp2_with fail
            go_region
            go_wp2_with fail
            go_ret
            exact ⟨_, [], _, 6, rfl, IRead.nil _ _, HS.out _ (Below.refl _ _).drew, fun _ => outc_error hfin2.out (by decide), fun h => absurd rfl h, HT.out _ (Below.refl _ _).drew⟩
          · have q3 : decide ((l.length : Int) - ((n : Int) + 1) < (k : Int)) = false := decide_eq_false (by omega)
            have hfin2 := Lib.hid (show nextR k (l.drop n) = c.read k 0 (l.drop (n + 1)) by
              rw [hfin.out]
              unfold plainR; rw [HCC.out]; dsimp only; rw [if_neg (by rw [List.length_drop]; exact hlt)])
            have HRR := Lib.hid (fun y (kk : Below z1.heap.size z1 y) => rreadrow_any c hok.out (HC2.out.grow kk) k hk)
            unfold Cod.val at HRR
            have HAT := Lib.hid (fun y (kk : Below z1.heap.size z1 y) => (HCD.out.grow kk).at_ HCC.out)
            obtain ⟨g0, g1, g2, g3⟩ := HCD.out.at_ HCC.out
            have gz := HCD.out.lt
            clear hlt
            go_wp2_with fail
            go_region
            go_wp2_with fail
            refine (HRR.out _ (Below.refl _ _).drew).mono ?_
            rintro ex z3 ⟨u, vs, m, e, rfl, hr4, hc4, ho4, hg4⟩
            have HC4 := Lib.hid hc4
            have HG4 := Lib.hid (grownBy_trans (grownBy_trans HG2.out (grownBy_below (Below.refl _ _).drew none) (.inr fun g e => by cases e)) hg4 (.inl rfl))
            have HR4 := Lib.hid ((IRead.of hr4).lower (Nat.le_trans HG2.out.size (Nat.le_refl _)))
            have HO4 := Lib.hid ho4
            clear hc4 hg4 hr4 ho4 HRR
            go_wp2_with fail
            go_ret
            exact ⟨u, vs, m, e, rfl, HR4.out, HC4.out, fun _ => by rw [hfin2.out]; exact HO4.out, fun h => absurd rfl h, HG4.out⟩
        · have q1 : decide ((15 : Int) ≤ (a.toNat : Int)) = true := decide_eq_true (by omega)
          have q2 : decide (15 ≤ a.toNat) = true := decide_eq_true (by omega)
          have hfin2 := Lib.hid (show nextR k (l.drop n) = .error 9 by rw [hfin.out]; exact plainR_kind hkd _)
          have HS := Lib.hid (HC2.out.setErr 9)
          have HT := Lib.hid (grownBy_trans HG2.out (HC2.out.turned 2 (.int .i64 9)) (.inl rfl))
          clear hkd
          go_wp2_with fail
          go_ret
          exact ⟨_, [], _, 9, rfl, IRead.nil _ _, HS.out, fun _ => outc_error hfin2.out (by decide), fun h => absurd rfl h, HT.out⟩
    · have HB := Lib.hid (rbig_end h (by omega))
      have hfin := Lib.hid (show nextR k (l.drop n) = .error 6 by rw [List.drop_of_length_le (by omega)]; rfl)
      clear h
      go_enter Try.func19, Try.ntmps19
      go_wp2_with fail
      refine HB.out.mono ?_
      rintro ex z ⟨rfl, hc1, hg1⟩
      have HC1 := Lib.hid hc1
      have HG1 := Lib.hid hg1
      clear hc1 hg1 HB
      go_wp2_with fail
      refine (codings_any z).mono ?_
      rintro ex z1 ⟨rfl, _, hb2⟩
      have hc2 := HC1.out.grow hb2
      have HC2 := Lib.hid hc2
      have HG2 := Lib.hid (grownBy_trans HG1.out (grownBy_below hb2 none) (.inr fun g e => by cases e))
      have f0 := hc2.cb
      have f1 := hc2.ca
      have f2 := hc2.ce
      have ff := hc2.frozen 2
      have fz := hc2.lt
      clear hc2 hb2
      go_wp2_with fail
      go_ret
      exact ⟨_, [], _, 6, rfl, IRead.nil _ _, HC2.out, fun _ => outc_error hfin.out (by decide), fun h => absurd rfl h, HG2.out⟩
  · have HB := Lib.hid (rbig_bad h he)
    have q : (e != 0) = true := by simpa using he
    have HEN := Lib.hid he
    clear h he
    go_enter Try.func19, Try.ntmps19
    go_wp2_with fail
    refine HB.out.mono ?_
    rintro ex z ⟨rfl, ez⟩
    have ez := ez.symm
    subst ez
    go_wp2_with fail
    refine (codings_any x).mono ?_
    rintro ex z1 ⟨rfl, _, hb2⟩
    have hc2 := H0.out.grow hb2
    have HC2 := Lib.hid hc2
    have HG2 := Lib.hid (grownBy_below hb2 (some b))
    have f0 := hc2.cb
    have f1 := hc2.ca
    have f2 := hc2.ce
    have ff := hc2.frozen 2
    have fz := hc2.lt
    clear hc2 hb2
    go_wp2_with fail
    go_ret
    exact ⟨_, [], n, e, rfl, IRead.nil _ _, HC2.out, fun h => absurd h HEN.out, fun _ => ⟨rfl, rfl⟩, HG2.out⟩
end
end Go.Proofs.Ytbdkoagagcemcaa
