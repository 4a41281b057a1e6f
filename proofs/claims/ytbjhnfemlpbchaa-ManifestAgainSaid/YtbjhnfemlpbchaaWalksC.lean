/- The walk of layer 14: the reference's name (printed by mk_rname.py). -/
import Derived.Test.YtbjhnfemlpbchaaWalksB
namespace Go.Proofs.Ytbjhnfemlpbchaa
open Go.RowKit

theorem signs_no {l : List UInt8} {i : Nat} (h : Ma.signs (i == 0) (l.drop i) = false) (h0 : Ma.signs true l = Ma.signs (i == 0) (l.drop i)) : Ma.name l = false := by
  unfold Ma.name
  rw [h0, h]; rfl

set_option maxHeartbeats 8000000 in
set_option maxRecDepth 100000 in
theorem rname_any (l : List UInt8) (w : World) (hl : l.length ≤ 1000000000) :
    Calls Try.prog 18 #[.string (bs l)] w fun e w' => e = .returned (.bool (Ma.name l)) ∧ w = w' := by
  have hzl := bs_size l
  go_enter Try.func18, Try.ntmps18
  go_wp2_with fail
  go_loop [3] (fun u => ∃ i : Nat, i ≤ l.length ∧ u = .int .i64 i ∧ Ma.signs true l = Ma.signs (i == 0) (l.drop i)) (fun u => l.length - (intOf u).toNat)
  case atStart => exact ⟨0, Nat.zero_le _, rfl, rfl⟩
  case round =>
    obtain ⟨i, hil, rfl, hv⟩ := hrel
    by_cases h1 : i < l.length
    · obtain ⟨c, hcl⟩ : ∃ c, l[i]? = some c := ⟨_, List.getElem?_eq_getElem h1⟩
      have ic := fun x => bs_index l i c hcl .i64 i rfl x
      have hst := signs_at hcl
      have HV := Lib.hid hv
      have e1 : ((i + 1 : Nat) == 0) = false := by simp
      have hok : Ma.signOk (i == 0) c = true → Ma.signs true l = Ma.signs ((i + 1 : Nat) == 0) (l.drop (i + 1)) := fun h => by rw [HV.out, hst, h, e1, Bool.true_and]
      have hno : Ma.signOk (i == 0) c = false → Ma.name l = false := fun h => signs_no (by rw [hst, h, Bool.false_and]) HV.out
      have HOK := Lib.hid hok
      have HNO := Lib.hid hno
      clear hcl hv hst hok hno HV
      generalize hn : c.toNat = n at ic
      have HN := Lib.hid hn
      have hn8 : n < 256 := by rw [← hn]; exact c.toNat_lt
      clear hn
      have hcls : (97 ≤ n ∧ n ≤ 122) ∨ (65 ≤ n ∧ n ≤ 90) ∨ (48 ≤ n ∧ n ≤ 57) ∨ 122 < n ∨ (90 < n ∧ n < 97) ∨ (57 < n ∧ n < 65) ∨ n < 48 := by omega
      rcases hcls with h | h | h | h | h | h | h
      · have q1 : decide (97 ≤ n) = true := decide_eq_true (by omega)
        have r1 : decide (97 ≤ (n : Int)) = true := decide_eq_true (by omega)
        have q2 : decide (n ≤ 122) = true := decide_eq_true (by omega)
        have r2 : decide ((n : Int) ≤ 122) = true := decide_eq_true (by omega)
        have hs := Lib.hid (HOK.out (by unfold Ma.signOk Ma.letter; rw [HN.out]; simp; omega))
        clear h
        go_wp2
        go_round
        case rel => exact ⟨i + 1, by omega, by go_num, hs.out⟩
        case measure => simp [intOf]; omega
      · have q1 : decide (97 ≤ n) = false := decide_eq_false (by omega)
        have r1 : decide (97 ≤ (n : Int)) = false := decide_eq_false (by omega)
        have q3 : decide (65 ≤ n) = true := decide_eq_true (by omega)
        have r3 : decide (65 ≤ (n : Int)) = true := decide_eq_true (by omega)
        have q4 : decide (n ≤ 90) = true := decide_eq_true (by omega)
        have r4 : decide ((n : Int) ≤ 90) = true := decide_eq_true (by omega)
        have hs := Lib.hid (HOK.out (by unfold Ma.signOk Ma.letter; rw [HN.out]; simp; omega))
        clear h
        go_wp2
        go_round
        case rel => exact ⟨i + 1, by omega, by go_num, hs.out⟩
        case measure => simp [intOf]; omega
      · have q1 : decide (97 ≤ n) = false := decide_eq_false (by omega)
        have r1 : decide (97 ≤ (n : Int)) = false := decide_eq_false (by omega)
        have q3 : decide (65 ≤ n) = false := decide_eq_false (by omega)
        have r3 : decide (65 ≤ (n : Int)) = false := decide_eq_false (by omega)
        have q5 : decide (48 ≤ n) = true := decide_eq_true (by omega)
        have r5 : decide (48 ≤ (n : Int)) = true := decide_eq_true (by omega)
        have q6 : decide (n ≤ 57) = true := decide_eq_true (by omega)
        have r6 : decide ((n : Int) ≤ 57) = true := decide_eq_true (by omega)
        have hs := Lib.hid (HOK.out (by unfold Ma.signOk Ma.letter; rw [HN.out]; simp; omega))
        clear h
        go_wp2
        go_round
        case rel => exact ⟨i + 1, by omega, by go_num, hs.out⟩
        case measure => simp [intOf]; omega
      · have q1 : decide (97 ≤ n) = true := decide_eq_true (by omega)
        have r1 : decide (97 ≤ (n : Int)) = true := decide_eq_true (by omega)
        have q2 : decide (n ≤ 122) = false := decide_eq_false (by omega)
        have r2 : decide ((n : Int) ≤ 122) = false := decide_eq_false (by omega)
        have q3 : decide (65 ≤ n) = true := decide_eq_true (by omega)
        have r3 : decide (65 ≤ (n : Int)) = true := decide_eq_true (by omega)
        have q4 : decide (n ≤ 90) = false := decide_eq_false (by omega)
        have r4 : decide ((n : Int) ≤ 90) = false := decide_eq_false (by omega)
        have q5 : decide (48 ≤ n) = true := decide_eq_true (by omega)
        have r5 : decide (48 ≤ (n : Int)) = true := decide_eq_true (by omega)
        have q6 : decide (n ≤ 57) = false := decide_eq_false (by omega)
        have r6 : decide ((n : Int) ≤ 57) = false := decide_eq_false (by omega)
        by_cases hi0 : i = 0
        · have qi : ((i : Int) == 0) = true := by simp [hi0]
          have hs := Lib.hid (HNO.out (by unfold Ma.signOk Ma.letter; rw [HN.out]; simp [hi0]; omega))
          clear h hi0
          go_wp2
          go_ret
          exact ⟨ret_bool hs.out.symm, rfl⟩
        have qi : ((i : Int) == 0) = false := by simp [hi0]
        by_cases h95 : n = 95
        · have qa : ((n : Int) != 95) = false := by simp [h95]
          have hs := Lib.hid (HOK.out (by unfold Ma.signOk Ma.letter; rw [HN.out]; simp [hi0, h95]))
          clear h hi0
          go_wp2
          go_round
          case rel => exact ⟨i + 1, by omega, by go_num, hs.out⟩
          case measure => simp [intOf]; omega
        have qa : ((n : Int) != 95) = true := by simp; omega
        by_cases h45 : n = 45
        · have qb : ((n : Int) != 45) = false := by simp [h45]
          have hs := Lib.hid (HOK.out (by unfold Ma.signOk Ma.letter; rw [HN.out]; simp [hi0, h45]))
          clear h hi0
          go_wp2
          go_round
          case rel => exact ⟨i + 1, by omega, by go_num, hs.out⟩
          case measure => simp [intOf]; omega
        have qb : ((n : Int) != 45) = true := by simp; omega
        have hs := Lib.hid (HNO.out (by unfold Ma.signOk Ma.letter; rw [HN.out]; simp [hi0, h95, h45]; omega))
        clear h hi0
        go_wp2
        go_ret
        exact ⟨ret_bool hs.out.symm, rfl⟩
      · have q1 : decide (97 ≤ n) = false := decide_eq_false (by omega)
        have r1 : decide (97 ≤ (n : Int)) = false := decide_eq_false (by omega)
        have q3 : decide (65 ≤ n) = true := decide_eq_true (by omega)
        have r3 : decide (65 ≤ (n : Int)) = true := decide_eq_true (by omega)
        have q4 : decide (n ≤ 90) = false := decide_eq_false (by omega)
        have r4 : decide ((n : Int) ≤ 90) = false := decide_eq_false (by omega)
        have q5 : decide (48 ≤ n) = true := decide_eq_true (by omega)
        have r5 : decide (48 ≤ (n : Int)) = true := decide_eq_true (by omega)
        have q6 : decide (n ≤ 57) = false := decide_eq_false (by omega)
        have r6 : decide ((n : Int) ≤ 57) = false := decide_eq_false (by omega)
        by_cases hi0 : i = 0
        · have qi : ((i : Int) == 0) = true := by simp [hi0]
          have hs := Lib.hid (HNO.out (by unfold Ma.signOk Ma.letter; rw [HN.out]; simp [hi0]; omega))
          clear h hi0
          go_wp2
          go_ret
          exact ⟨ret_bool hs.out.symm, rfl⟩
        have qi : ((i : Int) == 0) = false := by simp [hi0]
        by_cases h95 : n = 95
        · have qa : ((n : Int) != 95) = false := by simp [h95]
          have hs := Lib.hid (HOK.out (by unfold Ma.signOk Ma.letter; rw [HN.out]; simp [hi0, h95]))
          clear h hi0
          go_wp2
          go_round
          case rel => exact ⟨i + 1, by omega, by go_num, hs.out⟩
          case measure => simp [intOf]; omega
        have qa : ((n : Int) != 95) = true := by simp; omega
        by_cases h45 : n = 45
        · have qb : ((n : Int) != 45) = false := by simp [h45]
          have hs := Lib.hid (HOK.out (by unfold Ma.signOk Ma.letter; rw [HN.out]; simp [hi0, h45]))
          clear h hi0
          go_wp2
          go_round
          case rel => exact ⟨i + 1, by omega, by go_num, hs.out⟩
          case measure => simp [intOf]; omega
        have qb : ((n : Int) != 45) = true := by simp; omega
        have hs := Lib.hid (HNO.out (by unfold Ma.signOk Ma.letter; rw [HN.out]; simp [hi0, h95, h45]; omega))
        clear h hi0
        go_wp2
        go_ret
        exact ⟨ret_bool hs.out.symm, rfl⟩
      · have q1 : decide (97 ≤ n) = false := decide_eq_false (by omega)
        have r1 : decide (97 ≤ (n : Int)) = false := decide_eq_false (by omega)
        have q3 : decide (65 ≤ n) = false := decide_eq_false (by omega)
        have r3 : decide (65 ≤ (n : Int)) = false := decide_eq_false (by omega)
        have q5 : decide (48 ≤ n) = true := decide_eq_true (by omega)
        have r5 : decide (48 ≤ (n : Int)) = true := decide_eq_true (by omega)
        have q6 : decide (n ≤ 57) = false := decide_eq_false (by omega)
        have r6 : decide ((n : Int) ≤ 57) = false := decide_eq_false (by omega)
        by_cases hi0 : i = 0
        · have qi : ((i : Int) == 0) = true := by simp [hi0]
          have hs := Lib.hid (HNO.out (by unfold Ma.signOk Ma.letter; rw [HN.out]; simp [hi0]; omega))
          clear h hi0
          go_wp2
          go_ret
          exact ⟨ret_bool hs.out.symm, rfl⟩
        have qi : ((i : Int) == 0) = false := by simp [hi0]
        by_cases h95 : n = 95
        · have qa : ((n : Int) != 95) = false := by simp [h95]
          have hs := Lib.hid (HOK.out (by unfold Ma.signOk Ma.letter; rw [HN.out]; simp [hi0, h95]))
          clear h hi0
          go_wp2
          go_round
          case rel => exact ⟨i + 1, by omega, by go_num, hs.out⟩
          case measure => simp [intOf]; omega
        have qa : ((n : Int) != 95) = true := by simp; omega
        by_cases h45 : n = 45
        · have qb : ((n : Int) != 45) = false := by simp [h45]
          have hs := Lib.hid (HOK.out (by unfold Ma.signOk Ma.letter; rw [HN.out]; simp [hi0, h45]))
          clear h hi0
          go_wp2
          go_round
          case rel => exact ⟨i + 1, by omega, by go_num, hs.out⟩
          case measure => simp [intOf]; omega
        have qb : ((n : Int) != 45) = true := by simp; omega
        have hs := Lib.hid (HNO.out (by unfold Ma.signOk Ma.letter; rw [HN.out]; simp [hi0, h95, h45]; omega))
        clear h hi0
        go_wp2
        go_ret
        exact ⟨ret_bool hs.out.symm, rfl⟩
      · have q1 : decide (97 ≤ n) = false := decide_eq_false (by omega)
        have r1 : decide (97 ≤ (n : Int)) = false := decide_eq_false (by omega)
        have q3 : decide (65 ≤ n) = false := decide_eq_false (by omega)
        have r3 : decide (65 ≤ (n : Int)) = false := decide_eq_false (by omega)
        have q5 : decide (48 ≤ n) = false := decide_eq_false (by omega)
        have r5 : decide (48 ≤ (n : Int)) = false := decide_eq_false (by omega)
        by_cases hi0 : i = 0
        · have qi : ((i : Int) == 0) = true := by simp [hi0]
          have hs := Lib.hid (HNO.out (by unfold Ma.signOk Ma.letter; rw [HN.out]; simp [hi0]; omega))
          clear h hi0
          go_wp2
          go_ret
          exact ⟨ret_bool hs.out.symm, rfl⟩
        have qi : ((i : Int) == 0) = false := by simp [hi0]
        by_cases h95 : n = 95
        · have qa : ((n : Int) != 95) = false := by simp [h95]
          have hs := Lib.hid (HOK.out (by unfold Ma.signOk Ma.letter; rw [HN.out]; simp [hi0, h95]))
          clear h hi0
          go_wp2
          go_round
          case rel => exact ⟨i + 1, by omega, by go_num, hs.out⟩
          case measure => simp [intOf]; omega
        have qa : ((n : Int) != 95) = true := by simp; omega
        by_cases h45 : n = 45
        · have qb : ((n : Int) != 45) = false := by simp [h45]
          have hs := Lib.hid (HOK.out (by unfold Ma.signOk Ma.letter; rw [HN.out]; simp [hi0, h45]))
          clear h hi0
          go_wp2
          go_round
          case rel => exact ⟨i + 1, by omega, by go_num, hs.out⟩
          case measure => simp [intOf]; omega
        have qb : ((n : Int) != 45) = true := by simp; omega
        have hs := Lib.hid (HNO.out (by unfold Ma.signOk Ma.letter; rw [HN.out]; simp [hi0, h95, h45]; omega))
        clear h hi0
        go_wp2
        go_ret
        exact ⟨ret_bool hs.out.symm, rfl⟩
    · have hii : i = l.length := by omega
      rw [hii, List.drop_length] at hv
      have hfin := Lib.hid (show Ma.name l = (decide (1 ≤ l.length) && decide (l.length ≤ 70)) by unfold Ma.name; rw [hv]; rfl)
      clear hv
      by_cases ha : 1 ≤ l.length
      · have q1 : decide (1 ≤ l.length) = true := decide_eq_true ha
        have r1 : decide (1 ≤ (l.length : Int)) = true := decide_eq_true (by omega)
        have hf2 := Lib.hid (show Ma.name l = decide ((l.length : Int) ≤ 70) from hfin.out.trans (by rw [q1, Bool.true_and]; exact decide_eq_decide.2 (by omega)))
        clear ha
        go_wp2
        go_ret
        exact ⟨ret_bool hf2.out.symm, rfl⟩
      · have q1 : decide (1 ≤ l.length) = false := decide_eq_false ha
        have r1 : decide (1 ≤ (l.length : Int)) = false := decide_eq_false (by omega)
        have hf2 := Lib.hid (hfin.out.trans (by rw [q1, Bool.false_and]))
        clear ha
        go_wp2
        go_ret
        exact ⟨ret_bool hf2.out.symm, rfl⟩
end Go.Proofs.Ytbjhnfemlpbchaa
