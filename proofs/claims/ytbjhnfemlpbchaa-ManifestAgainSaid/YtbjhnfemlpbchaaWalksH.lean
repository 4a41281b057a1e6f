/- The walk of layer 14: names. -/
import Derived.Test.YtbjhnfemlpbchaaWalksC
namespace Go.Proofs.Ytbjhnfemlpbchaa
open Go.RowKit

set_option maxHeartbeats 8000000 in
set_option maxRecDepth 100000 in
theorem name_any (l : List UInt8) (w : World) (hl : l.length ≤ 1000000000) :
    Calls Try.prog 17 #[.string (bs l)] w fun e w' => e = .returned (.bool (Ma.name l)) ∧ Below w.heap.size w w' := by
  have hzl := bs_size l
  have HP := Lib.hid (fun r w => plain_any r w)
  go_enter Try.func17, Try.ntmps17
  go_wp2_with fail
  go_loopg [3, 4] l.length (fun g _ _ wx => ∃ i : Nat, i + g = l.length ∧ wx = w.iter (bs l) i ∧ Ma.signs true l = Ma.signs (i == 0) (l.drop i))
  case atStart => exact ⟨0, by omega, rfl, rfl⟩
  case round =>
    obtain ⟨i, hig, rfl, hv⟩ := hrel
    cases gk with
    | zero =>
      obtain rfl : i = l.length := by omega
      rw [List.drop_length] at hv
      have hnm : Ma.name l = (decide (1 ≤ l.length) && decide (l.length ≤ 70)) := by unfold Ma.name; rw [hv]; rfl
      have HNM := Lib.hid hnm
      have hnx := run_next_end (P := Try.prog) w (bs l) l.length
      clear hv hnm
      by_cases h0 : l.length = 0
      · have q : (bs l).toList.isEmpty = true := by rw [bs_list]; cases l with | nil => rfl | cons _ _ => simp at h0
        have hb := Lib.hid (show Ma.name l = false by rw [HNM.out]; simp [h0])
        clear h0
        go_wp2
        go_ret
        exact ⟨ret_bool hb.out.symm, (Below.refl _ _).alloc (Nat.le_refl _) _⟩
      · have q : (bs l).toList.isEmpty = false := by rw [bs_list]; cases l with | nil => simp at h0 | cons _ _ => rfl
        by_cases h70 : l.length ≤ 70
        · have q2 : decide ((l.length : Int) ≤ 70) = true := decide_eq_true (by omega)
          have q3 : decide (l.length ≤ 70) = true := decide_eq_true (by omega)
          have hb := Lib.hid (show Ma.name l = true by rw [HNM.out, q3, decide_eq_true (by omega)]; rfl)
          clear h0
          go_wp2
          go_ret
          exact ⟨ret_bool hb.out.symm, (Below.refl _ _).alloc (Nat.le_refl _) _⟩
        · have q2 : decide ((l.length : Int) ≤ 70) = false := decide_eq_false (by omega)
          have q3 : decide (l.length ≤ 70) = false := decide_eq_false (by omega)
          have hb := Lib.hid (show Ma.name l = false by rw [HNM.out, q3, Bool.and_false])
          clear h0
          go_wp2
          go_ret
          exact ⟨ret_bool hb.out.symm, (Below.refl _ _).alloc (Nat.le_refl _) _⟩
    | succ g =>
      have hi : i < (bs l).size := by omega
      obtain ⟨c, hcl⟩ : ∃ c, l[i]? = some c := ⟨_, List.getElem?_eq_getElem (by omega)⟩
      have hst := signs_at hcl
      have HV := Lib.hid hv
      have e1 : ((i + 1 : Nat) == 0) = false := by simp
      have hok : Ma.signOk (i == 0) c = true → Ma.signs true l = Ma.signs ((i + 1 : Nat) == 0) (l.drop (i + 1)) := fun h => by rw [HV.out, hst, h, e1, Bool.true_and]
      have hno : Ma.signOk (i == 0) c = false → Ma.name l = false := fun h => signs_no (by rw [hst, h, Bool.false_and]) HV.out
      have HOK := Lib.hid hok
      have HNO := Lib.hid hno
      have hgx : (bs l)[i]'hi = c := by rw [bs_get]; exact (List.getElem?_eq_some_iff.1 hcl).2
      have hlet := letter_nat c
      clear hv hst hok hno HV e1
      by_cases h128 : c.toNat < 128
      · have hnx := fun ty => run_next_ascii (P := Try.prog) w (bs l) i ty hi (by rw [hgx]; exact h128)
        rw [hgx] at hnx
        clear hgx hcl
        cases hL : Ma.letter c with
        | true =>
          rw [hL] at hlet
          have hs := Lib.hid (HOK.out (by unfold Ma.signOk; rw [hL]; rfl))
          have HL := Lib.hid hlet.symm
          clear hL hlet HOK HNO
          go_wp2_with fail
          refine (HP.out _ _).mono ?_
          rintro e w' ⟨rfl, rfl⟩
          rw [HL.out]
          go_wp2
          go_roundg g
          case measure => omega
          case rel => exact ⟨i + 1, by omega, rfl, hs.out⟩
        | false =>
          rw [hL] at hlet
          have HL := Lib.hid hlet.symm
          by_cases hi0 : i = 0
          · have qi : ((i : Int) == 0) = true := by simp [hi0]
            have hs := Lib.hid (HNO.out (by unfold Ma.signOk; rw [hL]; simp [hi0]))
            clear hL hlet HOK HNO hi0
            go_wp2_with fail
            refine (HP.out _ _).mono ?_
            rintro e w' ⟨rfl, rfl⟩
            rw [HL.out]
            go_wp2
            go_ret
            exact ⟨ret_bool hs.out.symm, (Below.refl _ _).alloc (Nat.le_refl _) _⟩
          have qi : ((i : Int) == 0) = false := by simp [hi0]
          by_cases h95 : c.toNat = 95
          · have qa : ((c.toNat : Int) != 95) = false := by simp [h95]
            have hs := Lib.hid (HOK.out (by unfold Ma.signOk; rw [hL]; simp [hi0, h95]))
            clear hL hlet HOK HNO hi0 h95
            go_wp2_with fail
            refine (HP.out _ _).mono ?_
            rintro e w' ⟨rfl, rfl⟩
            rw [HL.out]
            go_wp2
            go_roundg g
            case measure => omega
            case rel => exact ⟨i + 1, by omega, rfl, hs.out⟩
          have qa : ((c.toNat : Int) != 95) = true := by simp; omega
          by_cases h45 : c.toNat = 45
          · have qb : ((c.toNat : Int) != 45) = false := by simp [h45]
            have hs := Lib.hid (HOK.out (by unfold Ma.signOk; rw [hL]; simp [hi0, h45]))
            clear hL hlet HOK HNO hi0 h95 h45
            go_wp2_with fail
            refine (HP.out _ _).mono ?_
            rintro e w' ⟨rfl, rfl⟩
            rw [HL.out]
            go_wp2
            go_roundg g
            case measure => omega
            case rel => exact ⟨i + 1, by omega, rfl, hs.out⟩
          have qb : ((c.toNat : Int) != 45) = true := by simp; omega
          have hs := Lib.hid (HNO.out (by unfold Ma.signOk; rw [hL]; simp [h95, h45]))
          clear hL hlet HOK HNO hi0 h95 h45
          go_wp2_with fail
          refine (HP.out _ _).mono ?_
          rintro e w' ⟨rfl, rfl⟩
          rw [HL.out]
          go_wp2
          go_ret
          exact ⟨ret_bool hs.out.symm, (Below.refl _ _).alloc (Nat.le_refl _) _⟩
      · have hnx := fun ty => run_next_any (P := Try.prog) w (bs l) i ty hi
        obtain ⟨d1, d2⟩ := decode_high (bs l) i hi (by rw [hgx]; omega)
        have hL : Ma.letter c = false := by unfold Ma.letter; simp; omega
        have hs := Lib.hid (HNO.out (by unfold Ma.signOk; rw [hL]; simp; omega))
        generalize Utf8.decode (bs l) i = d at *
        obtain ⟨r, n⟩ := d
        dsimp only at d1 d2 hnx
        have hLI : Ma.letterI r = false := by unfold Ma.letterI; simp; omega
        have HL := Lib.hid hLI
        have qa : ((r : Int) != 95) = true := by simp; omega
        have qb : ((r : Int) != 45) = true := by simp; omega
        clear hL hlet HOK HNO hLI hgx hcl
        by_cases hi0 : i = 0
        · have qi : ((i : Int) == 0) = true := by simp [hi0]
          clear hi0
          go_wp2_with fail
          refine (HP.out _ _).mono ?_
          rintro e w' ⟨rfl, rfl⟩
          rw [HL.out]
          go_wp2
          go_ret
          exact ⟨ret_bool hs.out.symm, (Below.refl _ _).alloc (Nat.le_refl _) _⟩
        have qi : ((i : Int) == 0) = false := by simp [hi0]
        clear hi0
        go_wp2_with fail
        refine (HP.out _ _).mono ?_
        rintro e w' ⟨rfl, rfl⟩
        rw [HL.out]
        go_wp2
        go_ret
        exact ⟨ret_bool hs.out.symm, (Below.refl _ _).alloc (Nat.le_refl _) _⟩
end Go.Proofs.Ytbjhnfemlpbchaa
