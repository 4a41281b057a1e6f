/- The walks of layer 17: members' and methods' names. -/
import Derived.Test.YtdjdgipebonnaaaDoorWalksA
namespace Go.Proofs.YtdjdgipebonnaaaDoor
open Go.RowKit

theorem bs_empty_false {l : List UInt8} (h : l ≠ []) : (bs l).toList.isEmpty = false := by rw [bs_list]; cases l with | nil => exact absurd rfl h | cons _ _ => rfl
theorem bs_empty_true : (bs []).toList = [] := bs_list []
theorem bs_is (l m : List UInt8) : ((bs l).toList == m) = decide (l = m) := by rw [bs_list]; by_cases h : l = m <;> simp [h]
theorem ascii_of {l : List UInt8} (h : (l.all fun c => decide (c.toNat < 128)) = true) : Ascii l := fun c hc => by simpa using List.all_eq_true.1 h c hc

set_option maxHeartbeats 1000000 in
theorem member_any (l : List UInt8) (w : World) (hl : l.length ≤ 1000000000) :
    Calls Tryd.prog 7 #[.string (bs l)] w fun e w' => e = .returned (.bool (De.member l)) ∧ Below w.heap.size w w' := by
  by_cases h : l = []
  · subst h
    have hz := bs_empty_true
    go_enter Tryd.func7, Tryd.ntmps7
    go_wp2
    go_ret
    exact ⟨rfl, Below.refl _ _⟩
  · have hz := bs_empty_false h
    have H1 := Lib.hid (containsAny_any l [46, 59, 91, 47] w hl (by simp) (by simp) (ascii_of (by decide)))
    have H2 := Lib.hid fun w' => right_any l w' hl
    cases hh : De.has [46, 59, 91, 47] l
    · have hfin := Lib.hid (show De.member l = Ut.right l by unfold De.member; rw [hh]; cases l with | nil => exact absurd rfl h | cons _ _ => simp)
      have hh2 : (l.any fun b => ([46, 59, 91, 47] : List UInt8).contains b) = false := hh
      have HH := Lib.hid hh2
      clear h hh hh2
      go_enter Tryd.func7, Tryd.ntmps7
      go_wp2_with fail
      refine H1.out.mono ?_
      rw [HH.out]
      rintro e w1 ⟨rfl, hb⟩
      have J1 := Lib.hid hb
      clear hb
      go_wp2_with fail
      refine (H2.out _).mono ?_
      rintro e w2 ⟨rfl, hb⟩
      have J2 := Lib.hid (Below.after' J1.out hb (Nat.le_refl _))
      clear hb
      go_wp2
      go_ret
      exact ⟨ret_bool (by rw [hfin.out]), J2.out⟩
    · have hfin := Lib.hid (show De.member l = false by unfold De.member; rw [hh]; simp)
      have hh2 : (l.any fun b => ([46, 59, 91, 47] : List UInt8).contains b) = true := hh
      have HH := Lib.hid hh2
      clear h hh hh2
      go_enter Tryd.func7, Tryd.ntmps7
      go_wp2_with fail
      refine H1.out.mono ?_
      rw [HH.out]
      rintro e w1 ⟨rfl, hb⟩
      have J1 := Lib.hid hb
      clear hb
      go_wp2
      go_ret
      exact ⟨ret_bool hfin.out.symm, J1.out⟩

set_option maxHeartbeats 1000000 in
theorem rmember_any (l : List UInt8) (w : World) (hl : l.length ≤ 1000000000) :
    Calls Tryd.prog 8 #[.string (bs l)] w fun e w' => e = .returned (.bool (De.member l)) ∧ Below w.heap.size w w' := by
  by_cases h : l = []
  · subst h
    have hz := bs_empty_true
    go_enter Tryd.func8, Tryd.ntmps8
    go_wp2
    go_ret
    exact ⟨rfl, Below.refl _ _⟩
  · have hz := bs_empty_false h
    have H1 := Lib.hid (rright_any l w hl)
    have H2 := Lib.hid fun w' => without_any l [46, 59, 91, 47] w' hl (by simp)
    cases hh : Ut.right l
    · have hfin := Lib.hid (show De.member l = false by unfold De.member; rw [hh]; simp)
      have HH := Lib.hid hh
      clear h hh
      go_enter Tryd.func8, Tryd.ntmps8
      go_wp2_with fail
      refine H1.out.mono ?_
      rw [HH.out]
      rintro e w1 ⟨rfl, hb⟩
      have J1 := Lib.hid hb
      clear hb
      go_wp2
      go_ret
      exact ⟨ret_bool hfin.out.symm, J1.out⟩
    · have hfin := Lib.hid (show De.member l = !De.has [46, 59, 91, 47] l by unfold De.member; rw [hh]; cases l with | nil => exact absurd rfl h | cons _ _ => simp)
      have HH := Lib.hid hh
      clear h hh
      go_enter Tryd.func8, Tryd.ntmps8
      go_wp2_with fail
      refine H1.out.mono ?_
      rw [HH.out]
      rintro e w1 ⟨rfl, hb⟩
      have J1 := Lib.hid hb
      clear hb
      go_wp2_with fail
      refine (H2.out _).mono ?_
      rintro e w2 ⟨rfl, hb⟩
      have J2 := Lib.hid (Below.after' J1.out hb (Nat.le_refl _))
      clear hb
      go_wp2
      go_ret
      exact ⟨ret_bool (by rw [hfin.out]), J2.out⟩

set_option maxHeartbeats 1000000 in
theorem method_any (l : List UInt8) (w : World) (hl : l.length ≤ 1000000000) :
    Calls Tryd.prog 9 #[.string (bs l)] w fun e w' => e = .returned (.bool (De.method l)) ∧ Below w.heap.size w w' := by
  have q1 := bs_is l [60, 105, 110, 105, 116, 62]
  have q2 := bs_is l [60, 99, 108, 105, 110, 105, 116, 62]
  by_cases h1 : l = [60, 105, 110, 105, 116, 62]
  · have hfin := Lib.hid (show De.method l = true by unfold De.method; rw [decide_eq_true h1]; rfl)
    rw [decide_eq_true h1] at q1
    clear h1 q2
    go_enter Tryd.func9, Tryd.ntmps9
    go_wp2
    go_ret
    exact ⟨ret_bool hfin.out.symm, Below.refl _ _⟩
  · by_cases h2 : l = [60, 99, 108, 105, 110, 105, 116, 62]
    · have hfin := Lib.hid (show De.method l = true by unfold De.method; rw [decide_eq_true h2]; simp)
      rw [decide_eq_true h2] at q2
      rw [decide_eq_false h1] at q1
      clear h1 h2
      go_enter Tryd.func9, Tryd.ntmps9
      go_wp2
      go_ret
      exact ⟨ret_bool hfin.out.symm, Below.refl _ _⟩
    · rw [decide_eq_false h2] at q2
      rw [decide_eq_false h1] at q1
      have hm := Lib.hid (show De.method l = (De.member l && !De.has [60, 62] l) by unfold De.method; rw [decide_eq_false h1, decide_eq_false h2]; rfl)
      have H1 := Lib.hid (member_any l w hl)
      have H2 := Lib.hid fun w' => containsAny_any l [60, 62] w' hl (by simp) (by simp) (ascii_of (by decide))
      clear h1 h2
      cases hh : De.member l
      · have hfin := Lib.hid (show De.method l = false by rw [hm.out, hh]; rfl)
        have HH := Lib.hid hh
        clear hh
        go_enter Tryd.func9, Tryd.ntmps9
        go_wp2_with fail
        refine H1.out.mono ?_
        rw [HH.out]
        rintro e w1 ⟨rfl, hb⟩
        have J1 := Lib.hid hb
        clear hb
        go_wp2
        go_ret
        exact ⟨ret_bool hfin.out.symm, J1.out⟩
      · have hfin := Lib.hid (show De.method l = !(l.any fun b => ([60, 62] : List UInt8).contains b) by rw [hm.out, hh]; rfl)
        have HH := Lib.hid hh
        clear hh
        go_enter Tryd.func9, Tryd.ntmps9
        go_wp2_with fail
        refine H1.out.mono ?_
        rw [HH.out]
        rintro e w1 ⟨rfl, hb⟩
        have J1 := Lib.hid hb
        clear hb
        go_wp2_with fail
        refine (H2.out _).mono ?_
        rintro e w2 ⟨rfl, hb⟩
        have J2 := Lib.hid (Below.after' J1.out hb (Nat.le_refl _))
        clear hb
        generalize hX : (l.any fun b => ([60, 62] : List UInt8).contains b) = X at *
        have HX := Lib.hid hX
        clear hX
        go_wp2
        go_ret
        exact ⟨ret_bool (by rw [hfin.out]), J2.out⟩

set_option maxHeartbeats 1000000 in
theorem rmethod_any (l : List UInt8) (w : World) (hl : l.length ≤ 1000000000) :
    Calls Tryd.prog 10 #[.string (bs l)] w fun e w' => e = .returned (.bool (De.method l)) ∧ Below w.heap.size w w' := by
  have q1 := bs_is l [60, 105, 110, 105, 116, 62]
  have q2 := bs_is l [60, 99, 108, 105, 110, 105, 116, 62]
  by_cases h1 : l = [60, 105, 110, 105, 116, 62]
  · have hfin := Lib.hid (show De.method l = true by unfold De.method; rw [decide_eq_true h1]; rfl)
    rw [decide_eq_true h1] at q1
    clear h1 q2
    go_enter Tryd.func10, Tryd.ntmps10
    go_wp2
    go_ret
    exact ⟨ret_bool hfin.out.symm, Below.refl _ _⟩
  · by_cases h2 : l = [60, 99, 108, 105, 110, 105, 116, 62]
    · have hfin := Lib.hid (show De.method l = true by unfold De.method; rw [decide_eq_true h2]; simp)
      rw [decide_eq_true h2] at q2
      rw [decide_eq_false h1] at q1
      clear h1 h2
      go_enter Tryd.func10, Tryd.ntmps10
      go_wp2
      go_ret
      exact ⟨ret_bool hfin.out.symm, Below.refl _ _⟩
    · rw [decide_eq_false h2] at q2
      rw [decide_eq_false h1] at q1
      have hm := Lib.hid (show De.method l = (De.member l && !De.has [60, 62] l) by unfold De.method; rw [decide_eq_false h1, decide_eq_false h2]; rfl)
      have H1 := Lib.hid (rmember_any l w hl)
      have H2 := Lib.hid fun w' => without_any l [60, 62] w' hl (by simp)
      clear h1 h2
      cases hh : De.member l
      · have hfin := Lib.hid (show De.method l = false by rw [hm.out, hh]; rfl)
        have HH := Lib.hid hh
        clear hh
        go_enter Tryd.func10, Tryd.ntmps10
        go_wp2_with fail
        refine H1.out.mono ?_
        rw [HH.out]
        rintro e w1 ⟨rfl, hb⟩
        have J1 := Lib.hid hb
        clear hb
        go_wp2
        go_ret
        exact ⟨ret_bool hfin.out.symm, J1.out⟩
      · have hfin := Lib.hid (show De.method l = !De.has [60, 62] l by rw [hm.out, hh]; rfl)
        have HH := Lib.hid hh
        clear hh
        go_enter Tryd.func10, Tryd.ntmps10
        go_wp2_with fail
        refine H1.out.mono ?_
        rw [HH.out]
        rintro e w1 ⟨rfl, hb⟩
        have J1 := Lib.hid hb
        clear hb
        go_wp2_with fail
        refine (H2.out _).mono ?_
        rintro e w2 ⟨rfl, hb⟩
        have J2 := Lib.hid (Below.after' J1.out hb (Nat.le_refl _))
        clear hb
        go_wp2
        go_ret
        exact ⟨ret_bool (by rw [hfin.out]), J2.out⟩
end Go.Proofs.YtdjdgipebonnaaaDoor
