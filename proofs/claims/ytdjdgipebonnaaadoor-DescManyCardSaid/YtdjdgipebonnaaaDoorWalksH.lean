/- The walks of layer 17: what a class's constant may name; a descriptor's room. -/
import Derived.Test.YtdjdgipebonnaaaDoorWalksG
namespace Go.Proofs.YtdjdgipebonnaaaDoor
open Go.RowKit

theorem pre_head (l : List UInt8) (x : UInt8) : Lib.hasPrefix l [x] = decide (l.head? = some x) := by
  cases l with
  | nil => rfl
  | cons c r => rw [pre_cons]; simp

set_option maxHeartbeats 2000000 in
theorem named_any (l : List UInt8) (w : World) (hl : l.length ≤ 1000000000) (hm : MaxP w) :
    Calls Tryd.prog 13 #[.string (bs l)] w fun e w' => e = .returned (.bool (De.named l)) ∧ Below w.heap.size w w' := by
  have H1 := Lib.hid (class_any l w hl hm)
  cases h1 : De.cls l
  · have e1 := Lib.hid h1
    have HM := Lib.hid hm
    have H2 := Lib.hid fun w' => calls_keep (Tryd.strings_HasPrefix (bs l) ⟨#[91]⟩ w')
    have HP := Lib.hid (show Lib.hasPrefix (bs l).data.toList (⟨#[91]⟩ : ByteArray).data.toList = decide (l.head? = some 91) from pre_head l 91)
    by_cases h2 : l.head? = some 91
    · have HP2 := Lib.hid (HP.out.trans (decide_eq_true h2))
      have H3 := Lib.hid fun w' (h : Below w.heap.size w w') => field_any l w' hl (max_below HM.out h)
      have hfin := Lib.hid (show De.named l = De.field l by unfold De.named; rw [h1, decide_eq_true h2]; rfl)
      clear h1 h2 hm HP
      go_enter Tryd.func13, Tryd.ntmps13
      go_wp2_with fail
      refine H1.out.mono ?_
      rw [e1.out]
      rintro e w1 ⟨rfl, hb⟩
      have J1 := Lib.hid hb
      clear hb
      go_wp2_with fail
      refine (H2.out _).mono ?_
      rw [HP2.out]
      rintro e w' ⟨rfl, rfl⟩
      go_wp2_with fail
      refine (H3.out _ J1.out).mono ?_
      rintro e w2 ⟨rfl, hb⟩
      have J2 := Lib.hid (Below.after' J1.out hb (Nat.le_refl _))
      clear hb
      go_wp2
      go_ret
      exact ⟨ret_bool hfin.out.symm, J2.out⟩
    · have HP2 := Lib.hid (HP.out.trans (decide_eq_false h2))
      have hfin := Lib.hid (show De.named l = false by unfold De.named; rw [h1, decide_eq_false h2]; rfl)
      clear h1 h2 hm HP
      go_enter Tryd.func13, Tryd.ntmps13
      go_wp2_with fail
      refine H1.out.mono ?_
      rw [e1.out]
      rintro e w1 ⟨rfl, hb⟩
      have J1 := Lib.hid hb
      clear hb
      go_wp2_with fail
      refine (H2.out _).mono ?_
      rw [HP2.out]
      rintro e w' ⟨rfl, rfl⟩
      go_wp2
      go_ret
      exact ⟨ret_bool hfin.out.symm, J1.out⟩
  · have e1 := Lib.hid h1
    have hfin := Lib.hid (show De.named l = true by unfold De.named; rw [h1]; rfl)
    clear h1 hm
    go_enter Tryd.func13, Tryd.ntmps13
    go_wp2_with fail
    refine H1.out.mono ?_
    rw [e1.out]
    rintro e w1 ⟨rfl, hb⟩
    go_wp2
    go_ret
    exact ⟨ret_bool hfin.out.symm, hb⟩

set_option maxHeartbeats 2000000 in
theorem rnamed_any (l : List UInt8) (w : World) (hl : l.length ≤ 1000000000) :
    Calls Tryd.prog 14 #[.string (bs l)] w fun e w' => e = .returned (.bool (De.named l)) ∧ Below w.heap.size w w' := by
  have H1 := Lib.hid (rclass_any l w hl)
  cases h1 : De.cls l
  · have e1 := Lib.hid h1
    cases l with
    | nil =>
      have hz := bs_empty_true
      have hfin := Lib.hid (show De.named [] = false by unfold De.named; rw [h1]; rfl)
      clear h1
      go_enter Tryd.func14, Tryd.ntmps14
      go_wp2_with fail
      refine H1.out.mono ?_
      rw [e1.out]
      rintro e w1 ⟨rfl, hb⟩
      go_wp2
      go_ret
      exact ⟨ret_bool hfin.out.symm, hb⟩
    | cons c r =>
      have hz := bs_empty_false (l := c :: r) (by simp)
      have i0 := fun x => bs_index (c :: r) 0 c rfl .i64 0 rfl x
      have H3 := Lib.hid fun w' => rfield_any (c :: r) w' hl
      have hnm : De.named (c :: r) = (decide (c = 91) && De.field (c :: r)) := by unfold De.named; rw [h1]; simp
      generalize c :: r = l at *
      by_cases h2 : c = 91
      · have c1 : ((c.toNat : Int) == 91) = true := by rw [h2]; rfl
        have hfin := Lib.hid (show De.named l = De.field l by rw [hnm, decide_eq_true h2]; rfl)
        clear h1 h2 hnm
        go_enter Tryd.func14, Tryd.ntmps14
        go_wp2_with fail
        refine H1.out.mono ?_
        rw [e1.out]
        rintro e w1 ⟨rfl, hb⟩
        have J1 := Lib.hid hb
        clear hb
        go_wp2_with fail
        refine (H3.out _).mono ?_
        rintro e w2 ⟨rfl, hb⟩
        have J2 := Lib.hid (Below.after' J1.out hb (Nat.le_refl _))
        clear hb
        go_wp2
        go_ret
        exact ⟨ret_bool hfin.out.symm, J2.out⟩
      · have c1 : ((c.toNat : Int) == 91) = false := by rw [beq_eq_false_iff_ne]; intro h; exact h2 (UInt8.toNat_inj.1 (by show c.toNat = 91; omega))
        have hfin := Lib.hid (show De.named l = false by rw [hnm, decide_eq_false h2]; rfl)
        clear h1 h2 hnm
        go_enter Tryd.func14, Tryd.ntmps14
        go_wp2_with fail
        refine H1.out.mono ?_
        rw [e1.out]
        rintro e w1 ⟨rfl, hb⟩
        have J1 := Lib.hid hb
        clear hb
        go_wp2
        go_ret
        exact ⟨ret_bool hfin.out.symm, J1.out⟩
  · have e1 := Lib.hid h1
    have hfin := Lib.hid (show De.named l = true by unfold De.named; rw [h1]; rfl)
    clear h1
    go_enter Tryd.func14, Tryd.ntmps14
    go_wp2_with fail
    refine H1.out.mono ?_
    rw [e1.out]
    rintro e w1 ⟨rfl, hb⟩
    go_wp2
    go_ret
    exact ⟨ret_bool hfin.out.symm, hb⟩

theorem De.field_J : De.field [74] = true := by decide
theorem De.field_D : De.field [68] = true := by decide

set_option maxHeartbeats 2000000 in
theorem room_any (l : List UInt8) (w : World) (hl : l.length ≤ 1000000000) (hm : MaxP w) :
    Calls Tryd.prog 17 #[.string (bs l)] w fun e w' => e = .returned (.int .i64 (De.room l : Nat)) ∧ Below w.heap.size w w' := by
  have H1 := Lib.hid (field_any l w hl hm)
  have q1 := bs_is l [74]
  have q2 := bs_is l [68]
  have hcs : (De.field l = false ∧ Hid (De.room l = 0)) ∨ (De.field l = true ∧ decide (l = [74]) = true ∧ Hid (De.room l = 2)) ∨ (De.field l = true ∧ decide (l = [74]) = false ∧ decide (l = [68]) = true ∧ Hid (De.room l = 2)) ∨ (De.field l = true ∧ decide (l = [74]) = false ∧ decide (l = [68]) = false ∧ Hid (De.room l = 1)) := by
    unfold De.room
    cases hf : De.field l
    · left; exact ⟨rfl, Lib.hid (by simp)⟩
    · right
      by_cases h1 : l = [74]
      · left; exact ⟨rfl, decide_eq_true h1, Lib.hid (by rw [if_pos rfl, if_pos (.inl h1)])⟩
      · right
        by_cases h2 : l = [68]
        · left; exact ⟨rfl, decide_eq_false h1, decide_eq_true h2, Lib.hid (by rw [if_pos rfl, if_pos (.inr h2)])⟩
        · right; exact ⟨rfl, decide_eq_false h1, decide_eq_false h2, Lib.hid (by rw [if_pos rfl, if_neg (fun h => h.elim h1 h2)])⟩
  clear hm
  rcases hcs with ⟨hf, hR⟩ | ⟨hf, h1, hR⟩ | ⟨hf, h1, h2, hR⟩ | ⟨hf, h1, h2, hR⟩
  all_goals
    try rw [h1] at q1
    try rw [h2] at q2
    have e1 := Lib.hid hf
    clear hf
    try clear h1
    try clear h2
    go_enter Tryd.func17, Tryd.ntmps17
    go_wp2_with fail
    refine H1.out.mono ?_
    rw [e1.out]
    rintro e w1 ⟨rfl, hb⟩
    have J1 := Lib.hid hb
    clear hb
    go_wp2
    go_ret
    exact ⟨ret_int (by rw [hR.out]; rfl), J1.out⟩

set_option maxHeartbeats 2000000 in
theorem rroom_any (l : List UInt8) (w : World) (hl : l.length ≤ 1000000000) :
    Calls Tryd.prog 18 #[.string (bs l)] w fun e w' => e = .returned (.int .i64 (De.room l : Nat)) ∧ Below w.heap.size w w' := by
  have q1 := bs_is l [74]
  have q2 := bs_is l [68]
  by_cases h1 : l = [74]
  · have hR := Lib.hid (show De.room l = 2 by unfold De.room; rw [if_pos (by rw [h1]; exact De.field_J), if_pos (.inl h1)])
    rw [decide_eq_true h1] at q1
    clear h1
    go_enter Tryd.func18, Tryd.ntmps18
    go_wp2
    go_ret
    exact ⟨ret_int (by rw [hR.out]; rfl), Below.refl _ _⟩
  · rw [decide_eq_false h1] at q1
    by_cases h2 : l = [68]
    · have hR := Lib.hid (show De.room l = 2 by unfold De.room; rw [if_pos (by rw [h2]; exact De.field_D), if_pos (.inr h2)])
      rw [decide_eq_true h2] at q2
      clear h1 h2
      go_enter Tryd.func18, Tryd.ntmps18
      go_wp2
      go_ret
      exact ⟨ret_int (by rw [hR.out]; rfl), Below.refl _ _⟩
    · rw [decide_eq_false h2] at q2
      have H1 := Lib.hid (rfield_any l w hl)
      cases hf : De.field l
      · have hR := Lib.hid (show De.room l = 0 by unfold De.room; rw [hf]; rfl)
        have e1 := Lib.hid hf
        clear h1 h2 hf
        go_enter Tryd.func18, Tryd.ntmps18
        go_wp2_with fail
        refine H1.out.mono ?_
        rw [e1.out]
        rintro e w1 ⟨rfl, hb⟩
        go_wp2
        go_ret
        exact ⟨ret_int (by rw [hR.out]; rfl), hb⟩
      · have hR := Lib.hid (show De.room l = 1 by unfold De.room; rw [if_pos hf, if_neg (fun h => h.elim h1 h2)])
        have e1 := Lib.hid hf
        clear h1 h2 hf
        go_enter Tryd.func18, Tryd.ntmps18
        go_wp2_with fail
        refine H1.out.mono ?_
        rw [e1.out]
        rintro e w1 ⟨rfl, hb⟩
        go_wp2
        go_ret
        exact ⟨ret_int (by rw [hR.out]; rfl), hb⟩
end Go.Proofs.YtdjdgipebonnaaaDoor
