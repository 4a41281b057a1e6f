/- Layer 11: the law MomentParses. -/
import Derived.Test.YtbcanoknddpmeaaDoorWalksM
namespace Go.Proofs.YtbcanoknddpmeaaDoor
open Go.RowKit

theorem parses_long (l : List UInt8) (w : World) (hl : 100 < l.length)
    (h0 : ∀ w', Below w.heap.size w w' → Calls Tryd.prog 6 #[] w' fun e w'' => e = .returned (.bool true) ∧ Below w'.heap.size w' w'') :
    Calls Tryd.prog 4 #[.string (bs l)] w fun e w' => e = .returned (.bool true) ∧ Below w.heap.size w w' := by
  have H0 := Lib.hid h0
  clear h0
  have hsz := bs_size l
  go_enter Tryd.func4, Tryd.ntmps4
  go_wp2_with fail
  refine (H0.out _ (Below.refl _ _)).mono ?_
  rintro e w1 ⟨rfl, hb⟩
  go_wp2
  go_ret
  exact ⟨rfl, hb⟩

set_option maxHeartbeats 4000000 in
theorem parses_yes (l : List UInt8) (D C : Int) (w : World) (hl : l.length ≤ 100)
    (h0 : ∀ w', Below w.heap.size w w' → Calls Tryd.prog 6 #[] w' fun e w'' => e = .returned (.bool true) ∧ Below w'.heap.size w' w'')
    (hPa : ∀ w', Below w.heap.size w w' → Calls Tryd.prog 11 #[.string (bs l)] w' fun e w'' => e = .returned (.tuple #[.agg #[.int .u16 D, .int .u16 C], .int .i64 0]) ∧ Below w'.heap.size w' w'')
    (hrR : ∀ w, Calls Tryd.prog 13 #[.agg #[.int .u16 D, .int .u16 C]] w fun e w' => e = .returned (.bool true) ∧ Below w.heap.size w w')
    (hrP : ∀ w, Calls Tryd.prog 12 #[.agg #[.int .u16 D, .int .u16 C]] w fun e w' => e = .returned (.string (bs l)) ∧ Below w.heap.size w w') :
    Calls Tryd.prog 4 #[.string (bs l)] w fun e w' => e = .returned (.bool true) ∧ Below w.heap.size w w' := by
  have H0 := Lib.hid h0
  have HPa := Lib.hid hPa
  have HrR := Lib.hid hrR
  have HrP := Lib.hid hrP
  clear h0 hPa hrR hrP
  have hsz := bs_size l
  go_enter Tryd.func4, Tryd.ntmps4
  go_wp2_with fail
  refine (H0.out _ (Below.refl _ _)).mono ?_
  rintro e w1 ⟨rfl, hb⟩
  have J1 := Lib.hid hb
  clear hb
  go_wp2_with fail
  refine (HPa.out _ J1.out).mono ?_
  rintro e w2 ⟨rfl, hb⟩
  have J2 := Lib.hid (Below.alloc' (Below.after' J1.out hb (Nat.le_refl _)) (Nat.le_refl _) (.cells #[.int .u16 D, .int .u16 C] 25))
  clear hb
  go_wp2_with fail
  refine (HrR.out _).mono ?_
  rintro e w3 ⟨rfl, hb⟩
  have J3 := Lib.hid (Below.after' J2.out hb (Nat.le_refl _))
  have q3 : w3.heap[w2.heap.size]? = some (.cells #[.int .u16 D, .int .u16 C] 25) := by
    rw [hb.block _ (by simp)]; exact heap_alloc_new _ _
  have z3 : w2.heap.size < w3.heap.size := by have := hb.size; simp at this; omega
  obtain ⟨f1, f2⟩ := blk_facts q3
  clear hb q3
  go_wp2_with fail
  refine (HrP.out _).mono ?_
  rintro e w4 ⟨rfl, hb⟩
  have J4 := Lib.hid (Below.after' J3.out hb (Nat.le_refl _))
  clear hb f1 f2 z3
  go_wp2
  go_ret
  exact ⟨rfl, J4.out⟩

/-- How many marks stand ahead of a place. -/
def Mo.cnt (i : Nat) : Nat := if i ≤ 4 then 0 else if i ≤ 7 then 1 else if i ≤ 10 then 2 else if i ≤ 13 then 3 else if i ≤ 16 then 4 else 5
theorem Mo.cnt_cases (i : Nat) : Mo.cnt i = 0 ∨ Mo.cnt i = 1 ∨ Mo.cnt i = 2 ∨ Mo.cnt i = 3 ∨ Mo.cnt i = 4 ∨ Mo.cnt i = 5 := by
  unfold Mo.cnt
  repeat' split
  all_goals omega
theorem Mo.cnt_next {i : Nat} (h : ¬ (i = 4 ∨ i = 7 ∨ i = 10 ∨ i = 13 ∨ i = 16)) : Mo.cnt (i + 1) = Mo.cnt i := by
  unfold Mo.cnt
  repeat' split
  all_goals omega
def NoPost (l : List UInt8) (w : World) (e : Ending) (w' : World) : Prop :=
  ∃ D C E : Int, e = .returned (.tuple #[.agg #[.int .u16 D, .int .u16 C], .int .i64 E]) ∧ Below w.heap.size w w' ∧ ((E != 0) = true ∨ (E = 0 ∧ ∃ q, decide (q = l) = false ∧ ∀ w, Calls Tryd.prog 12 #[.agg #[.int .u16 D, .int .u16 C]] w fun e w' => e = .returned (.string (bs q)) ∧ Below w.heap.size w w'))
theorem index_bs (l : List UInt8) (i : Nat) (h : i < l.length) : ∃ b : Int, 0 ≤ b ∧ b ≤ 255 ∧ ∀ x, (Instr.index 9 (.string (bs l)) (.int .i64 (i : Int))).run Tryd.prog x = .ok (.int .u8 b) x := by
  have hz := bs_size l
  have hi : 0 ≤ (i : Int) ∧ (i : Int) < (bs l).size := by omega
  refine ⟨(((bs l)[((i : Int)).toNat]'(by omega)).toNat : Int), by omega, ?_, fun x => ?_⟩
  · have := ((bs l)[((i : Int)).toNat]'(by omega)).toNat_lt
    omega
  · rw [run_index_string x _ _ _ _ (by kernel_rfl), dif_pos hi]

theorem six_set (w : World) (B k : Nat) (p0 p1 p2 p3 p4 p5 v : Int) (h : w.heap[B]? = some (.cells #[.int .i64 p0, .int .i64 p1, .int .i64 p2, .int .i64 p3, .int .i64 p4, .int .i64 p5] 32)) : ∃ q0 q1 q2 q3 q4 q5 : Int, (w.setCell ⟨B, k, none⟩ (.int .i64 v)).heap[B]? = some (.cells #[.int .i64 q0, .int .i64 q1, .int .i64 q2, .int .i64 q3, .int .i64 q4, .int .i64 q5] 32) := by
  rw [heap_setCell_same _ _ _ _ _ _ h]
  match k with
  | 0 => exact ⟨v, p1, p2, p3, p4, p5, rfl⟩
  | 1 => exact ⟨p0, v, p2, p3, p4, p5, rfl⟩
  | 2 => exact ⟨p0, p1, v, p3, p4, p5, rfl⟩
  | 3 => exact ⟨p0, p1, p2, v, p4, p5, rfl⟩
  | 4 => exact ⟨p0, p1, p2, p3, v, p5, rfl⟩
  | 5 => exact ⟨p0, p1, p2, p3, p4, v, rfl⟩
  | k + 6 => exact ⟨p0, p1, p2, p3, p4, p5, by rw [Array.setIfInBounds_eq_of_size_le (by simp)]⟩

set_option maxHeartbeats 16000000 in
theorem parses_no (l : List UInt8) (w : World) (hl : l.length ≤ 100)
    (h0 : ∀ w', Below w.heap.size w w' → Calls Tryd.prog 6 #[] w' fun e w'' => e = .returned (.bool true) ∧ Below w'.heap.size w' w'')
    (hPa : ∀ w', Below w.heap.size w w' → Calls Tryd.prog 11 #[.string (bs l)] w' fun e w'' => e = .returned (.tuple #[.agg #[.int .u16 0, .int .u16 0], .int .i64 2]) ∧ Below w'.heap.size w' w'')
    (hJ : ∀ (y m d h n s : Int) (w : World), Calls Tryd.prog 8 #[.agg #[.int .i64 y, .int .i64 m, .int .i64 d, .int .i64 h, .int .i64 n, .int .i64 s]] w (NoPost l w)) :
    Calls Tryd.prog 4 #[.string (bs l)] w fun e w' => e = .returned (.bool true) ∧ Below w.heap.size w w' := by
  have H0 := Lib.hid h0
  have HPa := Lib.hid hPa
  have HJ := Lib.hid hJ
  clear h0 hPa hJ
  have hsz := bs_size l
  go_enter Tryd.func4, Tryd.ntmps4
  go_wp2_with fail
  refine (H0.out _ (Below.refl _ _)).mono ?_
  rintro e w1 ⟨rfl, hb⟩
  have J1 := Lib.hid hb
  clear hb
  go_wp2_with fail
  refine (HPa.out _ J1.out).mono ?_
  rintro e w2 ⟨rfl, hb⟩
  have J2 := Lib.hid (Below.after' J1.out hb (Nat.le_refl _))
  clear hb
  go_wp2_with fail
  go_loopw [5, 7] (fun u v wr => ∃ i : Nat, i ≤ 19 ∧ i ≤ l.length ∧ v = .int .i64 i ∧ u = .int .i64 (Mo.cnt i) ∧ wr.heap[w2.heap.size]? = some (.cells #[.int .u16 0, .int .u16 0] 25) ∧
      (∃ p0 p1 p2 p3 p4 p5 : Int, wr.heap[w2.heap.size + 1]? = some (.cells #[.int .i64 p0, .int .i64 p1, .int .i64 p2, .int .i64 p3, .int .i64 p4, .int .i64 p5] 32)) ∧ Below w.heap.size w wr ∧ w2.heap.size + 1 < wr.heap.size) (fun _ v _ => 19 - (intOf v).toNat)
  case atStart =>
    refine ⟨0, by omega, by omega, rfl, rfl, ?_, ⟨0, 0, 0, 0, 0, 0, ?_⟩, Below.alloc' (Below.alloc' J2.out (Nat.le_refl _) _) (Nat.le_refl _) _, by simp⟩
    · rw [heap_alloc_old _ _ (by simp)]; exact heap_alloc_new _ _
    · have := heap_alloc_new (w2.alloc (.cells #[.int .u16 0, .int .u16 0] 25)) (.cells #[.int .i64 0, .int .i64 0, .int .i64 0, .int .i64 0, .int .i64 0, .int .i64 0] 32)
      rwa [World.size_alloc] at this
  case round =>
    obtain ⟨i, hi, hil, rfl, rfl, hA, ⟨p0, p1, p2, p3, p4, p5, hP⟩, hB, hz⟩ := hrel
    have hA' := Lib.hid hA
    have hP' := Lib.hid hP
    have hB' := Lib.hid hB
    obtain ⟨f1, f2⟩ := blk_facts hA
    obtain ⟨f3, f4⟩ := blk_facts hP
    clear hA hP hB
    by_cases h1 : i < l.length ∧ i < 19
    · obtain ⟨h1, h2⟩ := h1
      by_cases hs : i = 4 ∨ i = 7 ∨ i = 10 ∨ i = 13 ∨ i = 16
      · rcases hs with rfl | rfl | rfl | rfl | rfl
        · skip
          go_wp2
          refine ⟨⟨5, by omega, by omega, rfl, congrArg (Value.int .i64) (by decide +kernel), hA'.out, ⟨_, _, _, _, _, _, hP'.out⟩, hB'.out, hz⟩, by decide⟩
        · skip
          go_wp2
          refine ⟨⟨8, by omega, by omega, rfl, congrArg (Value.int .i64) (by decide +kernel), hA'.out, ⟨_, _, _, _, _, _, hP'.out⟩, hB'.out, hz⟩, by decide⟩
        · skip
          go_wp2
          refine ⟨⟨11, by omega, by omega, rfl, congrArg (Value.int .i64) (by decide +kernel), hA'.out, ⟨_, _, _, _, _, _, hP'.out⟩, hB'.out, hz⟩, by decide⟩
        · skip
          go_wp2
          refine ⟨⟨14, by omega, by omega, rfl, congrArg (Value.int .i64) (by decide +kernel), hA'.out, ⟨_, _, _, _, _, _, hP'.out⟩, hB'.out, hz⟩, by decide⟩
        · skip
          go_wp2
          refine ⟨⟨17, by omega, by omega, rfl, congrArg (Value.int .i64) (by decide +kernel), hA'.out, ⟨_, _, _, _, _, _, hP'.out⟩, hB'.out, hz⟩, by decide⟩
      · have e4 : ((i : Int) == 4) = false := by simp; omega
        have e7 : ((i : Int) == 7) = false := by simp; omega
        have e10 : ((i : Int) == 10) = false := by simp; omega
        have e13 : ((i : Int) == 13) = false := by simp; omega
        have e16 : ((i : Int) == 16) = false := by simp; omega
        have hn := Lib.hid (Mo.cnt_next hs)
        obtain ⟨b, hb0, hb1, hx⟩ := index_bs l i h1
        have hcs := Mo.cnt_cases i
        clear hs
        rcases hcs with e | e | e | e | e | e
        all_goals
          have en := hn.out.trans e
          rw [e]
          clear hn
          go_wp2_with fail
          refine wp_region_grow_tail 12 (by kernel_rfl) (by kernel_rfl) ?_
          simp only [List.take_succ_cons, List.take_zero, List.drop_succ_cons, List.drop_zero]
          repeat (go_big_quiet_step ((fail)))
          refine wpQuiet_nil ?_
          intro g1
          obtain ⟨w1, hb1⟩ := g1
          have hP1 := (hb1.block _ hz).trans hP'.out
          have hA1 := (hb1.block _ (by omega)).trans hA'.out
          have hz1 : w2.heap.size + 1 < w1.heap.size := by have := hb1.size; omega
          have hB1 := Lib.hid (Below.after' hB'.out hb1 (Nat.le_refl _))
          clear f1 f2 f3 f4
          obtain ⟨f1, f2⟩ := blk_facts hP1
          have hP1' := Lib.hid hP1
          have hA1' := Lib.hid hA1
          clear hP1 hA1
          go_wp2_with fail
          refine ⟨⟨i + 1, by omega, by omega, rfl, by rw [en], ?_, six_set _ _ _ _ _ _ _ _ _ _ hP1'.out, hB1.out.setCell (p := ⟨w2.heap.size + 1, _, none⟩) (by show w.heap.size ≤ w2.heap.size + 1; have := J2.out.size; omega) _, by rw [World.size_setCell]; exact hz1⟩, by show 19 - ((i : Int) + 1).toNat < 19 - (i : Int).toNat; omega⟩
          rw [heap_setCell_other _ _ _ _ (by simp)]; exact hA1'.out
    · have h3 : (decide ((i : Int) < l.length) && decide ((i : Int) < 19)) = false := by simp; omega
      go_wp2_with fail
      all_goals
        refine (HJ.out _ _ _ _ _ _ _).mono ?_
        rintro e w5 ⟨D, C, E, rfl, hb, hcase⟩
        have HC := Lib.hid hcase
        have A5 : (w5.alloc (.cells #[.int .u16 D, .int .u16 C] 25)).heap[w2.heap.size]? = some (.cells #[.int .u16 0, .int .u16 0] 25) := by
          have h1 := hb.size
          rw [heap_alloc_old _ _ (by omega), hb.block _ (by omega)]; exact hA'.out
        have z5 : w2.heap.size < w5.heap.size := by have := hb.size; omega
        have J5 := Lib.hid (Below.alloc' (Below.after' hB'.out hb (Nat.le_refl _)) (Nat.le_refl _) (.cells #[.int .u16 D, .int .u16 C] 25))
        clear f1 f2 f3 f4 hb hcase hA' hP' hB'
        obtain ⟨f1, f2⟩ := blk_facts A5
        clear A5
        rcases HC.out with hE | ⟨rfl, q, hq, hP⟩
        · go_wp2
          go_ret
          exact ⟨rfl, J5.out⟩
        · have HP := Lib.hid hP
          clear hP
          go_wp2_with fail
          refine (HP.out _).mono ?_
          rintro e w6 ⟨rfl, hb⟩
          have J6 := Lib.hid (Below.after' J5.out hb (Nat.le_refl _))
          have hbq : ((bs q).toList == (bs l).toList) = false := by rw [bs_beq]; exact hq
          clear hb
          go_wp2
          go_ret
          exact ⟨rfl, J6.out⟩

theorem no_post (l : List UInt8) (hp : (Mo.parse l).2.2 ≠ 0) (y m d h n s : Int) (w : World) :
    Calls Tryd.prog 8 #[.agg #[.int .i64 y, .int .i64 m, .int .i64 d, .int .i64 h, .int .i64 n, .int .i64 s]] w (NoPost l w) := by
  have hnp := Mo.not_print hp y m d h n s
  have hb := Mo.join_bounds y m d h n s
  refine (rjoin_any y m d h n s w).mono fun e w' ⟨he, hw⟩ => ⟨_, _, _, he, hw, ?_⟩
  by_cases h0 : (Mo.join y m d h n s).2.2 = 0
  · right
    refine ⟨h0, _, ?_, fun w => rprint_any _ _ w ⟨hb.1, hb.2.1⟩ ⟨hb.2.2.1, hb.2.2.2⟩⟩
    rcases hnp with h1 | h1
    · exact absurd h0 h1
    · exact decide_eq_false h1
  · exact .inl (bne_iff_ne.2 h0)

theorem lawParses (l : List UInt8) (w : World) (ht : TabP w) :
    Calls Tryd.prog 4 #[.string (bs l)] w fun e w' => e = .returned (.bool true) ∧ Below w.heap.size w w' := by
  have h0 := fun w' (k : Below w.heap.size w w') => fixed_any w' (tab_below ht k)
  by_cases hl : 100 < l.length
  · exact parses_long l w hl h0
  · have hpa := fun w' (k : Below w.heap.size w w') => parse_any l w' (by omega) (tab_below ht k)
    by_cases he : (Mo.parse l).2.2 = 0
    · have hb := Mo.parse_bounds l
      obtain ⟨hm, hpr⟩ := Mo.parse_ok he
      have hr := fun w' => rright_any (Mo.parse l).1 (Mo.parse l).2.1 w' ⟨hb.1, hb.2.1⟩ ⟨hb.2.2.1, hb.2.2.2⟩
      have hp := fun w' => rprint_any (Mo.parse l).1 (Mo.parse l).2.1 w' ⟨hb.1, hb.2.1⟩ ⟨hb.2.2.1, hb.2.2.2⟩
      rw [hm] at hr
      rw [hpr] at hp
      refine parses_yes l (Mo.parse l).1 (Mo.parse l).2.1 w (by omega) h0 (fun w' k => ?_) hr hp
      have := hpa w' k
      unfold JoinPost at this
      rwa [he] at this
    · have hn := Mo.parse_no he
      refine parses_no l w (by omega) h0 (fun w' k => ?_) (no_post l he)
      have := hpa w' k
      rwa [hn] at this
end Go.Proofs.YtbcanoknddpmeaaDoor
