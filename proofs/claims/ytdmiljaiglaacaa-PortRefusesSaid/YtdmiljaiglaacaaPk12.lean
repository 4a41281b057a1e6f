/- Joined texts: PortN, PortQ, PortU, PortR, TabB, Boxed. -/
import Derived.Test.YtdmiljaiglaacaaPk11
import Derived.Test.YtdmiljaiglaacaaPk10
import Derived.Test.YtdmiljaiglaacaaPk7
import Derived.Test.YtdmiljaiglaacaaPk4
import Derived.BigRegion
import Derived.RangeFuncNested
import Derived.RangeFuncBound
import Derived.RangeFuncCalls
import Derived.RangeFuncLeaves
import Derived.RangeFuncGives
import Derived.Test.YtdmiljaiglaacaaPk1
/- The walks of layer 29: has all gone through; no port. -/
namespace Go.Proofs.Ytdmiljaiglaacaa
open Go.RowKit Go.Maps

/-- Does something stand in a row yet? -/
noncomputable def leftB (R : Nat → List Int) : Bool := @decide (∃ t, t < 64 ∧ R t ≠ []) (Classical.propDecidable _)
theorem leftB_true {R : Nat → List Int} (h : ∃ t, t < 64 ∧ R t ≠ []) : leftB R = true := @decide_eq_true _ (Classical.propDecidable _) h
theorem leftB_false {R : Nat → List Int} (h : ¬ ∃ t, t < 64 ∧ R t ≠ []) : leftB R = false := @decide_eq_false _ (Classical.propDecidable _) h
section
variable {x : World} {base b : Nat} {tp : Value} {us : Nat → Value} {R : Nat → List Int} {rd : Bool} {e : Int}
theorem end1_any (A : Option Addr) (n c : Nat) (w : World) : Calls Try.prog 35 #[.slice A n c] w fun e w' => e = .returned (.bool (decide (0 < n))) ∧ w' = w := by
  go_enter Try.func35, Try.ntmps35
  go_wp2
  go_ret
  exact ⟨rfl, rfl⟩
set_option maxRecDepth 100000 in
theorem index_any (h : PortS x base b tp us R rd e) : Calls Try.prog 54 #[.slice (some ⟨b, 1, none⟩) 64 64, .func (.func 35) #[] #[]] x fun e w' => (∃ r : Int, e = .returned (.int .i64 r) ∧ decide (0 ≤ r) = leftB R) ∧ w' = x := by
  have H := Lib.hid h
  have eg : ∀ args w, (callFunc 35 args).run Try.prog w = .ok (.enter 35 args) w := enters_of Try.func35 (by kernel_rfl) rfl
  have hbz := h.box.lt
  clear h
  go_enter Try.func54, Try.ntmps54
  go_wp2_with fail
  go_loopw [8] (fun t wr => ∃ i : Nat, i ≤ 64 ∧ t = .int .i64 i ∧ (∀ j, j < i → R j = []) ∧ wr = x) (fun t _ => 64 - (intOf t).toNat)
  case atStart => exact ⟨0, by omega, rfl, (fun j hj => by omega), rfl⟩
  case round =>
    obtain ⟨i, hil, rfl, hnil, rfl⟩ := hrel
    have NIL := Lib.hid hnil
    clear hnil
    by_cases hi : i < 64
    · have p1 : decide ((i : Int) < 64) = true := decide_eq_true (by omega)
      have p2 : decide (i < 64) = true := decide_eq_true hi
      have r1 := H.out.box.row hi
      obtain ⟨A, c, eu, _⟩ := (H.out.rows i hi).reads
      rw [eu] at r1
      clear eu
      by_cases hR : R i = []
      · have HN := Lib.hid (show ∀ j, j < i + 1 → R j = [] from fun j hj => by
          by_cases e : j = i
          · subst e; exact hR
          · exact NIL.out j (by omega))
        rw [hR] at r1
        have HE := Lib.hid (end1_any A 0 c wr)
        clear hR NIL
        go_wp2_with fail
        refine HE.out.mono ?_
        rintro ex w2 ⟨rfl, rfl⟩
        go_wp2_with fail
        go_roundw
        case rel => exact ⟨i + 1, by omega, by go_num, HN.out, trivial⟩
        case measure => simp [intOf]; omega
      · have hz : 0 < (R i).length := List.length_pos_iff.2 hR
        have p3 : decide (0 < (R i).length) = true := decide_eq_true hz
        have HL := Lib.hid (show leftB R = true from leftB_true ⟨i, hi, hR⟩)
        have HE := Lib.hid (end1_any A (R i).length c wr)
        rw [p3] at HE
        clear hR NIL p3 hz
        go_wp2_with fail
        refine HE.out.mono ?_
        rintro ex w2 ⟨rfl, rfl⟩
        go_wp2_with fail
        go_ret
        exact ⟨⟨(i : Int), rfl, by rw [HL.out]; exact decide_eq_true (by omega)⟩, rfl⟩
    · obtain rfl : i = 64 := by omega
      have p1 : decide ((64 : Int) < 64) = false := rfl
      have HL := Lib.hid (show leftB R = false from leftB_false fun ⟨t, ht, h⟩ => h (NIL.out t ht))
      clear NIL
      go_wp2_with fail
      go_ret
      exact ⟨⟨-1, rfl, by rw [HL.out]; rfl⟩, rfl⟩
theorem contains_any (h : PortS x base b tp us R rd e) : Calls Try.prog 34 #[.slice (some ⟨b, 1, none⟩) 64 64, .func (.func 35) #[] #[]] x fun e w' => e = .returned (.bool (leftB R)) ∧ w' = x := by
  have HI := Lib.hid (index_any h)
  clear h
  go_enter Try.func34, Try.ntmps34
  go_wp2_with fail
  refine HI.out.mono ?_
  rintro ex w2 ⟨⟨r, rfl, hr⟩, rfl⟩
  have HR := Lib.hid hr
  clear hr HI
  go_wp2_with fail
  go_ret
  exact ⟨by rw [← HR.out]; rfl, rfl⟩
theorem end_any (h : PortS x base b tp us R rd e) : Calls Try.prog 15 #[.pointer (some ⟨b, 0, none⟩)] x fun ex y => ex = .returned (.int .i64 (if rd = true ∧ leftB R = true then fe e 2 else e)) ∧ PortTo x base b tp us R rd (if rd = true ∧ leftB R = true then fe e 2 else e) none y := by
  have H := Lib.hid h
  have HRD := Lib.hid (reads_any h)
  have HC := Lib.hid (contains_any h)
  have hbz := h.box.lt
  have HF := Lib.hid (fail_any 2 h)
  have HE := Lib.hid (err_any h)
  clear h
  cases rd with
  | false =>
    rw [if_neg (fun h => by cases h.1)]
    go_enter Try.func15, Try.ntmps15
    go_wp2_with fail
    refine HRD.out.mono ?_
    rintro ex w2 ⟨rfl, rfl⟩
    go_wp2_with fail
    refine HE.out.mono ?_
    rintro ex w2 ⟨rfl, rfl⟩
    go_wp2_with fail
    go_ret
    exact ⟨rfl, PortTo.of H.out (Frm.refl _ _ _ _ _)⟩
  | true =>
    cases hL : leftB R with
    | false =>
      rw [if_neg (fun h => by cases h.2)]
      rw [hL] at HC
      go_enter Try.func15, Try.ntmps15
      go_wp2_with fail
      refine HRD.out.mono ?_
      rintro ex w2 ⟨rfl, rfl⟩
      go_wp2_with fail
      refine HC.out.mono ?_
      rintro ex w2 ⟨rfl, rfl⟩
      go_wp2_with fail
      refine HE.out.mono ?_
      rintro ex w2 ⟨rfl, rfl⟩
      go_wp2_with fail
      go_ret
      exact ⟨rfl, PortTo.of H.out (Frm.refl _ _ _ _ _)⟩
    | true =>
      rw [if_pos ⟨rfl, rfl⟩]
      rw [hL] at HC
      go_enter Try.func15, Try.ntmps15
      go_wp2_with fail
      refine HRD.out.mono ?_
      rintro ex w2 ⟨rfl, rfl⟩
      go_wp2_with fail
      refine HC.out.mono ?_
      rintro ex w2 ⟨rfl, rfl⟩
      go_wp2_with fail
      refine HF.out.mono ?_
      rintro ex w2 ⟨rfl, h2, g2⟩
      have H2 := Lib.hid h2
      have F2 := Lib.hid (Frm.box (us := us) (o := none) H.out.hb H.out.ble g2)
      have HE2 := Lib.hid (err_any h2)
      clear h2 g2 HE HF
      go_wp2_with fail
      refine HE2.out.mono ?_
      rintro ex w2 ⟨rfl, rfl⟩
      go_wp2_with fail
      go_ret
      exact ⟨rfl, PortTo.of H2.out F2.out⟩
end
/-- At no port. -/
theorem err_nil (w : World) : Calls Try.prog 14 #[.pointer none] w fun e w' => e = .returned (.int .i64 1) ∧ w' = w := by
  go_enter Try.func14, Try.ntmps14
  go_wp2
  go_ret
  exact ⟨rfl, rfl⟩
theorem reads_nil (w : World) : Calls Try.prog 18 #[.pointer none] w fun e w' => e = .returned (.bool false) ∧ w' = w := by
  go_enter Try.func18, Try.ntmps18
  go_wp2
  go_ret
  exact ⟨rfl, rfl⟩
theorem fail_nil (e' : Int) (w : World) : Calls Try.prog 36 #[.pointer none, .int .i64 e'] w fun e w' => e = .returned (.tuple #[]) ∧ w' = w := by
  go_enter Try.func36, Try.ntmps36
  go_wp2
  go_end0
  exact ⟨rfl, rfl⟩
theorem rows_nil (w : World) : Calls Try.prog 13 #[.pointer none] w fun e w' => e = .returned (.slice none 0 0) ∧ w' = w := by
  go_enter Try.func13, Try.ntmps13
  go_wp2
  go_ret
  exact ⟨rfl, rfl⟩
theorem end_nil (w : World) : Calls Try.prog 15 #[.pointer none] w fun e w' => e = .returned (.int .i64 1) ∧ w' = w := by
  go_enter Try.func15, Try.ntmps15
  go_wp2_with fail
  refine (reads_nil _).mono ?_
  rintro ex w2 ⟨rfl, rfl⟩
  go_wp2_with fail
  refine (err_nil _).mono ?_
  rintro ex w2 ⟨rfl, rfl⟩
  go_wp2_with fail
  go_ret
  exact ⟨rfl, rfl⟩
theorem open_nil (row : Nat) (there : Bool) (w : World) (hr : row < 64) : Calls Try.prog 37 #[.pointer none, .int .i64 row, .bool there] w fun e w' => e = .returned (.bool false) ∧ w' = w := by
  have p1 : decide ((row : Int) < 0) = false := decide_eq_false (by omega)
  have p2 : decide ((64 : Int) ≤ (row : Int)) = false := decide_eq_false (by omega)
  have p3 : decide (64 ≤ row) = false := decide_eq_false (by omega)
  cases there
  · go_enter Try.func37, Try.ntmps37
    go_wp2_with fail
    refine (fail_nil _ _).mono ?_
    rintro ex w2 ⟨rfl, rfl⟩
    go_wp2_with fail
    refine (err_nil _).mono ?_
    rintro ex w2 ⟨rfl, rfl⟩
    go_wp2_with fail
    go_ret
    exact ⟨rfl, rfl⟩
  · go_enter Try.func37, Try.ntmps37
    go_wp2_with fail
    refine (err_nil _).mono ?_
    rintro ex w2 ⟨rfl, rfl⟩
    go_wp2_with fail
    go_ret
    exact ⟨rfl, rfl⟩
theorem int_nil (p : Option Addr) (w : World) : Calls Try.prog 16 #[.pointer none, .int .i64 0, .pointer p] w fun e w' => e = .returned (.tuple #[]) ∧ w' = w := by
  have HO := Lib.hid (fun th w => open_nil 0 th w (by decide))
  cases p
  all_goals
    go_enter Try.func16, Try.ntmps16
    go_wp2_with fail
    refine (HO.out _ _).mono ?_
    rintro ex w2 ⟨rfl, rfl⟩
    go_wp2_with fail
    go_end0
    exact ⟨rfl, rfl⟩
theorem count_nil (w : World) : Calls Try.prog 17 #[.pointer none, .int .i64 0, .int .i64 1, .int .i64 2] w fun e w' => e = .returned (.int .i64 0) ∧ Below w.heap.size w w' := by
  go_enter Try.func17, Try.ntmps17
  go_wp2_with fail
  refine (int_nil _ _).mono ?_
  rintro ex w2 ⟨rfl, rfl⟩
  go_wp2_with fail
  refine (reads_nil _).mono ?_
  rintro ex w2 ⟨rfl, rfl⟩
  go_wp2_with fail
  refine (err_nil _).mono ?_
  rintro ex w2 ⟨rfl, rfl⟩
  go_wp2_with fail
  go_ret
  exact ⟨rfl, (Below.refl _ _).alloc (Nat.le_refl _) _⟩
end Go.Proofs.Ytdmiljaiglaacaa

/- The fixed case of layer 29. -/
namespace Go.Proofs.Ytdmiljaiglaacaa
open Go.RowKit Go.Maps

theorem PortS.congr {x : World} {base b : Nat} {tp : Value} {us : Nat → Value} {R R' : Nat → List Int} {rd : Bool} {e : Int} (h : PortS x base b tp us R rd e) (hR : ∀ t, t < 64 → R t = R' t) : PortS x base b tp us R' rd e :=
  ⟨h.box, fun t ht => by rw [← hR t ht]; exact h.rows t ht, h.apart, h.hb⟩
theorem PortS.same {x y : World} {base b : Nat} {tp : Value} {us : Nat → Value} {R : Nat → List Int} {rd : Bool} {e : Int} (h : PortS x base b tp us R rd e) (hs : ∀ g, base ≤ g → g < x.heap.size → y.heap[g]? = x.heap[g]?) : PortS y base b tp us R rd e := by
  refine ⟨?_, fun t ht => ?_, h.apart, h.hb⟩
  · have hl := h.box.lt
    obtain ⟨cs, h1, h2⟩ := h.box
    exact ⟨cs, (hs b h.hb hl).trans h1, h2⟩
  · have hr := h.rows t ht
    refine ⟨hr.1, ?_⟩
    rcases hr.2 with h2 | ⟨g, o, cap, cur, e1, e2, e3, e4⟩
    · exact .inl h2
    · exact .inr ⟨g, o, cap, cur, e1, e2, (hs g e2 (Array.getElem?_eq_some_iff.1 e3).1).trans e3, e4⟩
theorem rows_nrows {w' : World} {g : Nat} {R : Nat → List Int} {u : Nat → Value} {base : Nat} (h1 : w'.rowIs g 45 64 u) (h2 : ∀ t, t < 64 → ISub w' base (u t) (R t)) : NRows w' (some ⟨g, 0, none⟩) 64 ((List.range 64).map R) := by
  refine ⟨by simp, fun _ => ⟨g, 0, rfl, h1.lt, fun j l hj => ?_⟩⟩
  rw [List.getElem?_map] at hj
  cases hq : (List.range 64)[j]? with
  | none => rw [hq] at hj; cases hj
  | some z =>
    rw [hq] at hj
    cases hj
    obtain ⟨h3, h4⟩ := List.getElem?_eq_some_iff.1 hq
    simp at h3 h4
    subst h4
    rw [Nat.zero_add]
    exact ⟨u j, h1.cell h3, (h2 j h3).lower (Nat.zero_le _)⟩
theorem range_map_getD {R : Nat → List Int} {t : Nat} (ht : t < 64) : (if t < 64 then ((List.range 64).map R).getD t [] else []) = R t := by
  rw [if_pos ht, List.getD, List.getElem?_map, List.getElem?_range ht]
  rfl
def R0 : Nat → List Int := fun _ => []
theorem step_f1 : stepI false R0 0 3 5 = (upd R0 3 [5], 0, 5) := rfl
theorem step_f2 : stepI true (upd R0 3 [5]) 0 3 0 = (upd (upd R0 3 [5]) 3 [], 0, 5) := rfl
theorem step_f3 : stepI true (upd (upd R0 3 [5]) 3 []) 0 3 5 = (upd (upd R0 3 [5]) 3 [], 6, 5) := rfl
theorem step_f4 : (stepC false (upd R0 3 [5]) 0 2 7 3).2.2 = 7 := rfl
theorem left_f : leftB (upd (upd R0 3 [5]) 3 []) = false := leftB_false fun ⟨t, _, h⟩ => h (by
  unfold upd R0
  by_cases e : t = 3 <;> simp [e])
theorem upd_len {R : Nat → List Int} {t : Nat} {zs : List Int} {n : Nat} (h : ∀ t, (R t).length ≤ n) (hz : zs.length ≤ n) : ∀ k, (upd R t zs k).length ≤ n := fun k => by
  unfold upd
  split
  · exact hz
  · exact h k
set_option maxRecDepth 100000 in
set_option maxHeartbeats 8000000 in
theorem fixed_any (w : World) : Calls Try.prog 5 #[] w fun e w' => e = .returned (.bool true) ∧ Below w.heap.size w w' := by
  have hl0 : ∀ t, (R0 t).length ≤ 1000000 := fun t => by simp [R0]
  have hl1 : ∀ t, (upd R0 3 [5] t).length ≤ 1000000 := upd_len hl0 (by simp)
  have hl2 : ∀ t, (upd (upd R0 3 [5]) 3 [] t).length ≤ 1000000 := upd_len hl1 (by simp)
  have HL0 := Lib.hid hl0
  have HL1 := Lib.hid hl1
  have HL2 := Lib.hid hl2
  clear hl0 hl1 hl2
  go_enter Try.func5, Try.ntmps5
  go_wp2_with fail
  refine (writer_any none w).mono ?_
  rintro e w1 ⟨rfl, h1, hb1⟩
  have P1 := Lib.hid h1
  have K1 := Lib.hid hb1
  clear h1 hb1
  have k2 := Lib.hid ((Below.refl w1.heap.size w1).alloc (Nat.le_refl _) (.cells #[.int .i64 5] 3))
  have HI1 := Lib.hid (int_any 3 5 w1.heap.size 0 #[.int .i64 5] 3 (P1.out.grow k2.out) (heap_alloc_new _ _) rfl (P1.out.off (Nat.le_refl _)) P1.out.ble HL0.out)
  have HI := Lib.hid (show Calls _ _ _ _ (IntOk _ _ _ _ _ (upd R0 3 [5]) _ 0 _ _ _ _ (.int .i64 5)) from HI1.out)
  clear HI1
  go_wp2_with fail
  refine HI.out.mono ?_
  rintro e w3 ⟨rfl, ⟨us3, h3, us0, e0, f3⟩, _⟩
  have P3 := Lib.hid h3
  have K3 := Lib.hid ((K1.out.trans (k2.out.mono K1.out.size)).trans f3.below)
  have HR := Lib.hid (rows_any h3 HL1.out)
  clear h3 f3 P1 K1 k2 HI e0
  go_wp2_with fail
  refine HR.out.mono ?_
  rintro e w4 ⟨u, rfl, hrow, hsub, hb4⟩
  obtain ⟨A, c, eu, hx, _, _⟩ := hsub 3 (by decide)
  have c3 := hrow.cell (i := 3) (by decide)
  rw [eu] at c3
  have hx5 : Ints w4 A c [5] := hx
  obtain ⟨g, o, z, rfl, hgz, hz, c5⟩ := hx5.at_ (i := 0) (by simp)
  cases hz
  rw [Nat.add_zero] at c5
  have hrz := hrow.lt
  have P4 := Lib.hid (P3.out.grow hb4)
  have OFP := Lib.hid (fun g (hg : w4.heap.size ≤ g) => P4.out.off hg)
  have K4 := Lib.hid (K3.out.trans (hb4.mono K3.out.size))
  have HQ := Lib.hid (reader_any none (some ⟨w3.heap.size, 0, none⟩) 64 ((List.range 64).map (upd R0 3 [5])) w4 (rows_nrows hrow hsub) (fun e => by cases e) (by simp) (fun l hl => by
    obtain ⟨t, _, rfl⟩ := List.mem_map.1 hl
    exact HL1.out t))
  rw [List.length_map, List.length_range] at HQ
  rw [show upd R0 3 [5] 3 = [5] from rfl] at c3
  clear hrow hsub hb4 P3 K3 HR eu hx hx5
  go_wp2_with fail
  refine HQ.out.mono ?_
  rintro e w5 ⟨rfl, ⟨us5, h5⟩, hb5⟩
  have Q5 := Lib.hid (h5.congr (R' := upd R0 3 [5]) (fun t ht => range_map_getD ht))
  have B5 := Lib.hid hb5
  have k6 := Lib.hid ((Below.refl w5.heap.size w5).alloc (Nat.le_refl _) (.cells #[.int .i64 0] 3))
  have HOF := Lib.hid (Q5.out.off (Nat.le_refl w5.heap.size))
  have HI1 := Lib.hid (int_any 3 0 w5.heap.size 0 #[.int .i64 0] 3 (Q5.out.grow k6.out) (heap_alloc_new _ _) rfl HOF.out (Nat.le_trans hb5.size (Nat.le_refl _)) HL1.out)
  have HI := Lib.hid (show Calls _ _ _ _ (IntOk _ _ _ _ _ (upd (upd R0 3 [5]) 3 []) _ 0 _ _ _ _ (.int .i64 5)) from HI1.out)
  clear h5 hb5 HI1 c3 c5 hgz hrz HQ
  go_wp2_with fail
  refine HI.out.mono ?_
  rintro e w7 ⟨rfl, ⟨us7, h7, us0, rfl, f7⟩, g7⟩
  have Q7 := Lib.hid h7
  have B7 := Lib.hid ((k6.out.mono B5.out.size).trans f7.below)
  have O7 := Lib.hid (f7.off _ (by simp) HOF.out)
  have G7 := Lib.hid (show w7.heap[w5.heap.size]? = some (.cells #[.int .i64 5] 3 (0, 0)) from g7)
  have HE := Lib.hid (end_any h7)
  rw [if_neg (by rw [left_f]; simp)] at HE
  clear h7 f7 g7 HI k6 HOF Q5
  go_wp2_with fail
  refine HE.out.mono ?_
  rintro e w8 ⟨rfl, us8, h8, us0', rfl, f8⟩
  have Q8 := Lib.hid h8
  have B8 := Lib.hid (B7.out.trans f8.below)
  have hz7 := (Array.getElem?_eq_some_iff.1 G7.out).1
  have O8 := Lib.hid (f8.off _ hz7 O7.out)
  have G8 := Lib.hid ((f8.same _ hz7 O7.out (by simp)).trans G7.out)
  have HI1 := Lib.hid (int_any 3 5 w5.heap.size 0 #[.int .i64 5] 3 h8 G8.out rfl O8.out B5.out.size HL2.out)
  have HI := Lib.hid (show Calls _ _ _ _ (IntOk _ _ _ _ _ (upd (upd R0 3 [5]) 3 []) _ 6 _ _ _ _ (.int .i64 5)) from HI1.out)
  clear h8 f8 HE HI1 Q7 B7 O7 G7 hz7
  go_wp2_with fail
  refine HI.out.mono ?_
  rintro e w9 ⟨rfl, ⟨us9, h9, us0, rfl, f9⟩, g9⟩
  have Q9 := Lib.hid h9
  have B9 := Lib.hid (B8.out.trans f9.below)
  have g9' : w9.heap[w5.heap.size]? = some (.cells #[.int .i64 5] 3 (0, 0)) := g9
  have c9 : w9.cell? ⟨w5.heap.size, 0, none⟩ = some (.int .i64 5) := (blk_facts g9').1 0
  have z9 := (Array.getElem?_eq_some_iff.1 g9').1
  have BB := Lib.hid (B5.out.trans B9.out)
  have K9 := Lib.hid (K4.out.trans (BB.out.mono K4.out.size))
  have P9 := Lib.hid (P4.out.grow BB.out)
  have HE9 := Lib.hid (err_any h9)
  have HC := Lib.hid (fun (y : World) (hy : Below w9.heap.size w9 y) => count_any 2 7 3 (P9.out.grow hy) HL1.out)
  rw [step_f4] at HC
  clear h9 f9 g9 g9' HI P4 K4 B5 B8 O8 G8 Q8 B9 BB
  go_wp2_with fail
  refine HE9.out.mono ?_
  rintro e x ⟨rfl, rfl⟩
  go_wp2_with fail
  refine (HC.out _ (Below.refl _ _)).mono ?_
  rintro e w10 ⟨rfl, us10, h10, us0, rfl, f10⟩
  have P10 := Lib.hid h10
  have B10 := Lib.hid f10.below
  have F10 := Lib.hid f10
  clear h10 f10 HC
  have K10 := Lib.hid (K9.out.trans (B10.out.mono (Nat.le_refl _)))
  have Q10 := Lib.hid (Q9.out.same (y := w10) (fun g hg hgz => F10.out.same g hgz (OFP.out g hg) (by simp)))
  have HRQ := Lib.hid (reads_any Q10.out)
  have HRP := Lib.hid (reads_any P10.out)
  clear B10 K9 Q9 P9 OFP
  go_wp2_with fail
  refine HRQ.out.mono ?_
  rintro e x ⟨rfl, rfl⟩
  go_wp2_with fail
  refine HRP.out.mono ?_
  rintro e x ⟨rfl, rfl⟩
  go_wp2_with fail
  go_ret
  exact ⟨rfl, K10.out⟩
end Go.Proofs.Ytdmiljaiglaacaa

/- Layer 29's second law, plain: what goes through ports of an empty table. -/
namespace Go.Proofs.Ytdmiljaiglaacaa
open Go.RowKit Go.Maps

section
variable {R : Nat → List Int} {t : Th} {rd : Bool} {O : List Pv}
theorem sT {e row tag more : Int} {s : List UInt8} (h : pe e row true = 0) : stepT rd O R e row tag more s = ((stepV rd O R row.toNat ⟨tag, s, 0, [], [], []⟩ more (more == 0 || !decide (s = []))).1, (stepV rd O R row.toNat ⟨tag, s, 0, [], [], []⟩ more (more == 0 || !decide (s = []))).2.1,
    if (stepV rd O R row.toNat ⟨tag, s, 0, [], [], []⟩ more (more == 0 || !decide (s = []))).2.2.2 = true then (stepV rd O R row.toNat ⟨tag, s, 0, [], [], []⟩ more (more == 0 || !decide (s = []))).2.2.1.text else s) := by
  unfold stepT
  rw [if_neg (by simp [h])]
theorem v_write (row : Nat) (v : Pv) (more : Int) (there : Bool) : (stepV false [] R row v more there).2.1 = (if there = true then 8 else 0) ∧ (stepV false [] R row v more there).2.2 = (v, false) := by
  unfold stepV
  cases there <;> simp
theorem v_end (row : Nat) (v : Pv) (more : Int) (there : Bool) (h : R row = []) : stepV true O R row v more there = (R, 6, v, false) := by
  unfold stepV
  simp [h]
theorem v_lack (row : Nat) (v : Pv) (more : Int) (there : Bool) {n : Int} (h : R row = [n]) (hn : ¬ (more = 1 ∧ n = 0)) : stepV true [] R row v more there = (upd R row [], 5, Pv.zero, false) := by
  unfold stepV
  have hg : ∀ i, getAt [] v.tag i = none := fun i => by unfold getAt Pv.row; simp
  simp only [h, if_true]
  rw [if_neg hn, hg]
/-- What a writer of an empty table says. -/
theorem refuse_write (h0 : 0 ≤ t.row) (h1 : t.row < 64) : (stepTh false [] R 0 t).2.1 = (if t.wants = [] then 0 else 8) ∧ (stepTh false [] R 0 t).2.2 = t := by
  have hp := pe_in h0 h1
  unfold stepTh Th.wants
  have h7 : t.kind % 7 < 7 := Nat.mod_lt _ (by decide)
  generalize t.kind % 7 = q at h7 ⊢
  have hI : stepI false R 0 t.row t.n = (upd R t.row.toNat (R t.row.toNat ++ [t.n]), 0, t.n) := by
    unfold stepI
    rw [if_neg (by simp [hp]), if_neg (by simp)]
  have hT : ∀ (tag more : Int), (stepT false [] R 0 t.row tag more t.s).2.1 = (if (more == 0 || !decide (t.s = [])) = true then 8 else 0) ∧ (stepT false [] R 0 t.row tag more t.s).2.2 = t.s := fun tag more => by
    rw [sT hp]
    obtain ⟨a, b⟩ := v_write (R := R) t.row.toNat ⟨tag, t.s, 0, [], [], []⟩ more (more == 0 || !decide (t.s = []))
    refine ⟨a, ?_⟩
    simp only [b]
    simp
  obtain rfl | rfl | rfl | rfl | rfl | rfl | rfl : q = 0 ∨ q = 1 ∨ q = 2 ∨ q = 3 ∨ q = 4 ∨ q = 5 ∨ q = 6 := by omega
  · simp [hI]
  · obtain ⟨a, b⟩ := hT 1 0
    simp [a, b]
  · obtain ⟨a, b⟩ := hT 1 1
    refine ⟨?_, ?_⟩
    · show (stepT false [] R 0 t.row 1 1 t.s).2.1 = _
      rw [a]
      by_cases hs : t.s = [] <;> simp [hs]
    · show ({ t with s := (stepT false [] R 0 t.row 1 1 t.s).2.2 } : Th) = t
      rw [b]
  · obtain ⟨a, b⟩ := hT 7 0
    simp [a, b]
  · obtain ⟨a, b⟩ := hT 7 1
    refine ⟨?_, ?_⟩
    · show (stepT false [] R 0 t.row 7 1 t.s).2.1 = _
      rw [a]
      by_cases hs : t.s = [] <;> simp [hs]
    · show ({ t with s := (stepT false [] R 0 t.row 7 1 t.s).2.2 } : Th) = t
      rw [b]
  · have hY : (stepY false [] R 0 t.row t.v.tag t.v).2.1 = 8 ∧ (stepY false [] R 0 t.row t.v.tag t.v).2.2 = t.v := by
      unfold stepY
      rw [if_neg (by simp [hp])]
      obtain ⟨a, b⟩ := v_write (R := R) t.row.toNat t.v 0 true
      simp [a, b]
    simp [hY.1, hY.2]
  · have hC : stepC false R 0 t.row t.n 1000 = (upd R t.row.toNat (R t.row.toNat ++ [t.n]), 0, t.n) := by
      unfold stepC
      simp [hI]
    simp [hC]
/-- What a reader whose row is at its end says. -/
theorem refuse_end (h0 : 0 ≤ t.row) (h1 : t.row < 64) (hR : R t.row.toNat = []) : (stepTh true [] R 0 t).1 = R ∧ (stepTh true [] R 0 t).2.1 = 6 ∧ (t.kind % 7 ≠ 6 → (stepTh true [] R 0 t).2.2 = t) := by
  have hp := pe_in h0 h1
  unfold stepTh
  have h7 : t.kind % 7 < 7 := Nat.mod_lt _ (by decide)
  generalize t.kind % 7 = q at h7 ⊢
  have hI : stepI true R 0 t.row t.n = (R, 6, t.n) := by
    unfold stepI
    rw [if_neg (by simp [hp]), if_pos rfl]
    simp [hR]
  have hT : ∀ (tag more : Int), stepT true [] R 0 t.row tag more t.s = (R, 6, t.s) := fun tag more => by
    rw [sT hp, v_end _ _ _ _ hR]
    simp
  obtain rfl | rfl | rfl | rfl | rfl | rfl | rfl : q = 0 ∨ q = 1 ∨ q = 2 ∨ q = 3 ∨ q = 4 ∨ q = 5 ∨ q = 6 := by omega
  · simp [hI]
  · simp [hT]
  · simp [hT]
  · simp [hT]
  · simp [hT]
  · have hY : stepY true [] R 0 t.row t.v.tag t.v = (R, 6, t.v) := by
      unfold stepY
      rw [if_neg (by simp [hp]), v_end _ _ _ _ hR]
      simp
    simp [hY]
  · have hC : (stepC true R 0 t.row t.n 1000).1 = R ∧ (stepC true R 0 t.row t.n 1000).2.1 = 6 := by
      unfold stepC
      rw [hI]
      refine ⟨rfl, ?_⟩
      show (if _ then fe 6 5 else (6 : Int)) = 6
      split <;> rfl
    exact ⟨hC.1, hC.2, fun h => absurd rfl h⟩
/-- What a reader says of a number that the table lacks. -/
theorem refuse_lack (h0 : 0 ≤ t.row) (h1 : t.row < 64) {n : Int} (hR : R t.row.toNat = [n]) (hw : t.wants ≠ []) (hn : ¬ ((t.kind % 7 = 2 ∨ t.kind % 7 = 4) ∧ n = 0)) : (stepTh true [] R 0 t).2.1 = 5 := by
  have hp := pe_in h0 h1
  unfold stepTh
  unfold Th.wants at hw
  have h7 : t.kind % 7 < 7 := Nat.mod_lt _ (by decide)
  generalize t.kind % 7 = q at h7 hw hn ⊢
  have hT : ∀ (tag more : Int), ¬ (more = 1 ∧ n = 0) → (stepT true [] R 0 t.row tag more t.s).2.1 = 5 := fun tag more h => by
    rw [sT hp, v_lack _ _ _ _ hR h]
  obtain rfl | rfl | rfl | rfl | rfl | rfl | rfl : q = 0 ∨ q = 1 ∨ q = 2 ∨ q = 3 ∨ q = 4 ∨ q = 5 ∨ q = 6 := by omega
  · exact absurd rfl hw
  · exact hT 1 0 (by omega)
  · exact hT 1 1 (by omega)
  · exact hT 7 0 (by omega)
  · exact hT 7 1 (by omega)
  · show (stepY true [] R 0 t.row t.v.tag t.v).2.1 = 5
    unfold stepY
    rw [if_neg (by simp [hp]), v_lack _ _ _ _ hR (by omega)]
  · exact absurd rfl hw
theorem pe_shut {row : Int} {there : Bool} : pe 6 row there = 6 := by
  unfold pe
  split <;> rfl
/-- Behind an error nothing goes through. -/
theorem refuse_shut : (stepTh rd O R 6 t).1 = R ∧ (stepTh rd O R 6 t).2.1 = 6 ∧ (t.kind % 7 ≠ 6 → (stepTh rd O R 6 t).2.2 = t) := by
  have hI : stepI rd R 6 t.row t.n = (R, 6, t.n) := by
    unfold stepI
    rw [if_pos (by rw [pe_shut]; decide), pe_shut]
  have hT : ∀ (tag more : Int), stepT rd O R 6 t.row tag more t.s = (R, 6, t.s) := fun tag more => by
    unfold stepT
    rw [if_pos (by rw [pe_shut]; decide), pe_shut]
  unfold stepTh
  have h7 : t.kind % 7 < 7 := Nat.mod_lt _ (by decide)
  generalize t.kind % 7 = q at h7 ⊢
  obtain rfl | rfl | rfl | rfl | rfl | rfl | rfl : q = 0 ∨ q = 1 ∨ q = 2 ∨ q = 3 ∨ q = 4 ∨ q = 5 ∨ q = 6 := by omega
  · simp [hI]
  · simp [hT]
  · simp [hT]
  · simp [hT]
  · simp [hT]
  · have hY : stepY rd O R 6 t.row t.v.tag t.v = (R, 6, t.v) := by
      unfold stepY
      rw [if_pos (by rw [pe_shut]; decide), pe_shut]
    simp [hY]
  · have hC : (stepC rd R 6 t.row t.n 1000).1 = R ∧ (stepC rd R 6 t.row t.n 1000).2.1 = 6 := by
      unfold stepC
      rw [hI]
      refine ⟨rfl, ?_⟩
      show (if _ then fe 6 5 else (6 : Int)) = 6
      split <;> rfl
    exact ⟨hC.1, hC.2, fun h => absurd rfl h⟩
/-- A number for whatever row, at a writer. -/
theorem write_zero (row : Int) : (stepTh false [] R0 0 ⟨0, row, 0, [], Pv.zero⟩).2.1 = pe 0 row true := by
  show (stepI false R0 0 row 0).2.1 = _
  unfold stepI
  split
  · rfl
  · next h => rw [if_neg (by simp)]; exact (show pe 0 row true = 0 by simpa using h).symm
end
section
variable {x : World} {base b : Nat} {tp : Value} {us : Nat → Value} {R : Nat → List Int} {rd : Bool}
theorem int_shut (row : Int) (p : Addr) (h : PortS x base b tp us R rd 6) :
    Calls Try.prog 16 #[.pointer (some ⟨b, 0, none⟩), .int .i64 row, .pointer (some p)] x fun ex y => ex = .returned (.tuple #[]) ∧ PortTo x base b tp us R rd 6 none y := by
  have HP := Lib.hid (open_any row true h)
  have H := Lib.hid h
  rw [pe_shut] at HP
  rw [show ((6 : Int) == 0) = false from rfl] at HP
  clear h
  go_enter Try.func16, Try.ntmps16
  go_wp2_with fail
  refine HP.out.mono ?_
  rintro ex x1 ⟨rfl, h1, hg1⟩
  have H1 := Lib.hid h1
  have F1 := Lib.hid (Frm.box (o := none) (us := us) H.out.hb H.out.ble hg1)
  clear h1 hg1 HP
  go_wp2_with fail
  go_end0
  exact ⟨rfl, PortTo.of H1.out F1.out⟩
end
end Go.Proofs.Ytdmiljaiglaacaa

/- Rows of things of the call's own; what stands in a port's rows. -/
namespace Go.Proofs.Ytdmiljaiglaacaa
open Go.RowKit Go.Maps

def thc : List Th → List Value
  | [] => []
  | t :: l => (tcells t).toList ++ thc l
theorem tcells_len (t : Th) : (tcells t).toList.length = 10 := rfl
theorem thc_length : ∀ l : List Th, (thc l).length = l.length * 10
  | [] => rfl
  | t :: l => by simp only [thc, List.length_append, tcells_len, List.length_cons, thc_length l]; omega
theorem thc_one : ∀ l : List Th, ∀ u ∈ thc l, u.oneCell' = true
  | [], u, h => by simp [thc] at h
  | t :: l, u, h => by
    simp only [thc, List.mem_append] at h
    rcases h with h | h
    · simp only [tcells, List.mem_cons, List.not_mem_nil, or_false] at h
      rcases h with rfl | rfl | rfl | rfl | rfl | rfl | rfl | rfl | rfl | rfl <;> rfl
    · exact thc_one l u h
theorem thc_get : ∀ {l : List Th} {i : Nat} {t : Th} {k : Nat}, l[i]? = some t → k < 10 → (thc l)[i * 10 + k]? = (tcells t)[k]?
  | [], i, t, k, h, _ => by simp at h
  | q :: l, 0, t, k, h, hk => by
    simp at h
    subst h
    simp only [thc, Nat.zero_mul, Nat.zero_add]
    rw [List.getElem?_append_left (by rw [tcells_len]; exact hk), Array.getElem?_toList]
  | q :: l, i + 1, t, k, h, hk => by
    have := thc_get (l := l) (i := i) (t := t) (k := k) (by simpa using h) hk
    simp only [thc]
    rw [List.getElem?_append_right (by rw [tcells_len]; omega), tcells_len, show (i + 1) * 10 + k - 10 = i * 10 + k from by omega]
    exact this
theorem infoThing : (Try.prog.info? 30).map (fun i => (i.zero, i.size, i.bytes)) = some (some (tv Th.zero), 10, 120) := by kernel_rfl
def TRow (w : World) (base : Nat) (v : Value) (l : List Th) : Prop := w.ownsRow base 30 10 v l.length (thc l)
theorem tfresh0 {x : World} {B base : Nat} (h : x.heap[B]? = some (.cells #[] 30 (0, 0))) (hb : base ≤ B) : TRow x base (.slice (some ⟨B, 0, none⟩) 0 0) [] :=
  ⟨rfl, .inr ⟨B, 0, #[], rfl, hb, h, Nat.le_refl _, by unfold maxLen; omega, rfl, rfl⟩⟩
theorem TAt.get {w : World} {g o : Nat} {t : Th} (h : TAt w g o t) {k : Nat} (hk : k < 10) : w.cell? ⟨g, o + k, none⟩ = (tcells t)[k]? := by
  obtain ⟨⟨h0, h1, h2, h3⟩, h4, h5, h6, h7, h8, h9⟩ := h
  obtain rfl | rfl | rfl | rfl | rfl | rfl | rfl | rfl | rfl | rfl : k = 0 ∨ k = 1 ∨ k = 2 ∨ k = 3 ∨ k = 4 ∨ k = 5 ∨ k = 6 ∨ k = 7 ∨ k = 8 ∨ k = 9 := by omega
  all_goals assumption
theorem Ths.src {w : World} {A : Option Addr} {c : Nat} {l : List Th} (h : Ths w A c l) : Src Try.prog 10 22 (.slice A l.length c) l.length (thc l) w := by
  cases l with
  | nil =>
    cases A with
    | none => exact Src.ofNil w Try.underlying22 c
    | some a => exact Src.ofSlice w Try.underlying22 a 0 c [] rfl (fun j u hu => by simp at hu) (fun u hu => by cases hu)
  | cons y ys =>
    obtain ⟨g, o, rfl, hg, hc⟩ := h.2 (by simp)
    refine Src.ofSlice w Try.underlying22 ⟨g, o, none⟩ _ c _ (thc_length _) (fun j u hu => ?_) (thc_one _)
    have hj : j < (thc (y :: ys)).length := (List.getElem?_eq_some_iff.1 hu).1
    rw [thc_length] at hj
    have hi : j / 10 < (y :: ys).length := by omega
    have hx := List.getElem?_eq_getElem hi
    have h1 := thc_get (k := j % 10) hx (Nat.mod_lt _ (by decide))
    rw [show j / 10 * 10 + j % 10 = j by omega, hu] at h1
    have h2 := (hc _ _ hx).get (k := j % 10) (Nat.mod_lt _ (by decide))
    rw [← h1, show o + j / 10 * 10 + j % 10 = o + j by omega] at h2
    rw [off_addr]
    exact h2
theorem wpList_appT {w : World} {ops : Array Oper} {rest : List Oper} {o : Oper} {a : Act} {Q : Exit → Act → World → Prop} (hgd : o.guard = none) (s x : Operand)
    (ho : o.op = .call { callee := .builtin .append, args := #[s, x], argTypes := #[22, 22] })
    (base : Nat) (v : Value) (hv : a.eval s = v) (hown : TRow w base v []) (X : Value) (ys : List Th) (hX : a.eval x = X)
    (hs : Src Try.prog 10 22 X ys.length (thc ys) w) (hn : ys.length ≤ 1000000000) (hbase : base ≤ w.heap.size)
    (h : ∀ v' w', TRow w' base v' ys → Hop w w' v.ownBlock v'.ownBlock → wpList Try.prog ops Q rest (a.put o.dst v') w') : wpList Try.prog ops Q (o :: rest) a w := by
  obtain ⟨i0, hi, hz0, hz1, hz2⟩ := info_parts infoThing
  refine wpList_append_row hgd s x 22 22 ho base 30 i0 _ 10 120 Try.underlying22 hi hz0 hz1 hz2 rfl v 0 [] hv hown X ys.length (thc ys) hX (fun v' w' h1 h2 => h v' w' (by rw [Nat.zero_add, List.nil_append] at h1; exact h1) h2) hs ?_ ?_ hbase
  · unfold maxLen; omega
  · omega
/-- A block of things. -/
def TBlk (w : World) (g : Nat) (l : List Th) : Prop := ∃ cur : Array Value, w.heap[g]? = some (.cells cur 30 (0, 0)) ∧ ∀ i t k, l[i]? = some t → k < 10 → cur[i * 10 + k]? = (tcells t)[k]?
theorem TBlk.of {w : World} {base g n c : Nat} {l : List Th} (h : TRow w base (.slice (some ⟨g, 0, none⟩) n c) l) : TBlk w g l ∧ base ≤ g := by
  rcases h.2 with ⟨e, _⟩ | ⟨g', cap, cur, e, h1, h2, h3, h4, h5, h6⟩
  · cases e
  · cases e
    refine ⟨⟨cur, h2, fun i t k ht hk => ?_⟩, h1⟩
    have hil := (List.getElem?_eq_some_iff.1 ht).1
    have h7 := thc_get ht hk
    rw [← h6, List.getElem?_take_of_lt (by omega), Array.getElem?_toList] at h7
    exact h7
theorem TBlk.lt {w : World} {g : Nat} {l : List Th} (h : TBlk w g l) : g < w.heap.size := by
  obtain ⟨cur, h1, _⟩ := h
  exact (Array.getElem?_eq_some_iff.1 h1).1
theorem TBlk.same {w w' : World} {g : Nat} {l : List Th} (h : TBlk w g l) (k : w'.heap[g]? = w.heap[g]?) : TBlk w' g l := by
  obtain ⟨cur, h1, h2⟩ := h
  exact ⟨cur, k.trans h1, h2⟩
theorem TBlk.at_ {w : World} {g : Nat} {l : List Th} (h : TBlk w g l) {i : Nat} {t : Th} (ht : l[i]? = some t) : TAt w g (i * 10) t := by
  obtain ⟨cur, h1, h2⟩ := h
  have hc := fun k (hk : k < 10) => (cell_of_row w g (i * 10 + k) cur 30 (0, 0) h1).trans (h2 i t k ht hk)
  exact ⟨⟨hc 0 (by decide), hc 1 (by decide), hc 2 (by decide), hc 3 (by decide)⟩, hc 4 (by decide), hc 5 (by decide), hc 6 (by decide), hc 7 (by decide), hc 8 (by decide), hc 9 (by decide)⟩
theorem TBlk.frozen {w : World} {g : Nat} {l : List Th} (h : TBlk w g l) (j : Nat) : w.frozen? ⟨g, j, none⟩ = false := by
  obtain ⟨cur, h1, _⟩ := h
  exact (blk_facts h1).2 j
/-- A thing's row is stored anew. -/
theorem TBlk.set {w : World} {g : Nat} {l : List Th} (h : TBlk w g l) {i : Nat} {t : Th} (ht : l[i]? = some t) (r : Int) : TBlk (w.setCell ⟨g, i * 10 + 1, none⟩ (.int .i64 r)) g (l.set i { t with row := r }) := by
  obtain ⟨cur, h1, h2⟩ := h
  refine ⟨cur.setIfInBounds (i * 10 + 1) (.int .i64 r), heap_set h1 _, fun j u k hu hk => ?_⟩
  have hb : i * 10 + 1 < cur.size := (Array.getElem?_eq_some_iff.1 (h2 i t 1 ht (by decide))).1
  rw [Array.getElem?_setIfInBounds]
  rw [List.getElem?_set] at hu
  by_cases e : i = j
  · subst e
    rw [if_pos rfl, if_pos (List.getElem?_eq_some_iff.1 ht).1] at hu
    cases hu
    by_cases e2 : k = 1
    · subst e2
      rw [if_pos rfl, if_pos hb]
      rfl
    · rw [if_neg (by omega), h2 i t k ht hk]
      obtain rfl | rfl | rfl | rfl | rfl | rfl | rfl | rfl | rfl : k = 0 ∨ k = 2 ∨ k = 3 ∨ k = 4 ∨ k = 5 ∨ k = 6 ∨ k = 7 ∨ k = 8 ∨ k = 9 := by omega
      all_goals rfl
  · rw [if_neg e] at hu
    rw [if_neg (by omega)]
    exact h2 j u k hu hk
/-- What stands in the rows behind some things. -/
def rowsT (O : List Pv) (l : List Th) : Nat → List Int := fun k => (l.filter fun t => decide (t.row.toNat = k)).map (Th.num O)
theorem rowsT_nil (O : List Pv) : rowsT O [] = fun _ => [] := rfl
theorem rowsT_snoc {O : List Pv} {l : List Th} {i : Nat} {t : Th} (h : l[i]? = some t) : upd (rowsT O (l.take i)) t.row.toNat (rowsT O (l.take i) t.row.toNat ++ [t.num O]) = rowsT O (l.take (i + 1)) := by
  obtain ⟨h1, rfl⟩ := List.getElem?_eq_some_iff.1 h
  funext k
  unfold upd rowsT
  rw [List.take_succ_eq_append_getElem h1, List.filter_append, List.map_append]
  by_cases e : k = (l[i]).row.toNat
  · subst e
    rw [if_pos rfl]
    simp
  · rw [if_neg e]
    have e' : ¬ (l[i]).row.toNat = k := fun h => e h.symm
    simp [e']
theorem rowsT_next {O : List Pv} {l : List Th} {i : Nat} {t : Th} (h : l[i]? = some t) : rowsT O (l.drop i) t.row.toNat = t.num O :: rowsT O (l.drop (i + 1)) t.row.toNat ∧ upd (rowsT O (l.drop i)) t.row.toNat (rowsT O (l.drop (i + 1)) t.row.toNat) = rowsT O (l.drop (i + 1)) := by
  obtain ⟨h1, rfl⟩ := List.getElem?_eq_some_iff.1 h
  rw [List.drop_eq_getElem_cons h1]
  generalize List.drop (i + 1) l = r
  constructor
  · simp [rowsT]
  · funext k
    unfold upd rowsT
    by_cases e : k = (l[i]).row.toNat
    · subst e
      rw [if_pos rfl]
    · rw [if_neg e]
      have e' : ¬ (l[i]).row.toNat = k := fun h => e h.symm
      simp [e']
theorem rowsT_len (O : List Pv) (l : List Th) (k : Nat) : (rowsT O l k).length ≤ l.length := by
  unfold rowsT
  rw [List.length_map]
  exact List.length_filter_le ..
end Go.Proofs.Ytdmiljaiglaacaa

/- The walks of layer 28: an empty table; a value more. -/
namespace Go.Proofs.Ytdmiljaiglaacaa
open Go.RowKit Go.Maps

set_option maxRecDepth 100000 in
theorem start_any (w : World) : Calls Try.prog 23 #[] w fun e w' => ∃ us, e = .returned (.pointer (some ⟨w.heap.size + 1, 0, none⟩)) ∧ TabS w' w.heap.size (w.heap.size + 1) w.heap.size 0 us (fun _ => []) (fun _ => 0) (fun _ => false) ∧ Below w.heap.size w w' := by
  have hmm := @run_makeMap Try.prog
  have k0 := (Below.refl w.heap.size w).alloc (Nat.le_refl _) (.map #[] 0)
  have k1 := Lib.hid (k0.alloc k0.size (.cells #[.slice none 0 0, .slice none 0 0, .slice none 0 0, .slice none 0 0, .slice none 0 0, .slice none 0 0, .slice none 0 0, .slice none 0 0, .slice none 0 0, .slice none 0 0, .slice none 0 0, .slice none 0 0, .slice none 0 0, .map (some w.heap.size)] 89))
  have T := Lib.hid (show TabS ((w.alloc (.map #[] 0)).alloc (.cells #[.slice none 0 0, .slice none 0 0, .slice none 0 0, .slice none 0 0, .slice none 0 0, .slice none 0 0, .slice none 0 0, .slice none 0 0, .slice none 0 0, .slice none 0 0, .slice none 0 0, .slice none 0 0, .slice none 0 0, .map (some w.heap.size)] 89)) w.heap.size (w.heap.size + 1) w.heap.size 0 (fun _ => .slice none 0 0) (fun _ => []) (fun _ => 0) (fun _ => false) from
    ⟨⟨_, heap_alloc2_new w (.map #[] 0) _, rfl, (fun t ht => by
      obtain rfl | rfl | rfl | rfl | rfl | rfl | rfl | rfl | rfl | rfl | rfl | rfl | rfl : t = 0 ∨ t = 1 ∨ t = 2 ∨ t = 3 ∨ t = 4 ∨ t = 5 ∨ t = 6 ∨ t = 7 ∨ t = 8 ∨ t = 9 ∨ t = 10 ∨ t = 11 ∨ t = 12 := by omega
      all_goals rfl), rfl⟩, fun t _ => VRow.nil _ _, (fun s t _ _ _ k hk => by cases hk), (VTab.made w).grow ((Below.refl _ _).alloc (Nat.le_refl _) _), by omega, Nat.le_refl _⟩)
  clear k0
  go_enter Try.func23, Try.ntmps23
  go_wp2
  go_ret
  exact ⟨_, rfl, T.out, k1.out⟩
set_option maxRecDepth 100000 in
set_option maxHeartbeats 4000000 in
theorem add_aux (base b m n t : Nat) (us : Nat → Value) (R : Nat → List Pv) (f : Pv → Int) (S : Pv → Bool) (text : List UInt8) (bits : Nat) (cls name desc : List UInt8) (v : Pv) (he : v = ⟨(t : Int), text, bits, cls, name, desc⟩) (w : World) (h : TabS w base b m n us R f S) (hv : v.fits) (ht2 : 1 ≤ t ∧ t ≤ 12) (hn : n ≤ 1000000) (hl : (R t).length ≤ 1000000) :
    Calls Try.prog 27 #[.pointer (some ⟨b, 0, none⟩), .agg #[.int .i64 t, .string (bs text), .int .u64 bits, .string (bs cls), .string (bs name), .string (bs desc)]] w fun e w' => e = .returned (.tuple #[]) ∧ (∃ us', TabS w' base b m (n + 1) us' (fun k => if k = t then R t ++ [v] else R k) (fun u => if u = v then ((R t).length : Int) else f u) (fun u => decide (u = v) || S u) ∧ ∀ s k, (us' s).ownBlock = some k → (us s).ownBlock = some k ∨ w.heap.size ≤ k) ∧ (∀ k, k < w.heap.size → k ≠ b → k ≠ m → (us t).ownBlock ≠ some k → w'.heap[k]? = w.heap[k]?) ∧ Below base w w' := by
  have k0 := Lib.hid ((Below.refl w.heap.size w).alloc (Nat.le_refl _) (.cells #[.int .i64 t, .string (bs text), .int .u64 bits, .string (bs cls), .string (bs name), .string (bs desc)] 28))
  have q0 := Lib.hid (vbox_new w ⟨(t : Int), text, bits, cls, name, desc⟩)
  have HE := Lib.hid he
  clear he
  have T0 := Lib.hid (h.grow k0.out)
  have hwb : base ≤ w.heap.size := Nat.le_trans h.hb (Nat.le_of_lt h.box.lt)
  have htl : t < 13 := by omega
  have HLT := Lib.hid (fun k (hk : (us t).ownBlock = some k) => (World.ownsRow.lt (h.rows t htl) k hk).2)
  clear h
  go_enter Try.func27, Try.ntmps27
  go_wp2_with fail
  generalize w.alloc (.cells #[.int .i64 t, .string (bs text), .int .u64 bits, .string (bs cls), .string (bs name), .string (bs desc)] 28) = W at k0 q0 T0 ⊢
  obtain ⟨A, c, eu, hV0, hA0⟩ := (T0.out.rows t htl).reads
  clear hV0 hA0
  have m1 := T0.out.box.map
  have r1 := T0.out.box.cell htl
  rw [eu] at r1
  obtain ⟨d0, d1, d2, d3, d4, d5⟩ := q0.out.at_
  dsimp only at d0 d1 d2 d3 d4 d5
  have hz := q0.out.lt
  have hbz := T0.out.box.lt
  have i1 : (t : Int) < 13 := by omega
  have i2 : decide (t < 13) = true := decide_eq_true htl
  have EU := Lib.hid eu
  clear eu
  refine wp_region_draw_tail 13 (by kernel_rfl) (by kernel_rfl) ?_
  simp only [List.take_succ_cons, List.take_zero, List.drop_succ_cons, List.drop_zero]
  repeat (go_big_quiet_step (fail))
  refine wpQuiet_nil ?_
  intro q1
  obtain ⟨x4, e4⟩ : ∃ x4, x4 = W.drewN q1 := ⟨_, rfl⟩
  have T4 := Lib.hid (show TabS x4 base b m n us R f S from by rw [e4]; exact T0.out.grow (below_drewN (Below.refl _ _) q1))
  have q4 := Lib.hid (show VBox x4 w.heap.size ⟨(t : Int), text, bits, cls, name, desc⟩ from by rw [e4]; exact q0.out)
  have k4 := Lib.hid (show Below w.heap.size w x4 from by rw [e4]; exact below_drewN k0.out q1)
  rw [← e4]
  have hvv : Value.agg #[.int .i64 (t : Int), .string (bs text), .int .u64 bits, .string (bs cls), .string (bs name), .string (bs desc)] = vv v := by rw [HE.out]; rfl
  have HVV := Lib.hid hvv
  have HI := Lib.hid (show I64 ((R t).length : Int) by unfold I64; omega)
  have HNM := Lib.hid (show n < maxLen by unfold maxLen; omega)
  have HFK := Lib.hid hv.k
  clear e4 d0 d1 d2 d3 d4 d5 hz hbz m1 r1 T0 q0 k0 hvv
  go_wp2_with (at_mapUpdate; refine wpList_tabPut rfl _ _ _ rfl m n f S v (R t).length rfl T4.out.num HNM.out HFK.out HVV.out rfl HI.out ?_; intro x5 hn5 hg5)
  have T5 := Lib.hid (T4.out.nums hn5 hg5)
  have hm5 : m ≠ w.heap.size := T4.out.num.ne q4.out
  have q5 := Lib.hid ((hg5.block _ q4.out.lt (fun e => hm5 (Option.some.inj e).symm)).trans q4.out)
  have k5 := Lib.hid (show Below base w x5 from (k4.out.mono hwb).grown hg5 (Nat.le_trans hwb k4.out.size) (fun j hj => by cases hj; exact T4.out.hm))
  have H5 := Lib.hid (show ∀ k, k < w.heap.size → k ≠ m → x5.heap[k]? = w.heap[k]? from fun k hk hm => (hg5.block k (Nat.lt_of_lt_of_le hk k4.out.size) (fun e => hm (Option.some.inj e))).trans (k4.out.block k hk))
  have hw5 : w.heap.size ≤ x5.heap.size := Nat.le_trans k4.out.size hg5.size
  clear hn5 hg5 hm5 T4 q4 k4
  have hrw := T5.out.rows t htl
  have hcl := T5.out.box.cell htl
  rw [EU.out] at hrw hcl
  have RW := Lib.hid hrw
  have hfz := T5.out.box.frozen t
  have hbz := T5.out.box.lt
  obtain ⟨d0, d1, d2, d3, d4, d5⟩ := VBox.at_ (v := ⟨(t : Int), text, bits, cls, name, desc⟩) q5.out
  dsimp only at d0 d1 d2 d3 d4 d5
  have hz : w.heap.size < x5.heap.size := (Array.getElem?_eq_some_iff.1 q5.out).1
  clear hrw
  have HSRC := Lib.hid (fun (y : World) (B : Nat) (hb : y.heap[B]? = some (.cells #[.int .i64 (t : Int), .string (bs text), .int .u64 bits, .string (bs cls), .string (bs name), .string (bs desc)] 28 (0, 0))) => (show Src Try.prog 6 25 (.slice (some ⟨B, 0, none⟩) 1 1) 1 (vc [v]) y from by
    rw [HE.out]
    exact src_val (v := ⟨(t : Int), text, bits, cls, name, desc⟩) hb 1))
  have FA := Lib.hid (show ∀ (v7 : Value) (x7 : World), VRow x7 base v7 (R t ++ [v]) → Hop (x5.drew.alloc (.cells #[.int .i64 (t : Int), .string (bs text), .int .u64 bits, .string (bs cls), .string (bs name), .string (bs desc)] 28)) x7 (Value.slice A (R t).length c).ownBlock v7.ownBlock →
      (x7.cell? ⟨b, t, none⟩ = some (.slice A (R t).length c) ∧ x7.frozen? ⟨b, t, none⟩ = false ∧ b < x7.heap.size ∧ x7.cell? ⟨w.heap.size, 0, none⟩ = some (.int .i64 (t : Int)) ∧ w.heap.size < x7.heap.size) ∧ ∃ A7 d7, v7 = .slice A7 ((R t).length + 1) d7 from fun v7 x7 hr7 hp7 => by
    have hx7 : Below x5.heap.size x5 (x5.drew.alloc (.cells #[.int .i64 (t : Int), .string (bs text), .int .u64 bits, .string (bs cls), .string (bs name), .string (bs desc)] 28)) := (Below.refl _ _).drew.alloc (Nat.le_refl _) _
    have hb7 : TBox x7 b us m := TBox.kept (T5.out.box.keep hx7 T5.out.box.lt) hp7.1 ((T5.out.box.keep hx7 T5.out.box.lt).apart (RW.out.grow hx7) rfl)
    have c7 := hb7.cell htl
    rw [EU.out] at c7
    have q7 := (hp7.1.block w.heap.size (by simp; omega) (fun e => by
      have h1 := HLT.out w.heap.size (by rw [EU.out]; exact e.symm)
      omega)).trans (VBox.keep (v := ⟨(t : Int), text, bits, cls, name, desc⟩) q5.out hx7 hz)
    obtain ⟨A7, d7, e7, _, _⟩ := hr7.reads
    rw [List.length_append] at e7
    exact ⟨⟨c7, hb7.frozen t, hb7.lt, (VBox.at_ (v := ⟨(t : Int), text, bits, cls, name, desc⟩) q7).1, (Array.getElem?_eq_some_iff.1 q7).1⟩, A7, d7, e7⟩)
  go_region_law ((refine step_appV rfl _ _ rfl base _ (R t) rfl (RW.out.grow (by (repeat (first | exact Below.refl _ _ | refine Below.drew ?_ | refine Below.alloc ?_ ?_ _)); (all_goals (first | omega | (simp; done) | (simp; omega))))) _ [v] rfl (HSRC.out _ _ (heap_alloc_new _ _)) (by simp; omega) (by first | exact k5.out.size | (have := k5.out.size; simp; omega)) ?_; intro v7 x7 hr7 hp7; obtain ⟨⟨c7, f7, z7, g0, gz⟩, A7, d7, e7⟩ := FA.out v7 x7 hr7 hp7; subst e7))
  all_goals
    have hx7 : Below x5.heap.size x5 (x5.drew.alloc (.cells #[.int .i64 (t : Int), .string (bs text), .int .u64 bits, .string (bs cls), .string (bs name), .string (bs desc)] 28)) := (Below.refl _ _).drew.alloc (Nat.le_refl _) _
    have hp8 := hp7
    rw [← EU.out] at hp8
    have TF := Lib.hid ((T5.out.grow hx7).put htl hr7 hp8)
    have BF := Lib.hid (show Below base w (x7.setCell ⟨b, t, none⟩ (.slice A7 ((R t).length + 1) d7)) from ((k5.out.trans (hx7.mono (Nat.le_trans hwb k5.out.size))).trans (hp7.below (Nat.le_trans (Nat.le_trans hwb k5.out.size) hx7.size) (fun k hk => RW.out.base_le hk))).setCell (p := ⟨b, t, none⟩) T5.out.hb _)
    have FR := Lib.hid (show ∀ k, k < w.heap.size → k ≠ b → k ≠ m → (us t).ownBlock ≠ some k → (x7.setCell ⟨b, t, none⟩ (.slice A7 ((R t).length + 1) d7)).heap[k]? = w.heap[k]? from fun k hk hkb hkm hku => by
      have hb7 : TBox x7 b us m := TBox.kept (T5.out.box.keep hx7 T5.out.box.lt) hp7.1 ((T5.out.box.keep hx7 T5.out.box.lt).apart (RW.out.grow hx7) rfl)
      have h1 : k < x5.heap.size := Nat.lt_of_lt_of_le hk hw5
      have h2 := Nat.lt_of_lt_of_le h1 hx7.size
      refine ((hb7.turned t _).block k (Nat.lt_of_lt_of_le h2 hp7.1.size) (fun e => hkb (Option.some.inj e))).trans ((hp7.1.block k h2 (fun e => hku (by rw [EU.out]; exact e.symm))).trans ((hx7.block k h1).trans (H5.out k hk hkm)))
      )
    have NU := Lib.hid (show ∀ s k, ((fun s => if s = t then Value.slice A7 ((R t).length + 1) d7 else us s) s).ownBlock = some k → (us s).ownBlock = some k ∨ w.heap.size ≤ k from fun s k hk => by
      dsimp only at hk
      by_cases e : s = t
      · subst e
        rw [if_pos rfl] at hk
        rcases hp8.2 with h2 | ⟨q, hq, h2⟩
        · exact .inl (h2 ▸ hk)
        · rw [h2] at hk
          cases hk
          exact .inr (Nat.le_trans hw5 (Nat.le_trans hx7.size hq))
      · rw [if_neg e] at hk
        exact .inl hk)
    clear hx7 hp8 hr7 hp7 FA HSRC c7 f7 z7 g0 gz d0 d1 d2 d3 d4 d5 hz hbz hfz hcl
    go_wp2_with fail
    go_end0
    exact ⟨rfl, ⟨_, TF.out, NU.out⟩, FR.out, BF.out⟩
/-- A value more. -/
theorem add_any (base b m n t : Nat) (us : Nat → Value) (R : Nat → List Pv) (f : Pv → Int) (S : Pv → Bool) (v : Pv) (w : World) (h : TabS w base b m n us R f S) (hv : v.fits) (ht : v.tag = (t : Int)) (ht2 : 1 ≤ t ∧ t ≤ 12) (hn : n ≤ 1000000) (hl : (R t).length ≤ 1000000) :
    Calls Try.prog 27 #[.pointer (some ⟨b, 0, none⟩), vv v] w fun e w' => e = .returned (.tuple #[]) ∧ (∃ us', TabS w' base b m (n + 1) us' (fun k => if k = t then R t ++ [v] else R k) (fun u => if u = v then ((R t).length : Int) else f u) (fun u => decide (u = v) || S u) ∧ ∀ s k, (us' s).ownBlock = some k → (us s).ownBlock = some k ∨ w.heap.size ≤ k) ∧ (∀ k, k < w.heap.size → k ≠ b → k ≠ m → (us t).ownBlock ≠ some k → w'.heap[k]? = w.heap[k]?) ∧ Below base w w' := by
  have h1 := add_aux base b m n t us R f S v.text v.bits v.cls v.name v.desc v (by rw [← ht]) w h hv ht2 hn hl
  unfold vv
  rw [ht]
  exact h1
end Go.Proofs.Ytdmiljaiglaacaa

/- A range over a function whose loop variable is boxed anew each round (a struct), with no early end: what the caller owes. No program. -/
namespace Go.Proofs.Ytdmiljaiglaacaa
open Go.RowKit
section
variable {P : Program} {α : Type}

/-- How a round is left. -/
def boxedEnds (I : List α → World → Prop) (xs : List α) (Z : World) : Exit → Act → World → Prop
  | .normal, _, Y => KeepsOthers Z Y ∧ I xs Y
  | _, _, _ => False
/-- What is said of the world stays so while blocks that hold no cells, laid behind N, turn. -/
def CalmB (N : Nat) (I : List α → World → Prop) : Prop :=
  ∀ s X Y row, I s X → X.grownBy Y row → (∀ r, row = some r → N ≤ r ∧ ∃ o : Obj, X.heap[r]? = some o ∧ o.isCells = false) → I s Y
theorem CalmB.turn {N : Nat} {I : List α → World → Prop} (h : CalmB N I) {s : List α} {X : World} {l : Nat} {o : Obj} (o' : Obj) (hs : I s X) (hN : N ≤ l) (hl : X.heap[l]? = some o) (ho : o.isCells = false) : I s (X.putObj l o') :=
  h s X _ (some l) hs (grownBy_putObj' X l o') fun r e => by cases e; exact ⟨hN, o, hl, ho⟩
theorem walk_not_cells {o : Obj} (h : o.isWalk = true) : o.isCells = false := by cases o <;> simp_all [Obj.isWalk, Obj.isCells]

theorem wpIn_rangeBoxed {g : Operand} {ps : Array Tmp} {assign body : Code} {Q : Exit → Act → World → Prop} {a : Act} {w : World}
    {gf : Nat} {lb : Array Value} (hg : a.eval g = .func (.func gf) #[] lb) (eg : ∀ args w, (callFunc gf args).run P w = .ok (.enter gf args) w)
    {enc : α → Value} {S : List α → Prop} {N : Nat} {w0 : World} (hseq : SeqGives Fence.wide 2 P gf lb enc S N w0) (hb0 : Below w0.heap.size w0 w) (hps : ps.size = 1)
    (I : List α → World → Prop) (hI : CalmB w.heap.size I) (h0 : I [] w) (A : α → Nat → Act) (ob : α → Obj)
    (hassign : ∀ (l : Nat) (x : α) (X : World) (K : Act → World → Prop), K (A x X.heap.size) (X.alloc (ob x)) →
      assign.wpIn (Fence.wide.inRound l) 1 P (Exit.then K (fun _ _ _ => False)) { tmps := (ps.zip #[enc x]).foldl (fun t (p, v) => t.setIfInBounds p v) a.tmps, defers := [] } X)
    (hbody : ∀ (l B : Nat) (pre : List α) (x : α) (Z : World), I pre Z → pre.length < N → w.heap.size ≤ B → Z.heap[B]? = some (ob x) →
      body.wpIn (Fence.wide.inRound l) 1 P (boxedEnds I (pre ++ [x]) Z) (A x B) Z)
    (hdone : ∀ (D : Nat) (xs : List α) (X : World), w.heap.size ≤ D → S xs → I xs X → X.heap[D]? = some (.deferred (some [])) → Q .normal { a with defers := { target := .collected D, args := #[] } :: a.defers } X) :
    (Code.rangeFunc g ps assign body).wpIn Fence.wide 3 P Q a w := by
  refine wpIn_rangeFunc fun fn hfn => ?_
  let rc : LoopState → Option Code → Loop := fun st pe => { state := st, pending := pe, fn, tmps := a.tmps, params := ps, assign, body, defers := w.heap.size }
  have hsz1 : ((w.alloc (.deferred (some []))).alloc (.loop (rc .ready none))).heap.size = w.heap.size + 2 := by simp
  have hrecd : ((w.alloc (.deferred (some []))).alloc (.loop (rc .ready none))).heap[w.heap.size + 1]? = some (.loop (rc .ready none)) := by
    have := World.alloc_heap_new (w.alloc (.deferred (some []))) (.loop (rc .ready none)); rwa [World.size_alloc] at this
  have hdef : ((w.alloc (.deferred (some []))).alloc (.loop (rc .ready none))).heap[w.heap.size]? = some (.deferred (some [])) :=
    (Below.heap_alloc _ _ _ (by simp)).trans (World.alloc_heap_new w _)
  have hb1 : Below w0.heap.size w0 ((w.alloc (.deferred (some []))).alloc (.loop (rc .ready none))) :=
    (hb0.alloc hb0.size _).alloc (by have := hb0.size; simp; omega) _
  have hI1 : I [] ((w.alloc (.deferred (some []))).alloc (.loop (rc .ready none))) :=
    hI [] _ _ none (hI [] _ _ none h0 (World.grownBy_alloc w _ none) (fun r e => by cases e)) (World.grownBy_alloc _ _ none) (fun r e => by cases e)
  have hent : (Instr.enterLoop fn a.tmps ps assign body none).run P w = .ok (w.heap.size + 1, [{ target := .collected w.heap.size, args := #[] }]) ((w.alloc (.deferred (some []))).alloc (.loop (rc .ready none))) :=
    run_enterLoop_outer (P := P) (w := w) fn a.tmps ps assign body
  generalize (w.alloc (.deferred (some []))).alloc (.loop (rc .ready none)) = W1 at hsz1 hrecd hdef hb1 hI1 hent
  refine ⟨w.heap.size + 1, [{ target := .collected w.heap.size, args := #[] }], W1, { target := .fn (.func gf) lb, args := #[.func (.yield (w.heap.size + 1)) #[] #[]] }, W1, gf,
    #[.func (.yield (w.heap.size + 1)) #[] #[]] ++ lb, W1, hent, ?_, fun f' _ => trivial, ?_, fun h => absurd h (by simp [Fence.wide]), ?_⟩
  · simp only [resolve, hg]
    simp [go_sem]
  · simp [invoke, go_sem, eg]
  refine (hseq (w.heap.size + 1)
    (fun pre X => I pre X ∧ X.heap[w.heap.size + 1]? = some (.loop (rc .ready none)) ∧ X.heap[w.heap.size]? = some (.deferred (some [])))
    W1 hb1
    (fun s X Y row h hgr hrow => by
      have kk : ∀ {k : Nat} {o : Obj}, X.heap[k]? = some o → k < W1.heap.size → Y.heap[k]? = some o := fun hk hlt => (hgr.block _ (Array.getElem?_eq_some_iff.1 hk).1 (fun e => by
        have := (hrow _ e.symm).1
        omega)).trans hk
      exact ⟨hI s X Y row h.1 hgr (fun r e => by
        obtain ⟨h1, o, h2, h3⟩ := hrow r e
        exact ⟨by omega, o, h2, walk_not_cells h3⟩), kk h.2.1 (by omega), kk h.2.2 (by omega)⟩)
    ?_ ⟨hI1, hrecd, hdef⟩).mono ?_
  · -- one round
    rintro pre x X ⟨hi, hl, hk⟩ hpx
    have hlt := (Array.getElem?_eq_some_iff.1 hl).1
    have hbs : w.heap.size + 1 < X.heap.size := hlt
    have hga : X.grownBy (X.alloc (ob x)) none := World.grownBy_alloc X _ none
    have hi' : I pre (X.alloc (ob x)) := hI pre _ _ none hi hga (fun r e => by cases e)
    have hl' : (X.alloc (ob x)).heap[w.heap.size + 1]? = some (.loop (rc .ready none)) := (hga.block _ hlt (by simp)).trans hl
    have hk' : (X.alloc (ob x)).heap[w.heap.size]? = some (.deferred (some [])) := (hga.block _ (Array.getElem?_eq_some_iff.1 hk).1 (by simp)).trans hk
    have ho' : (X.alloc (ob x)).heap[X.heap.size]? = some (ob x) := World.alloc_heap_new X _
    refine ⟨fn, _, assign, body, run_yield (P := P) (args := #[enc x]) hl (by simp [rc, hps]), roundIn_of_wpIn hfn (hassign _ x X _ ⟨_, run_beginRound hl' rfl, ?_⟩)⟩
    have hlt' := (Array.getElem?_eq_some_iff.1 hl').1
    have b1 : ((X.alloc (ob x)).putObj (w.heap.size + 1) (.loop (rc .busy none))).heap[w.heap.size + 1]? = some (.loop (rc .busy none)) := World.putObj_heap_same hlt'
    have b2 : ((X.alloc (ob x)).putObj (w.heap.size + 1) (.loop (rc .busy none))).heap[w.heap.size]? = some (.deferred (some [])) := (World.putObj_heap_other (by omega)).trans hk'
    have b3 : ((X.alloc (ob x)).putObj (w.heap.size + 1) (.loop (rc .busy none))).heap[X.heap.size]? = some (ob x) := (World.putObj_heap_other (by omega)).trans ho'
    refine wpIn_mono (hbody _ X.heap.size pre x _ (hI.turn _ hi' (by omega) hl' rfl) hpx (by omega) b3) ?_
    rintro e a3 Y hp
    cases e with
    | normal =>
      obtain ⟨k1, k3⟩ := hp
      have l3 := k1.same _ _ b1 rfl
      have d3 := k1.same _ _ b2 rfl
      have l4 := World.putObj_heap_same (w := Y) (o := .loop (rc .ready none)) (Array.getElem?_eq_some_iff.1 l3).1
      refine ⟨_, _, run_endRound (P := P) none l3, rfl, ⟨hI.turn _ k3 (by omega) l3 rfl, l4, (World.putObj_heap_other (by omega)).trans d3⟩, ?_⟩
      refine ⟨?_, fun k o hk2 ho2 => ?_⟩
      · have h1 := k1.size
        have h2 := hga.size
        simp only [World.putObj_size] at h1 ⊢
        omega
      · by_cases e : k = w.heap.size + 1
        · subst e
          rw [hl] at hk2
          cases hk2
          exact l4
        · have h1 : (X.alloc (ob x)).heap[k]? = some o := (hga.block _ (Array.getElem?_eq_some_iff.1 hk2).1 (by simp)).trans hk2
          have h2 : ((X.alloc (ob x)).putObj (w.heap.size + 1) (.loop (rc .busy none))).heap[k]? = some o := (World.putObj_heap_other (by omega)).trans h1
          exact (World.putObj_heap_other (by omega)).trans (k1.same _ _ h2 (walk_not_cells ho2))
    | ret => exact hp.elim
    | exit id => exact hp.elim
    | goto t => exact hp.elim
    | panic c => exact hp.elim
    | outgrown => exact hp.elim
  · -- behind the iterator
    rintro e X ⟨⟨v, rfl⟩, xs, hS, hi, hl, hk⟩
    exact ⟨none, _, run_endLoop (P := P) hl (by simp [rc]), hdone _ _ _ (Nat.le_refl _) hS (hI.turn _ hi (by omega) hl rfl) ((World.putObj_heap_other (by omega)).trans hk)⟩
end
end Go.Proofs.Ytdmiljaiglaacaa
