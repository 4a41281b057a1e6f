/- Layer 11: the law MomentTells. -/
import Derived.Test.YtbcanoknddpmeaaDoorPlainC
import Derived.ChangeKeysEq
namespace Go.Proofs.YtbcanoknddpmeaaDoor
open Go.RowKit

theorem eq_arr6 (a b c d e f : Int) (x : World) : (Op.equalIn 10000 32 (.agg #[.int .i64 a, .int .i64 b, .int .i64 c, .int .i64 d, .int .i64 e, .int .i64 f]) (.agg #[.int .i64 a, .int .i64 b, .int .i64 c, .int .i64 d, .int .i64 e, .int .i64 f])).run Tryd.prog x = .ok true x := by
  obtain ⟨i, hi⟩ : ∃ i, Tryd.prog.info? 3 = some i := Option.isSome_iff_exists.1 (by kernel_rfl)
  rw [show (10000 : Nat) = 9999 + 1 from rfl, run_equalIn_array x 9999 _ _ (by kernel_rfl : Tryd.prog.underlying 32 = some (.array 6 3)) hi]
  have hc : Tryd.prog.cellsOf 3 = 1 := by kernel_rfl
  have hu : Tryd.prog.underlying 3 = some (.int .i64) := by kernel_rfl
  have he : ∀ (v : Int) (y : World), (Op.equalIn 9999 3 (.int .i64 v) (.int .i64 v)).run Tryd.prog y = .ok true y := fun v y => by
    rw [run_equalIn_int y 9998 _ _ _ _ _ hu]; simp
  simp [Op.eqItems, List.range, List.range.loop, go_sem, hc, he]
/-- One way through the law's first half: up to the comparison; what follows is walked by the two ways on. -/
theorem ahead_cases (d c a b : Int) (B : Bool) (hB : B = (decide (d < a) || (decide (d = a) && decide (c < b)))) : (decide (d < a) = true ∧ B = true) ∨ (decide (d < a) = false ∧ (d == a) = true ∧ decide (c < b) = true ∧ B = true) ∨ (decide (d < a) = false ∧ (d == a) = true ∧ decide (c < b) = false ∧ B = false) ∨ (decide (d < a) = false ∧ (d == a) = false ∧ B = false) := by
  subst hB
  by_cases h1 : d < a
  · simp [h1]
  · by_cases h2 : d = a
    · by_cases h3 : c < b
      · simp [h2, h3]
      · simp [h2, h3]
    · simp [h1, h2]

theorem two_boxes {w x : World} {A B : Obj} (K : Below (w.heap.size + 2) ((w.alloc A).alloc B) x) : x.heap[w.heap.size]? = some A ∧ x.heap[w.heap.size + 1]? = some B ∧ w.heap.size + 1 < x.heap.size := by
  have h1 := heap_alloc_new (w.alloc A) B
  rw [World.size_alloc] at h1
  have h2 : ((w.alloc A).alloc B).heap[w.heap.size]? = some A := (heap_alloc_old _ _ (by simp)).trans (heap_alloc_new w A)
  have h3 := K.size
  simp at h3
  exact ⟨(K.block _ (by omega)).trans h2, (K.block _ (by omega)).trans h1, by omega⟩
set_option maxHeartbeats 16000000 in
theorem tells_any (d c a b y m da h n s e0 f0 jd jc : Int) (ps : List UInt8) (B R : Bool) (w : World) (hB : B = (decide (d < a) || (decide (d = a) && decide (c < b))))
    (hF : (R = false ∧ ps = [] ∧ e0 = 5 ∧ f0 = 5) ∨ (R = true ∧ e0 = 0 ∧ f0 = 0 ∧ d = jd ∧ c = jc))
    (h0 : ∀ w', Below w.heap.size w w' → Calls Tryd.prog 6 #[] w' fun e w'' => e = .returned (.bool true) ∧ Below w'.heap.size w' w'')
    (hP : ∀ w', Below w.heap.size w w' → Calls Tryd.prog 14 #[.agg #[.int .u16 d, .int .u16 c]] w' fun e w'' => e = .returned (.tuple #[.string (bs ps), .int .i64 e0]) ∧ Below w'.heap.size w' w'')
    (hS : ∀ w, Calls Tryd.prog 15 #[.agg #[.int .u16 d, .int .u16 c]] w fun e w' => e = .returned (.agg #[.int .i64 y, .int .i64 m, .int .i64 da, .int .i64 h, .int .i64 n, .int .i64 s]) ∧ Below w.heap.size w w')
    (hrS : ∀ w, Calls Tryd.prog 17 #[.agg #[.int .u16 d, .int .u16 c]] w fun e w' => e = .returned (.agg #[.int .i64 y, .int .i64 m, .int .i64 da, .int .i64 h, .int .i64 n, .int .i64 s]) ∧ Below w.heap.size w w')
    (hR : ∀ w, Calls Tryd.prog 18 #[.agg #[.int .u16 d, .int .u16 c]] w fun e w' => e = .returned (.bool R) ∧ Below w.heap.size w w')
    (hrR : ∀ w, Calls Tryd.prog 13 #[.agg #[.int .u16 d, .int .u16 c]] w fun e w' => e = .returned (.bool R) ∧ Below w.heap.size w w')
    (hBf : ∀ w, Calls Tryd.prog 19 #[.agg #[.int .u16 d, .int .u16 c], .agg #[.int .u16 a, .int .u16 b]] w fun e w' => e = .returned (.bool B) ∧ Below w.heap.size w w')
    (hJ : ∀ w, Calls Tryd.prog 7 #[.agg #[.int .i64 y, .int .i64 m, .int .i64 da, .int .i64 h, .int .i64 n, .int .i64 s]] w fun e w' => e = .returned (.tuple #[.agg #[.int .u16 jd, .int .u16 jc], .int .i64 f0]) ∧ Below w.heap.size w w')
    (hPa : R = true → ∀ w', Below w.heap.size w w' → Calls Tryd.prog 11 #[.string (bs ps)] w' fun e w'' => e = .returned (.tuple #[.agg #[.int .u16 d, .int .u16 c], .int .i64 0]) ∧ Below w'.heap.size w' w'')
    (hrP : R = true → ∀ w', Below w.heap.size w w' → Calls Tryd.prog 12 #[.agg #[.int .u16 d, .int .u16 c]] w' fun e w'' => e = .returned (.string (bs ps)) ∧ Below w'.heap.size w' w'') :
    Calls Tryd.prog 5 #[.agg #[.int .u16 d, .int .u16 c], .agg #[.int .u16 a, .int .u16 b]] w fun e w' => e = .returned (.bool true) ∧ Below w.heap.size w w' := by
  have H0 := Lib.hid h0
  have HP := Lib.hid hP
  have HS := Lib.hid hS
  have HrS := Lib.hid hrS
  have HR := Lib.hid hR
  have HrR := Lib.hid hrR
  have HBf := Lib.hid hBf
  have HJ := Lib.hid hJ
  have HPa := Lib.hid hPa
  have HrP := Lib.hid hrP
  have HF := Lib.hid hF
  have heq := eq_arr6 y m da h n s
  have hcs := ahead_cases d c a b B hB
  clear h0 hP hS hrS hR hrR hBf hJ hB hPa hrP hF
  rcases hcs with ⟨k1, rfl⟩ | ⟨k1, k2, k3, rfl⟩ | ⟨k1, k2, k3, rfl⟩ | ⟨k1, k2, rfl⟩
  all_goals
    go_enter Tryd.func5, Tryd.ntmps5
    go_wp2_with fail
    have K0 : Below (w.heap.size + 2) ((w.alloc (.cells #[.int .u16 d, .int .u16 c] 25)).alloc (.cells #[.int .u16 a, .int .u16 b] 25)) ((w.alloc (.cells #[.int .u16 d, .int .u16 c] 25)).alloc (.cells #[.int .u16 a, .int .u16 b] 25)) := Below.refl _ _
    have J0 : Below w.heap.size w ((w.alloc (.cells #[.int .u16 d, .int .u16 c] 25)).alloc (.cells #[.int .u16 a, .int .u16 b] 25)) := ((Below.refl _ _).alloc (Nat.le_refl _) _).alloc (by simp) _
    refine (H0.out _ J0).mono ?_
    rintro e w1 ⟨rfl, hb⟩
    have K1 := Below.after' K0 hb (by simp)
    have J1 := Lib.hid (Below.after' J0 hb (Nat.le_refl _))
    obtain ⟨b1, b2, b3⟩ := two_boxes K1
    obtain ⟨f1, f2⟩ := blk_facts b1
    obtain ⟨f3, f4⟩ := blk_facts b2
    clear hb b1 b2 K0 J0
    go_wp2_with fail
    refine (HP.out _ J1.out).mono ?_
    rintro e w2 ⟨rfl, hb⟩
    have K2 := Below.after' K1 hb (by simp)
    have J2 := Lib.hid (Below.after' J1.out hb (Nat.le_refl _))
    clear f1 f2 f3 f4 b3
    obtain ⟨b1, b2, b3⟩ := two_boxes K2
    obtain ⟨f1, f2⟩ := blk_facts b1
    obtain ⟨f3, f4⟩ := blk_facts b2
    clear hb b1 b2 K1 J1
    go_wp2_with fail
    refine (HS.out _).mono ?_
    rintro e w3 ⟨rfl, hb⟩
    have K3 := Below.alloc' (Below.after' K2 hb (by simp)) (by simp) (.cells #[.int .i64 y, .int .i64 m, .int .i64 da, .int .i64 h, .int .i64 n, .int .i64 s] 30)
    have J3 := Lib.hid (Below.alloc' (Below.after' J2.out hb (Nat.le_refl _)) (Nat.le_refl _) (.cells #[.int .i64 y, .int .i64 m, .int .i64 da, .int .i64 h, .int .i64 n, .int .i64 s] 30))
    clear f1 f2 f3 f4 b3
    obtain ⟨b1, b2, b3⟩ := two_boxes K3
    obtain ⟨f1, f2⟩ := blk_facts b1
    obtain ⟨f3, f4⟩ := blk_facts b2
    have b4 := b3
    simp at b4
    clear hb b1 b2 K2 J2
    have b5 : w.heap.size < w3.heap.size + 1 := by omega
    go_wp2_with fail
    refine wp_region_grow (by kernel_rfl) (by kernel_rfl) ?_
    repeat (go_big_quiet_step ((first | (go_at_call 16; exact Gr.call (list_any _ _ _ _ _ _ _)) | (go_at_call 17; exact Gr.call (HrS.out _)) | (go_at_call 18; exact Gr.call (HR.out _)) | (go_at_call 13; exact Gr.call (HrR.out _)) | (go_at_call 19; exact Gr.call (HBf.out _)))))
    refine wpQuiet_nil ?_
    intro g1
    obtain ⟨w4, hb1⟩ := g1
    have J4 := Lib.hid (Below.after' J3.out hb1 (Nat.le_refl _))
    have K4 := Below.after' K3 hb1 (by simp)
    obtain ⟨hc4, _⟩ := bcell hb1
    have s0 : w4.cell? ⟨w3.heap.size, 0, none⟩ = some (.int .i64 y) := by rw [hc4 _ _ (by simp)]; simp
    have s1 : w4.cell? ⟨w3.heap.size, 1, none⟩ = some (.int .i64 m) := by rw [hc4 _ _ (by simp)]; simp
    have s2 : w4.cell? ⟨w3.heap.size, 2, none⟩ = some (.int .i64 da) := by rw [hc4 _ _ (by simp)]; simp
    have s3 : w4.cell? ⟨w3.heap.size, 3, none⟩ = some (.int .i64 h) := by rw [hc4 _ _ (by simp)]; simp
    have s4 : w4.cell? ⟨w3.heap.size, 4, none⟩ = some (.int .i64 n) := by rw [hc4 _ _ (by simp)]; simp
    have s5 : w4.cell? ⟨w3.heap.size, 5, none⟩ = some (.int .i64 s) := by rw [hc4 _ _ (by simp)]; simp
    clear f1 f2 f3 f4 b3 b4 b5 hc4
    obtain ⟨b1, b2, b3⟩ := two_boxes K4
    obtain ⟨f1, f2⟩ := blk_facts b1
    obtain ⟨f3, f4⟩ := blk_facts b2
    clear b1 b2 K3 J3
    go_wp2_with fail
    refine (HJ.out _).mono ?_
    rintro e w5 ⟨rfl, hb⟩
    have K5 := Below.after' K4 hb (by simp)
    have J5 := Lib.hid (Below.after' J4.out hb (Nat.le_refl _))
    clear f1 f2 f3 f4 b3 s0 s1 s2 s3 s4 s5 hb1 J4
    obtain ⟨b1, b2, b3⟩ := two_boxes K5
    obtain ⟨f1, f2⟩ := blk_facts b1
    obtain ⟨f3, f4⟩ := blk_facts b2
    clear b1 b2 K4 hb
    have b4 : w.heap.size < w5.heap.size := by omega
    go_wp2_with fail
    have K6 := Below.alloc' K5 (by simp) (.cells #[.int .u16 jd, .int .u16 jc] 25)
    have J6 := Lib.hid (Below.alloc' J5.out (Nat.le_refl _) (.cells #[.int .u16 jd, .int .u16 jc] 25))
    refine (HrR.out _).mono ?_
    rintro e w6 ⟨rfl, hb⟩
    rcases HF.out with ⟨rfl, rfl, rfl, rfl⟩ | ⟨rfl, rfl, rfl, rfl, rfl⟩
    · have J7 := Lib.hid (Below.after' J6.out hb (by simp))
      clear f1 f2 f3 f4 b3 hb J5 J6 K5 K6
      have hnil : (bs ([] : List UInt8)).toList = [] := bs_list []
      go_wp2
      go_ret
      exact ⟨rfl, J7.out⟩
    · have K7 := Below.after' K6 hb (by simp)
      have J7 := Lib.hid (Below.after' J6.out hb (by simp))
      have q6 : w6.heap[w5.heap.size]? = some (.cells #[.int .u16 d, .int .u16 c] 25) := by
        rw [hb.block _ (by simp)]; exact heap_alloc_new _ _
      have q7 : w5.heap.size < w6.heap.size := by have := hb.size; simp at this; omega
      clear f1 f2 f3 f4 b3 b4 hb J5 J6 K5 K6
      obtain ⟨b1, b2, b3⟩ := two_boxes K7
      obtain ⟨f1, f2⟩ := blk_facts b1
      obtain ⟨f3, f4⟩ := blk_facts b2
      obtain ⟨f5, f6⟩ := blk_facts q6
      clear b1 b2
      go_wp2_with fail
      refine (HPa.out (by simp) _ J7.out).mono ?_
      rintro e w8 ⟨rfl, hb⟩
      have K8 := Below.alloc' (Below.after' K7 hb (by simp)) (by simp) (.cells #[.int .u16 d, .int .u16 c] 25)
      have J8 := Lib.hid (Below.alloc' (Below.after' J7.out hb (Nat.le_refl _)) (Nat.le_refl _) (.cells #[.int .u16 d, .int .u16 c] 25))
      have q8 : (w8.alloc (.cells #[.int .u16 d, .int .u16 c] 25)).heap[w5.heap.size]? = some (.cells #[.int .u16 d, .int .u16 c] 25) := by
        have h1 := hb.size
        rw [heap_alloc_old _ _ (by omega), hb.block _ q7]; exact q6
      have q9 : w5.heap.size < w8.heap.size := by have := hb.size; omega
      clear f1 f2 f3 f4 f5 f6 b3 hb q6 q7 K7 J7
      obtain ⟨b1, b2, b3⟩ := two_boxes K8
      obtain ⟨f1, f2⟩ := blk_facts b1
      obtain ⟨f3, f4⟩ := blk_facts b2
      obtain ⟨f5, f6⟩ := blk_facts q8
      have b4 := b3
      simp at b4
      have b5 : w.heap.size < w8.heap.size + 1 := by omega
      clear b1 b2
      go_wp2_with fail
      refine (HrP.out (by simp) _ J8.out).mono ?_
      rintro e w9 ⟨rfl, hb⟩
      have K9 := Below.after' K8 hb (by simp)
      have J9 := Lib.hid (Below.after' J8.out hb (Nat.le_refl _))
      have q10 : w9.heap[w5.heap.size]? = some (.cells #[.int .u16 d, .int .u16 c] 25) := by
        rw [hb.block _ (by simp; omega)]; exact q8
      have q11 : w9.heap[w8.heap.size]? = some (.cells #[.int .u16 d, .int .u16 c] 25) := by
        rw [hb.block _ (by simp)]; exact heap_alloc_new _ _
      have q12 : w5.heap.size < w9.heap.size ∧ w8.heap.size < w9.heap.size := by have := hb.size; simp at this; omega
      obtain ⟨q12, q13⟩ := q12
      clear f1 f2 f3 f4 f5 f6 b3 b4 b5 hb q8 q9 K8 J8
      obtain ⟨b1, b2, b3⟩ := two_boxes K9
      obtain ⟨f1, f2⟩ := blk_facts b1
      obtain ⟨f3, f4⟩ := blk_facts b2
      obtain ⟨f5, f6⟩ := blk_facts q10
      obtain ⟨f7, f8⟩ := blk_facts q11
      have b5 : w.heap.size < w9.heap.size := by omega
      clear b1 b2 q10 q11
      go_wp2
      go_ret
      exact ⟨rfl, J9.out⟩

theorem lawTells (d c a b : Int) (w : World) (hd : 0 ≤ d ∧ d ≤ 65535) (hc : 0 ≤ c ∧ c ≤ 65535) (ht : TabP w) :
    Calls Tryd.prog 5 #[.agg #[.int .u16 d, .int .u16 c], .agg #[.int .u16 a, .int .u16 b]] w fun e w' => e = .returned (.bool true) ∧ Below w.heap.size w w' := by
  have hj := fun w => join_any (1980 + d / 512) (d / 32 % 16) (d % 32) (c / 2048) (c / 32 % 64) (c % 32 * 2) w
  rw [Mo.join_split d c hd hc] at hj
  have hp := fun w' (k : Below w.heap.size w w') => print_any d c w' hd hc (tab_below ht k)
  have hm := fun w' => mright_any d c w' hd hc
  have hr := fun w' => rright_any d c w' hd hc
  have hpa := fun w' (k : Below w.heap.size w w') => parse_any (Mo.print d c) w' (by rw [Mo.print_len]; omega) (tab_below ht k)
  by_cases hc0 : Mo.may d c = true
  · rw [Mo.parse_print d c hd hc hc0] at hpa
    rw [hc0] at hj hp hm hr
    exact tells_any d c a b _ _ _ _ _ _ 0 0 d c (Mo.print d c) _ true w rfl (.inr ⟨rfl, rfl, rfl, rfl, rfl⟩) (fun w' k => fixed_any w' (tab_below ht k)) hp (fun w => split_any d c w hd hc) (fun w => rsplit_any d c w hd hc) hm hr
      (fun w => before_any d c a b w) hj (fun _ => hpa) (fun _ w' _ => rprint_any d c w' hd hc)
  · have hf : Mo.may d c = false := by simpa using hc0
    rw [hf] at hj hp hm hr
    exact tells_any d c a b _ _ _ _ _ _ 5 5 0 0 [] _ false w rfl (.inl ⟨rfl, rfl, rfl, rfl⟩) (fun w' k => fixed_any w' (tab_below ht k)) hp (fun w => split_any d c w hd hc) (fun w => rsplit_any d c w hd hc) hm hr
      (fun w => before_any d c a b w) hj (fun h => nomatch h) (fun h => nomatch h)
end Go.Proofs.YtbcanoknddpmeaaDoor
