/- The walks of layer 14: the laws on what is printed. -/
import Derived.Test.YtbjhnfemlpbchaaWalksX
import Derived.Test.YtbjhnfemlpbchaaWalksY
import Derived.Test.YtbjhnfemlpbchaaPlainH
namespace Go.Proofs.Ytbjhnfemlpbchaa
open Go.RowKit

theorem Ma.flat_le {α : Type} (f : α → List UInt8) (M : Nat) : ∀ l : List α, (∀ x ∈ l, (f x).length ≤ M) → (l.flatMap f).length ≤ l.length * M
  | [], _ => by simp
  | x :: l, h => by
    have ih := Ma.flat_le f M l fun y hy => h y (List.mem_cons_of_mem _ hy)
    have h1 := h x (List.mem_cons_self ..)
    rw [List.flatMap_cons, List.length_append, List.length_cons, Nat.add_mul]
    omega
theorem Ma.few_text {ss : List (List Pr)} (hn : ss.length ≤ 11) (h : ∀ s ∈ ss, Ma.fewS s) : (Ma.allText ss).length ≤ 500000 := by
  have h1 : ∀ s ∈ ss, (Ma.sectText s).length ≤ 40262 := fun s hs => by
    obtain ⟨h2, h3⟩ := h s hs
    have h4 := Ma.flat_le Ma.pairText 2013 s fun p hp => by
      have := Ma.fold_text (Ma.lineOf p)
      have h5 : (Ma.lineOf p).length ≤ 502 := by
        have := h3 p hp
        unfold Ma.lineOf; simp; omega
      show (Ma.foldText (Ma.fold (Ma.lineOf p))).length ≤ 2013
      omega
    have h6 : (Ma.sectText s).length = (s.flatMap Ma.pairText).length + 2 := by unfold Ma.sectText Ma.pairsText; simp
    have h7 : s.length * 2013 ≤ 20 * 2013 := Nat.mul_le_mul_right _ h2
    omega
  have h2 := Ma.flat_le Ma.sectText 40262 ss h1
  have h3 : ss.length * 40262 ≤ 11 * 40262 := Nat.mul_le_mul_right _ hn
  show (ss.flatMap Ma.sectText).length ≤ 500000
  omega

set_option maxHeartbeats 8000000 in
set_option maxRecDepth 100000 in
theorem prints_any (A : Option Addr) (c : Nat) (main : List Pr) (B : Option Addr) (d : Nat) (parts : List (List Pr)) (w : World) (hA : Prs w A c main) (hB : PNest w B d parts) (hm : MaxP w) (hn : (parts.length + 1) * 24 ≤ 140737488355328)
    (hs : ∀ s ∈ main :: parts, s.length ≤ 140737488355328 ∧ ∀ p ∈ s, p.1.length ≤ 140737488355328 ∧ p.2.length ≤ 140737488355328) :
    Calls Try.prog 4 #[.agg #[.slice A main.length c, .slice B parts.length d]] w fun e w' => e = .returned (.bool true) ∧ Below w.heap.size w w' := by
  have HA := Lib.hid hA
  have HB := Lib.hid hB
  have HM := Lib.hid hm
  have HS := Lib.hid hs
  clear hA hB hm hs
  go_enter Try.func4, Try.ntmps4
  go_wp2_with fail
  have q0 : (w.alloc (.cells #[.slice A main.length c, .slice B parts.length d] 27)).heap[w.heap.size]? = some (.cells #[.slice A main.length c, .slice B parts.length d] 27 (0, 0)) := heap_alloc_new _ _
  have k0 := (Below.refl w.heap.size w).alloc (Nat.le_refl _) (.cells #[.slice A main.length c, .slice B parts.length d] 27)
  generalize w.alloc (.cells #[.slice A main.length c, .slice B parts.length d] 27) = W0 at q0 k0 ⊢
  have z0 : w.heap.size < W0.heap.size := (Array.getElem?_eq_some_iff.1 q0).1
  refine (fixed_any W0 (max_below HM.out k0)).mono ?_
  rintro e w1 ⟨rfl, hb⟩
  have J1 := Lib.hid (Below.after' k0 hb (Nat.le_refl _))
  have hq1 := (hb.block _ z0).trans q0
  have z1 : w.heap.size < w1.heap.size := (Array.getElem?_eq_some_iff.1 hq1).1
  have Q1 := Lib.hid hq1
  have e0 : w1.cell? ⟨w.heap.size, 0, none⟩ = some (.slice A main.length c) := (blk_facts hq1).1 0
  have e1 : w1.cell? ⟨w.heap.size, 1, none⟩ = some (.slice B parts.length d) := (blk_facts hq1).1 1
  clear hb q0 k0 hq1
  go_wp2_with fail
  refine (few_any A c main B d parts w1 (HA.out.grow J1.out) (HB.out.grow J1.out) hn HS.out).mono ?_
  rintro e w2 ⟨r, rfl, hr, hb⟩
  have J2 := Lib.hid (Below.after' J1.out hb (Nat.le_refl _))
  have hq2 := (hb.block _ z1).trans Q1.out
  have z2 : w.heap.size < w2.heap.size := (Array.getElem?_eq_some_iff.1 hq2).1
  have Q2 := Lib.hid hq2
  have f0 : w2.cell? ⟨w.heap.size, 0, none⟩ = some (.slice A main.length c) := (blk_facts hq2).1 0
  have f1 : w2.cell? ⟨w.heap.size, 1, none⟩ = some (.slice B parts.length d) := (blk_facts hq2).1 1
  clear hb hq2 e0 e1
  cases r with
  | false =>
    clear hr
    go_wp2
    go_ret
    exact ⟨rfl, J2.out⟩
  | true =>
  obtain ⟨hp10, hfew⟩ := hr rfl
  have HF := Lib.hid hfew
  have htx := Ma.few_text (ss := main :: parts) (by simp; omega) hfew
  have hP := Lib.hid (fun w h1 h2 => print_any A c main B d parts w h1 h2 (by omega) (fun s hs => ⟨by have := (hfew s hs).1; omega, fun p hp => by have := (hfew s hs).2 p hp; omega⟩) (by omega))
  have hC := Lib.hid (fun w h1 h2 => rcheckm_any A c main B d parts w h1 h2 hp10 hfew)
  have hpd := Lib.hid (show Ma.print (main :: parts) = if Ma.manErr true (main :: parts) ≠ 0 then (Ma.manErr true (main :: parts), []) else (0, Ma.allText (main :: parts)) from rfl)
  have hback := Lib.hid (fun h => Ma.parse_print (ss := main :: parts) h (by simp) (by omega))
  clear hr hfew
  have hM := Lib.hid (fun w h1 h2 => rprint_any A c main B d parts w h1 h2 hp10 HF.out (by omega))
  generalize Ma.manErr true (main :: parts) = er at hC hpd hback
  generalize Ma.allText (main :: parts) = T at hpd hback hM htx
  by_cases her : er = 0
  · have hpd2 := hpd.out.trans (if_neg (by omega))
    have hbk := Lib.hid (hback.out her)
    subst her
    rw [hpd2] at hP
    clear hpd hpd2 hback
    go_wp2_with fail
    refine (hP.out w2 (HA.out.grow J2.out) (HB.out.grow J2.out)).mono ?_
    rintro e w3 ⟨A', c', rfl, hAt, hb⟩
    have J3 := Lib.hid (Below.after' J2.out hb (Nat.le_refl _))
    have hq3 := (hb.block _ z2).trans Q2.out
    have z3 : w.heap.size < w3.heap.size := (Array.getElem?_eq_some_iff.1 hq3).1
    have Q3 := Lib.hid hq3
    have HAT := Lib.hid hAt
    have g0 : w3.cell? ⟨w.heap.size, 0, none⟩ = some (.slice A main.length c) := (blk_facts hq3).1 0
    have g1 : w3.cell? ⟨w.heap.size, 1, none⟩ = some (.slice B parts.length d) := (blk_facts hq3).1 1
    clear hb hq3 hAt f0 f1
    go_wp2_with fail
    refine (hC.out w3 (HA.out.grow J3.out) (HB.out.grow J3.out)).mono ?_
    rintro e w4 ⟨rfl, hb⟩
    have J4 := Lib.hid (Below.after' J3.out hb (Nat.le_refl _))
    have hq4 := (hb.block _ z3).trans Q3.out
    have z4 : w.heap.size < w4.heap.size := (Array.getElem?_eq_some_iff.1 hq4).1
    have Q4 := Lib.hid hq4
    have HAT4 := Lib.hid (HAT.out.grow hb)
    clear hb hq4 g0 g1 HAT
    go_wp2_with fail
    have hpp := parse_any A' c' T w4 HAT4.out (by omega) (max_below HM.out J4.out)
    rw [hbk.out] at hpp
    refine (show Calls Try.prog 8 #[.slice A' T.length c'] w4 _ from hpp).mono ?_
    rintro e w5 ⟨v, rfl, hMn, hb⟩
    obtain ⟨A1, c1, B1, d1, rfl, hA1, hB1⟩ := (show Mani w5 v main parts from hMn)
    have J5 := Lib.hid (Below.after' J4.out hb (Nat.le_refl _))
    have hq5 := (hb.block _ z4).trans Q4.out
    have z5 : w.heap.size < w5.heap.size := (Array.getElem?_eq_some_iff.1 hq5).1
    have k6 := (Below.refl w5.heap.size w5).alloc (Nat.le_refl _) (.cells #[.slice A1 main.length c1, .slice B1 parts.length d1] 27)
    have q6 : (w5.alloc (.cells #[.slice A1 main.length c1, .slice B1 parts.length d1] 27)).heap[w5.heap.size]? = some (.cells #[.slice A1 main.length c1, .slice B1 parts.length d1] 27 (0, 0)) := heap_alloc_new _ _
    have J6 := Lib.hid (Below.after' J5.out k6 (Nat.le_refl _))
    have hq6 := (k6.block _ z5).trans hq5
    have HA1 := Lib.hid (hA1.grow k6)
    have HB1 := Lib.hid (hB1.grow k6)
    have HAT6 := Lib.hid (HAT4.out.grow (Below.after' hb k6 (Nat.le_refl _)))
    have g0 : (w5.alloc (.cells #[.slice A1 main.length c1, .slice B1 parts.length d1] 27)).drew.cell? ⟨w.heap.size, 0, none⟩ = some (.slice A main.length c) := (blk_facts hq6).1 0
    have g1 : (w5.alloc (.cells #[.slice A1 main.length c1, .slice B1 parts.length d1] 27)).drew.cell? ⟨w.heap.size, 1, none⟩ = some (.slice B parts.length d) := (blk_facts hq6).1 1
    have g2 : (w5.alloc (.cells #[.slice A1 main.length c1, .slice B1 parts.length d1] 27)).drew.cell? ⟨w5.heap.size, 0, none⟩ = some (.slice A1 main.length c1) := (blk_facts q6).1 0
    have g3 : (w5.alloc (.cells #[.slice A1 main.length c1, .slice B1 parts.length d1] 27)).drew.cell? ⟨w5.heap.size, 1, none⟩ = some (.slice B1 parts.length d1) := (blk_facts q6).1 1
    have zz : w5.heap.size < (w5.alloc (.cells #[.slice A1 main.length c1, .slice B1 parts.length d1] 27)).drew.heap.size := (Array.getElem?_eq_some_iff.1 q6).1
    have zy : w.heap.size < (w5.alloc (.cells #[.slice A1 main.length c1, .slice B1 parts.length d1] 27)).drew.heap.size := Nat.lt_trans z5 zz
    have hcv := Lib.hid (fun (X : World) (hb : Below (w5.alloc (.cells #[.slice A1 main.length c1, .slice B1 parts.length d1] 27)).drew.heap.size (w5.alloc (.cells #[.slice A1 main.length c1, .slice B1 parts.length d1] 27)).drew X) => (BAt.grow (w := (w5.alloc (.cells #[.slice A1 main.length c1, .slice B1 parts.length d1] 27)).drew) (HAT6.out.grow ((Below.refl _ _).drew)) hb).text)
    have hRP := Lib.hid (fun (X : World) (hb : Below (w5.alloc (.cells #[.slice A1 main.length c1, .slice B1 parts.length d1] 27)).drew.heap.size (w5.alloc (.cells #[.slice A1 main.length c1, .slice B1 parts.length d1] 27)).drew X) => hM.out X (HA.out.grow (Below.after' J6.out.drew hb (by omega))) (HB.out.grow (Below.after' J6.out.drew hb (by omega))))
    have hSM := Lib.hid (fun (X : World) (hb : Below (w5.alloc (.cells #[.slice A1 main.length c1, .slice B1 parts.length d1] 27)).drew.heap.size (w5.alloc (.cells #[.slice A1 main.length c1, .slice B1 parts.length d1] 27)).drew X) => by
      have hh := same_any A1 c1 main B1 d1 parts A c main B d parts X (Prs.grow (w := (w5.alloc (.cells #[.slice A1 main.length c1, .slice B1 parts.length d1] 27)).drew) (HA1.out.grow ((Below.refl _ _).drew)) hb) (PNest.grow (w := (w5.alloc (.cells #[.slice A1 main.length c1, .slice B1 parts.length d1] 27)).drew) (HB1.out.grow ((Below.refl _ _).drew)) hb) (HA.out.grow (Below.after' J6.out.drew hb (by omega))) (HB.out.grow (Below.after' J6.out.drew hb (by omega))) (by omega) (by omega) (fun s hs => by have := (HF.out s hs).1; omega)
      rw [decide_eq_true rfl] at hh
      exact hh)
    clear hpp hMn hA1 hB1 hb hq5 hq6 k6 q6
    go_wp2_with fail
    refine wp_region_ord 18 (by kernel_rfl) (by kernel_rfl) (fun _ _ d _ _ h => by cases d <;> exact h) ?_
    simp only [List.take_succ_cons, List.take_zero, List.drop_succ_cons, List.drop_zero]
    repeat (first | (refine wpLex_skip rfl ?_; simp only [Act.put, List.setIfInBounds_toArray, List.set_cons_zero, List.set_cons_succ]) | (refine wpLex_fix rfl ?_; intro F hF R hR hne K hK; go_big_quiet_op; first | (go_big_quiet_on; clear hne hR R hF F) | (apply Exists.intro; refine ⟨fun g => ?_, ?_⟩; (((first | (go_at_call 14; exact GrE.call hR (hRP.out _ (GrE.below g))) | (go_at_call 10; exact GrE.call hR (hSM.out _ (GrE.below g))) | (rw [hcv.out _ (GrE.below g)]; go_simp; first | exact ⟨rfl, rfl⟩ | rfl) | (rw [GrE.cell g _ _ zz]; go_simp; first | exact ⟨rfl, rfl⟩ | rfl) | (go_simp; (repeat (simp only [GrE.cell g _ _ zz, GrE.cell g _ _ zy]; go_simp)); first | exact ⟨rfl, rfl⟩ | rfl)))); go_big_quiet_on; clear hne hR R hF F)) | (apply wpLex_blk rfl; (focus (intro x hx; go_simp; exact ⟨rfl, rfl⟩)); intro B hB; simp only [Act.put, blkVal, List.setIfInBounds_toArray, List.set_cons_zero, List.set_cons_succ]))
    refine wpLex_nil ?_
    intro w1 hw1
    have J7 := Lib.hid (Below.after' J6.out.drew hw1.below (by have := J6.out.size; simp at this ⊢; try omega))
    clear hw1
    go_wp2
    go_ret
    exact ⟨rfl, J7.out⟩
  · have hpd2 := hpd.out.trans (if_pos her)
    rw [hpd2] at hP
    have u1 : ((er : Int) != 0) = true := by simp; omega
    clear hpd hpd2 hback hM
    go_wp2_with fail
    refine (hP.out w2 (HA.out.grow J2.out) (HB.out.grow J2.out)).mono ?_
    rintro e w3 ⟨A', c', rfl, hAt, hb⟩
    have J3 := Lib.hid (Below.after' J2.out hb (Nat.le_refl _))
    have hq3 := (hb.block _ z2).trans Q2.out
    have g0 : w3.cell? ⟨w.heap.size, 0, none⟩ = some (.slice A main.length c) := (blk_facts hq3).1 0
    have g1 : w3.cell? ⟨w.heap.size, 1, none⟩ = some (.slice B parts.length d) := (blk_facts hq3).1 1
    clear hb hq3 hAt f0 f1
    go_wp2_with fail
    refine (hC.out w3 (HA.out.grow J3.out) (HB.out.grow J3.out)).mono ?_
    rintro e w4 ⟨rfl, hb⟩
    have J4 := Lib.hid (Below.after' J3.out hb (Nat.le_refl _))
    clear hb g0 g1
    go_wp2
    go_ret
    exact ⟨rfl, J4.out⟩

set_option maxHeartbeats 8000000 in
set_option maxRecDepth 100000 in
theorem again_any (A : Option Addr) (c : Nat) (b : List UInt8) (w : World) (hx : BAt w A c b) (hm : MaxP w) :
    Calls Try.prog 5 #[.slice A b.length c] w fun e w' => e = .returned (.bool true) ∧ Below w.heap.size w w' := by
  have HX := Lib.hid hx
  have HM := Lib.hid hm
  clear hx hm
  go_enter Try.func5, Try.ntmps5
  go_wp2_with fail
  refine (fixed_any w HM.out).mono ?_
  rintro e w1 ⟨rfl, hb⟩
  have J1 := Lib.hid hb
  clear hb
  by_cases g1 : 1500 < b.length
  · have u1 : decide (1500 < b.length) = true := decide_eq_true g1
    have u2 : decide ((1500 : Int) < (b.length : Int)) = true := decide_eq_true (by omega)
    go_wp2
    go_ret
    exact ⟨rfl, J1.out⟩
  have u1 : decide (1500 < b.length) = false := decide_eq_false g1
  have u2 : decide ((1500 : Int) < (b.length : Int)) = false := decide_eq_false (by omega)
  have h1 := Lib.hid (fun w h1 h2 => parse_any A c b w h1 (by omega) h2)
  have hsm := Lib.hid (Ma.parse_small b)
  have hbk := Lib.hid (@Ma.parse_back b)
  have her := Lib.hid (@Ma.parse_err b)
  generalize Ma.parse b = r at h1 hsm hbk her
  obtain ⟨er, ss⟩ := r
  simp only at h1 hsm hbk her
  go_wp2_with fail
  refine (h1.out w1 (HX.out.grow J1.out) (max_below HM.out J1.out)).mono ?_
  rintro e w2 ⟨v, rfl, hM, hb2⟩
  have J2 := Lib.hid (Below.after' J1.out hb2 (Nat.le_refl _))
  clear hb2 h1
  by_cases he : er = 0
  · subst he
    obtain ⟨hne, hme, htl⟩ := hbk.out rfl
    obtain ⟨hs1, hs2⟩ := hsm.out
    obtain ⟨main, parts, rfl⟩ : ∃ main parts, ss = main :: parts := by
      cases ss with
      | nil => exact absurd rfl hne
      | cons x l => exact ⟨x, l, rfl⟩
    obtain ⟨A1, c1, B1, d1, rfl, hA1, hB1⟩ := (show Mani w2 v main parts from hM)
    have hpl : parts.length ≤ 1500 := by simp at hs1; omega
    have hP := Lib.hid (fun A c B d w h1 h2 => print_any A c main B d parts w h1 h2 (by omega) (fun s hs => ⟨by have := (hs2 s hs).1; omega, fun p hp => by have := (hs2 s hs).2 p hp; omega⟩) (by omega))
    have hS := Lib.hid (fun A1 c1 B1 d1 A2 c2 B2 d2 X h1 h2 h3 h4 => by
      have hh := same_any A1 c1 main B1 d1 parts A2 c2 main B2 d2 parts X h1 h2 h3 h4 (by omega) (by omega) (fun s hs => by have := (hs2 s hs).1; omega)
      rw [decide_eq_true rfl] at hh
      exact hh)
    have hpd : Ma.print (main :: parts) = (0, Ma.allText (main :: parts)) := by unfold Ma.print; rw [if_neg (by omega)]
    have hbck := Lib.hid (Ma.parse_print hme hne (by omega))
    rw [hpd] at hP
    generalize Ma.allText (main :: parts) = T at hP hbck htl
    have k2 := (Below.refl w2.heap.size w2).alloc (Nat.le_refl _) (.cells #[.slice A1 main.length c1, .slice B1 parts.length d1] 27)
    have q2 : (w2.alloc (.cells #[.slice A1 main.length c1, .slice B1 parts.length d1] 27)).heap[w2.heap.size]? = some (.cells #[.slice A1 main.length c1, .slice B1 parts.length d1] 27 (0, 0)) := heap_alloc_new _ _
    have HA1 := Lib.hid (hA1.grow k2)
    have HB1 := Lib.hid (hB1.grow k2)
    have K2 := Lib.hid (Below.after' J2.out k2 (Nat.le_refl _))
    have z2 : w2.heap.size < (w2.alloc (.cells #[.slice A1 main.length c1, .slice B1 parts.length d1] 27)).heap.size := (Array.getElem?_eq_some_iff.1 q2).1
    have Q2 := Lib.hid q2
    have f0 : (w2.alloc (.cells #[.slice A1 main.length c1, .slice B1 parts.length d1] 27)).cell? ⟨w2.heap.size, 0, none⟩ = some (.slice A1 main.length c1) := (blk_facts q2).1 0
    have f1 : (w2.alloc (.cells #[.slice A1 main.length c1, .slice B1 parts.length d1] 27)).cell? ⟨w2.heap.size, 1, none⟩ = some (.slice B1 parts.length d1) := (blk_facts q2).1 1
    clear hM hA1 hB1 k2 q2 hs1 hs2 hpd hme hne hsm hbk her
    go_wp2_with fail
    refine (hP.out A1 c1 B1 d1 _ HA1.out HB1.out).mono ?_
    rintro e w3 ⟨A', c', rfl, hAt, hb⟩
    have J3 := Lib.hid (Below.after' K2.out hb (Nat.le_refl _))
    have hq3 := (hb.block _ z2).trans Q2.out
    have z3 : w2.heap.size < w3.heap.size := (Array.getElem?_eq_some_iff.1 hq3).1
    have Q3 := Lib.hid hq3
    have HAT := Lib.hid hAt
    have HA3 := Lib.hid (HA1.out.grow hb)
    have HB3 := Lib.hid (HB1.out.grow hb)
    clear hb hq3 hAt f0 f1 HA1 HB1 Q2 z2
    go_wp2_with fail
    have hpp := parse_any A' c' T w3 HAT.out (by omega) (max_below HM.out J3.out)
    rw [hbck.out] at hpp
    refine (show Calls Try.prog 8 #[.slice A' T.length c'] w3 _ from hpp).mono ?_
    rintro e w4 ⟨v, rfl, hMn, hb⟩
    obtain ⟨A2, c2, B2, d2, rfl, hA2, hB2⟩ := (show Mani w4 v main parts from hMn)
    have J4 := Lib.hid (Below.after' J3.out hb (Nat.le_refl _))
    have hq4 := (hb.block _ z3).trans Q3.out
    have z4 : w2.heap.size < w4.heap.size := (Array.getElem?_eq_some_iff.1 hq4).1
    have k4 := (Below.refl w4.heap.size w4).alloc (Nat.le_refl _) (.cells #[.slice A2 main.length c2, .slice B2 parts.length d2] 27)
    have q4 : (w4.alloc (.cells #[.slice A2 main.length c2, .slice B2 parts.length d2] 27)).heap[w4.heap.size]? = some (.cells #[.slice A2 main.length c2, .slice B2 parts.length d2] 27 (0, 0)) := heap_alloc_new _ _
    have K4 := Lib.hid (Below.after' J4.out k4 (Nat.le_refl _))
    have Q4 := Lib.hid q4
    have Q4' := Lib.hid ((k4.block _ z4).trans hq4)
    have HA2 := Lib.hid (hA2.grow k4)
    have HB2 := Lib.hid (hB2.grow k4)
    have HAT4 := Lib.hid (HAT.out.grow (Below.after' hb k4 (Nat.le_refl _)))
    have HA4 := Lib.hid (HA3.out.grow (Below.after' hb k4 (Nat.le_refl _)))
    have HB4 := Lib.hid (HB3.out.grow (Below.after' hb k4 (Nat.le_refl _)))
    have zz : w4.heap.size < (w4.alloc (.cells #[.slice A2 main.length c2, .slice B2 parts.length d2] 27)).heap.size := (Array.getElem?_eq_some_iff.1 q4).1
    have zy : w2.heap.size < (w4.alloc (.cells #[.slice A2 main.length c2, .slice B2 parts.length d2] 27)).heap.size := Nat.lt_trans z4 zz
    have g2 : (w4.alloc (.cells #[.slice A2 main.length c2, .slice B2 parts.length d2] 27)).cell? ⟨w4.heap.size, 0, none⟩ = some (.slice A2 main.length c2) := (blk_facts q4).1 0
    have g3 : (w4.alloc (.cells #[.slice A2 main.length c2, .slice B2 parts.length d2] 27)).cell? ⟨w4.heap.size, 1, none⟩ = some (.slice B2 parts.length d2) := (blk_facts q4).1 1
    clear hpp hMn hA2 hB2 hb hq4 k4 q4 HAT HA3 HB3 Q3 z3 z4
    go_wp2_with fail
    refine (hP.out A2 c2 B2 d2 _ HA2.out HB2.out).mono ?_
    rintro e w5 ⟨A'', c'', rfl, hAt, hb⟩
    have J5 := Lib.hid (Below.after' K4.out hb (Nat.le_refl _))
    have hcv1 := (HAT4.out.grow hb).text
    have hcv2 := hAt.text
    have HA5 := Lib.hid (HA4.out.grow hb)
    have HB5 := Lib.hid (HB4.out.grow hb)
    have HA6 := Lib.hid (HA2.out.grow hb)
    have HB6 := Lib.hid (HB2.out.grow hb)
    have hq5 := (hb.block _ zz).trans Q4.out
    have hq6 := (hb.block _ zy).trans Q4'.out
    have i0 : w5.cell? ⟨w4.heap.size, 0, none⟩ = some (.slice A2 main.length c2) := (blk_facts hq5).1 0
    have i1 : w5.cell? ⟨w4.heap.size, 1, none⟩ = some (.slice B2 parts.length d2) := (blk_facts hq5).1 1
    have i2 : w5.cell? ⟨w2.heap.size, 0, none⟩ = some (.slice A1 main.length c1) := (blk_facts hq6).1 0
    have i3 : w5.cell? ⟨w2.heap.size, 1, none⟩ = some (.slice B1 parts.length d1) := (blk_facts hq6).1 1
    have u5 : ((bs T).toList == (bs T).toList) = true := by simp
    clear hb hAt hq5 hq6 g2 g3 HA4 HB4 HA2 HB2 HAT4 zz zy Q4 Q4'
    go_wp2_with fail
    refine (hS.out A1 c1 B1 d1 A2 c2 B2 d2 w5 HA5.out HB5.out HA6.out HB6.out).mono ?_
    rintro e w6 ⟨rfl, hb⟩
    have J6 := Lib.hid (Below.after' J5.out hb (Nat.le_refl _))
    clear hb hcv1 hcv2 i0 i1 i2 i3
    go_wp2
    go_ret
    exact ⟨rfl, J6.out⟩
  · have hnil := her.out he
    subst hnil
    obtain ⟨A1, c1, B1, d1, rfl, hA1, hB1⟩ := (show Mani w2 v [] [] from hM)
    have k2 := (Below.refl w2.heap.size w2).alloc (Nat.le_refl _) (.cells #[.slice A1 0 c1, .slice B1 0 d1] 27)
    have q2 : (w2.alloc (.cells #[.slice A1 0 c1, .slice B1 0 d1] 27)).heap[w2.heap.size]? = some (.cells #[.slice A1 0 c1, .slice B1 0 d1] 27 (0, 0)) := heap_alloc_new _ _
    have f0 : (w2.alloc (.cells #[.slice A1 0 c1, .slice B1 0 d1] 27)).cell? ⟨w2.heap.size, 0, none⟩ = some (.slice A1 0 c1) := (blk_facts q2).1 0
    have f1 : (w2.alloc (.cells #[.slice A1 0 c1, .slice B1 0 d1] 27)).cell? ⟨w2.heap.size, 1, none⟩ = some (.slice B1 0 d1) := (blk_facts q2).1 1
    have hS := same_any A1 c1 [] B1 d1 [] none 0 [] none 0 [] (w2.alloc (.cells #[.slice A1 0 c1, .slice B1 0 d1] 27)) (hA1.grow k2) (hB1.grow k2) (Prs.nil _ _ _) (PNest.nil _ _ _) (by simp) (by simp) (fun s hs => by simp at hs; subst hs; simp)
    have K2 := Lib.hid (Below.after' J2.out k2 (Nat.le_refl _))
    have u5 : ((er : Int) != 0) = true := by simp; omega
    have HS := Lib.hid hS
    clear hM hA1 hB1 k2 q2 hS hsm hbk her
    go_wp2_with fail
    refine (show Calls Try.prog 10 #[.agg #[.slice A1 0 c1, .slice B1 0 d1], .agg #[.slice none 0 0, .slice none 0 0]] _ _ from HS.out).mono ?_
    rintro e w6 ⟨rfl, hb⟩
    have J6 := Lib.hid (Below.after' K2.out hb (Nat.le_refl _))
    clear hb f0 f1
    go_wp2
    go_ret
    exact ⟨rfl, J6.out⟩
end Go.Proofs.Ytbjhnfemlpbchaa
