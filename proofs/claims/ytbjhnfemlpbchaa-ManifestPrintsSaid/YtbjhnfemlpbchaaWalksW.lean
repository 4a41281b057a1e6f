/- The walk of layer 14: the same manifests. -/
import Derived.Test.YtbjhnfemlpbchaaWalksO
import Derived.Test.YtbjhnfemlpbchaaConcat
import Derived.Test.YtbjhnfemlpbchaaOrdA
import Derived.Laws.StructEq
import Derived.Deep.QuietTactic
import Derived.BigQuiet
namespace Go.Proofs.Ytbjhnfemlpbchaa
open Go.RowKit

theorem pr_neq (p q : Pr) (W : World) : (binOp .neq 44 (.agg #[.string (bs p.1), .string (bs p.2)]) (.agg #[.string (bs q.1), .string (bs q.2)])).run Try.prog W = .ok (.bool (!decide (p = q))) W := by
  rw [run_neq_struct]
  go_simp
  rw [bs_list, bs_list, bs_list, bs_list]
  by_cases h1 : p.1 = q.1
  · by_cases h2 : p.2 = q.2
    · rw [if_pos h1, if_pos h2, decide_eq_true (Prod.ext h1 h2)]; rfl
    · rw [if_pos h1, if_neg h2, decide_eq_false (fun e => h2 (by rw [e]))]; rfl
  · rw [if_neg h1, decide_eq_false (fun e => h1 (by rw [e]))]; rfl
theorem take_snoc_eq {α : Type} {x y : List α} {i : Nat} {a b : α} (h : x.take i = y.take i) (ha : x[i]? = some a) (hb : y[i]? = some b) (e : a = b) : x.take (i + 1) = y.take (i + 1) := by
  obtain ⟨h1, rfl⟩ := List.getElem?_eq_some_iff.1 ha
  obtain ⟨h2, rfl⟩ := List.getElem?_eq_some_iff.1 hb
  rw [List.take_succ_eq_append_getElem h1, List.take_succ_eq_append_getElem h2, h, e]

set_option maxHeartbeats 8000000 in
set_option maxRecDepth 100000 in
theorem same_any (A1 : Option Addr) (c1 : Nat) (m1 : List Pr) (B1 : Option Addr) (d1 : Nat) (p1 : List (List Pr)) (A2 : Option Addr) (c2 : Nat) (m2 : List Pr) (B2 : Option Addr) (d2 : Nat) (p2 : List (List Pr)) (w : World)
    (hA1 : Prs w A1 c1 m1) (hB1 : PNest w B1 d1 p1) (hA2 : Prs w A2 c2 m2) (hB2 : PNest w B2 d2 p2) (hn1 : p1.length ≤ 1000000) (hn2 : p2.length ≤ 1000000) (hl1 : ∀ s ∈ m1 :: p1, s.length ≤ 1000000000000) :
    Calls Try.prog 10 #[.agg #[.slice A1 m1.length c1, .slice B1 p1.length d1], .agg #[.slice A2 m2.length c2, .slice B2 p2.length d2]] w fun e w' => e = .returned (.bool (decide (m1 :: p1 = m2 :: p2))) ∧ Below w.heap.size w w' := by
  obtain ⟨v1, hv1, hs1⟩ := hB1.src2
  obtain ⟨v2, hv2, hs2⟩ := hB2.src2
  have R1 := Lib.hid (hv1.cons hA1)
  have R2 := Lib.hid (hv2.cons hA2)
  have S1 := Lib.hid hs1
  have S2 := Lib.hid hs2
  have HL := Lib.hid hl1
  obtain ⟨r, hr⟩ : ∃ r, r = decide (m1 :: p1 = m2 :: p2) := ⟨_, rfl⟩
  rw [← hr]
  have HR := Lib.hid hr
  obtain ⟨i0, hi, hz0, hz1, hz2⟩ := info_parts infoPairs
  clear hA1 hB1 hA2 hB2 hv1 hv2 hs1 hs2 hl1 hr
  go_enter Try.func10, Try.ntmps10
  go_wp2_with fail
  have k0 := ((Below.refl w.heap.size w).alloc (Nat.le_refl _) (.cells #[.slice A1 m1.length c1, .slice B1 p1.length d1] 27)).alloc (by simp) (.cells #[.slice A2 m2.length c2, .slice B2 p2.length d2] 27)
  have q1 : ((w.alloc (.cells #[.slice A1 m1.length c1, .slice B1 p1.length d1] 27)).alloc (.cells #[.slice A2 m2.length c2, .slice B2 p2.length d2] 27)).heap[w.heap.size]? = some (.cells #[.slice A1 m1.length c1, .slice B1 p1.length d1] 27 (0, 0)) := by
    rw [Below.heap_alloc _ _ _ (by simp)]; exact heap_alloc_new _ _
  have q2 : ((w.alloc (.cells #[.slice A1 m1.length c1, .slice B1 p1.length d1] 27)).alloc (.cells #[.slice A2 m2.length c2, .slice B2 p2.length d2] 27)).heap[w.heap.size + 1]? = some (.cells #[.slice A2 m2.length c2, .slice B2 p2.length d2] 27 (0, 0)) := by
    have := heap_alloc_new (w.alloc (.cells #[.slice A1 m1.length c1, .slice B1 p1.length d1] 27)) (.cells #[.slice A2 m2.length c2, .slice B2 p2.length d2] 27)
    rwa [World.size_alloc] at this
  generalize (w.alloc (.cells #[.slice A1 m1.length c1, .slice B1 p1.length d1] 27)).alloc (.cells #[.slice A2 m2.length c2, .slice B2 p2.length d2] 27) = W at q1 q2 k0 ⊢
  have e0 : W.cell? ⟨w.heap.size, 0, none⟩ = some (.slice A1 m1.length c1) := (blk_facts q1).1 0
  have e1 : W.cell? ⟨w.heap.size, 1, none⟩ = some (.slice B1 p1.length d1) := (blk_facts q1).1 1
  have e2 : W.cell? ⟨w.heap.size + 1, 0, none⟩ = some (.slice A2 m2.length c2) := (blk_facts q2).1 0
  have e3 : W.cell? ⟨w.heap.size + 1, 1, none⟩ = some (.slice B2 p2.length d2) := (blk_facts q2).1 1
  have z1 : w.heap.size < W.drew.heap.size := (Array.getElem?_eq_some_iff.1 q1).1
  have z2 : w.heap.size + 1 < W.drew.heap.size := (Array.getElem?_eq_some_iff.1 q2).1
  have K0 := Lib.hid k0.drew
  clear q1 q2 k0
  refine OrdA.wp_region_ord 12 (by kernel_rfl) (by kernel_rfl) (fun _ _ d _ _ h => by cases d <;> exact h) ?_
  simp only [List.take_succ_cons, List.take_zero, List.drop_succ_cons, List.drop_zero]
  repeat (first | (refine OrdA.wpLex_skip rfl rfl ?_; simp only [Act.put, List.setIfInBounds_toArray, List.set_cons_zero, List.set_cons_succ]) | (refine OrdA.wpLex_fix rfl rfl ?_; intro F hF R hR hne K hK; go_big_quiet_op; first | (go_big_quiet_on; clear hne hR R hF F) | (apply Exists.intro; refine ⟨fun g => ?_, ?_⟩; (((first | (rw [GrE.cell g _ _ z1]; go_simp; first | exact ⟨rfl, rfl⟩ | rfl) | (rw [GrE.cell g _ _ z2]; go_simp; first | exact ⟨rfl, rfl⟩ | rfl) | (go_simp; (repeat (simp only [GrE.cell g _ _ z1, GrE.cell g _ _ z2]; go_simp)); first | exact ⟨rfl, rfl⟩ | rfl)))); go_big_quiet_on; clear hne hR R hF F)) | (apply OrdA.wpLex_blk rfl rfl; (focus (intro x hx; go_simp; exact ⟨rfl, rfl⟩)); intro B hB; simp only [Act.put, blkVal, List.setIfInBounds_toArray, List.set_cons_zero, List.set_cons_succ]))
  refine OrdA.wpLex_app rfl _ _ 25 25 rfl w.heap.size 24 i0 _ 24 Try.underlying25 hi hz0 hz1 hz2 rfl B (.slice A1 m1.length c1) rfl hB (K0.out.size) (fun x hx => (hx.fact 11 B _ ⟨by kernel_rfl, .inr ⟨rfl, rfl, rfl⟩⟩).2) (.slice B1 p1.length d1) p1.length v1 rfl (fun x hx => S1.out x (Below.after' K0.out hx.below (Nat.le_refl _))) (by unfold maxLen; omega) (by omega) ?_
  intro g1 cp1 ob1 hg1 hr1
  simp only [Act.put, List.setIfInBounds_toArray, List.set_cons_zero, List.set_cons_succ]
  repeat (first | (refine OrdA.wpLex_skip rfl rfl ?_; simp only [Act.put, List.setIfInBounds_toArray, List.set_cons_zero, List.set_cons_succ]) | (refine OrdA.wpLex_fix rfl rfl ?_; intro F hF R hR hne K hK; go_big_quiet_op; first | (go_big_quiet_on; clear hne hR R hF F) | (apply Exists.intro; refine ⟨fun g => ?_, ?_⟩; (((first | (rw [GrE.cell g _ _ z1]; go_simp; first | exact ⟨rfl, rfl⟩ | rfl) | (rw [GrE.cell g _ _ z2]; go_simp; first | exact ⟨rfl, rfl⟩ | rfl) | (go_simp; (repeat (simp only [GrE.cell g _ _ z1, GrE.cell g _ _ z2]; go_simp)); first | exact ⟨rfl, rfl⟩ | rfl)))); go_big_quiet_on; clear hne hR R hF F)) | (apply OrdA.wpLex_blk rfl rfl; (focus (intro x hx; go_simp; exact ⟨rfl, rfl⟩)); intro B hB; simp only [Act.put, blkVal, List.setIfInBounds_toArray, List.set_cons_zero, List.set_cons_succ]))
  refine OrdA.wpLex_app rfl _ _ 25 25 rfl w.heap.size 24 i0 _ 24 Try.underlying25 hi hz0 hz1 hz2 rfl B (.slice A2 m2.length c2) rfl hB (K0.out.size) (fun x hx => (hx.fact 17 B _ ⟨by kernel_rfl, .inr ⟨rfl, rfl, rfl⟩⟩).2) (.slice B2 p2.length d2) p2.length v2 rfl (fun x hx => S2.out x (Below.after' K0.out hx.below (Nat.le_refl _))) (by unfold maxLen; omega) (by omega) ?_
  intro g2 cp2 ob2 hg2 hr2
  simp only [Act.put, List.setIfInBounds_toArray, List.set_cons_zero, List.set_cons_succ]
  refine OrdA.wpLex_nil ?_
  intro w1 hw1
  have f1 := (hw1.fact 14 g1 ob1 (by simp [Env.upd])).2
  have f2 := (hw1.fact 20 g2 ob2 (by simp [Env.upd])).2
  have P1 := Lib.hid (show PAll w w1 (.slice (some ⟨g1, 0, none⟩) (1 + p1.length) cp1) (m1 :: p1) from ⟨_, by have h := hr1 w1 f1; rwa [Nat.add_comm] at h ⊢, R1.out⟩)
  have P2 := Lib.hid (show PAll w w1 (.slice (some ⟨g2, 0, none⟩) (1 + p2.length) cp2) (m2 :: p2) from ⟨_, by have h := hr2 w1 f2; rwa [Nat.add_comm] at h ⊢, R2.out⟩)
  have J1 := Lib.hid (Below.after' K0.out hw1.below (Nat.le_refl _))
  have hx1 : 1 + p1.length = (m1 :: p1).length := by simp; omega
  have hx2 : 1 + p2.length = (m2 :: p2).length := by simp; omega
  rw [hx1] at P1 ⊢
  rw [hx2] at P2 ⊢
  have hxl : (m1 :: p1).length ≤ 1000001 := by simp; omega
  have hyl : (m2 :: p2).length ≤ 1000001 := by simp; omega
  clear hw1 f1 f2 hr1 hr2 e0 e1 e2 e3 hx1 hx2 R1 R2 S1 S2 hi hz0 hz1 hz2
  generalize m1 :: p1 = xs at P1 HL hxl HR ⊢
  generalize m2 :: p2 = ys at P2 hyl HR ⊢
  by_cases hne : xs.length = ys.length
  · have u1 : ((xs.length : Int) != (ys.length : Int)) = false := by rw [hne]; simp
    go_wp2_with fail
    go_loopw [28] (fun u wr => ∃ i : Nat, i ≤ xs.length ∧ u = .int .i64 i ∧ Below w1.heap.size w1 wr ∧ xs.take i = ys.take i) (fun u _ => xs.length - (intOf u).toNat)
    case atStart => exact ⟨0, Nat.zero_le _, rfl, Below.refl _ _, rfl⟩
    case round =>
      obtain ⟨i, hil, rfl, hB, heq⟩ := hrel
      have HB := Lib.hid hB
      have HEQ := Lib.hid heq
      by_cases hi : i < xs.length
      · obtain ⟨x, B1, d1, hx, hg1, hc1, hpx⟩ := P1.out.at_ hi
        obtain ⟨y, B2, d2, hy, hg2, hc2, hpy⟩ := P2.out.at_ (i := i) (by omega)
        have c1 := (hB.cell (p := ⟨g1, i, none⟩) hg1).trans hc1
        have c2 := (hB.cell (p := ⟨g2, i, none⟩) hg2).trans hc2
        have HC1 := Lib.hid hc1
        have HC2 := Lib.hid hc2
        have HPX := Lib.hid hpx
        have HPY := Lib.hid hpy
        have HXI := Lib.hid hx
        have HYI := Lib.hid hy
        have hxlen := HL.out x (List.mem_of_getElem? hx)
        have p4 : decide ((i : Int) < (xs.length : Int)) = true := decide_eq_true (by omega)
        have p5 : decide ((i : Int) < (ys.length : Int)) = true := decide_eq_true (by omega)
        have p6 : decide (i < xs.length) = true := decide_eq_true (by omega)
        have p7 : decide (i < ys.length) = true := decide_eq_true (by omega)
        clear hB hx hy hpx hpy heq hc1 hc2
        go_wp2_with fail
        by_cases hlen : x.length = y.length
        · have u2 : ((x.length : Int) != (y.length : Int)) = false := by rw [hlen]; simp
          go_quiet (fail)
          go_wp2_with fail
          go_loopw [47] (fun u wq => ∃ k : Nat, k ≤ x.length ∧ u = .int .i64 k ∧ Below w1.heap.size w1 wq ∧ x.take k = y.take k) (fun u _ => x.length - (intOf u).toNat)
          case atStart => exact ⟨0, Nat.zero_le _, rfl, below_drewN HB.out _, rfl⟩
          case round =>
            rename World => wq
            obtain ⟨k, hkl, rfl, hB2, heq2⟩ := hrel
            have HB2 := Lib.hid hB2
            have HEQ2 := Lib.hid heq2
            by_cases hk : k < x.length
            · have c1 := (hB2.cell (p := ⟨g1, i, none⟩) hg1).trans HC1.out
              have c2 := (hB2.cell (p := ⟨g2, i, none⟩) hg2).trans HC2.out
              have hBw := Lib.hid (Below.after' J1.out hB2 (Nat.le_refl _))
              obtain ⟨gx, ox, p, rfl, _, hp, e1, e2⟩ := (HPX.out.grow hBw.out).at_ hk
              obtain ⟨gy, oy, q, rfl, _, hq, e3, e4⟩ := (HPY.out.grow hBw.out).at_ (i := k) (by omega)
              have HP := Lib.hid hp
              have HQ := Lib.hid hq
              have p8 : decide ((k : Int) < (x.length : Int)) = true := decide_eq_true (by omega)
              have p9 : decide ((k : Int) < (y.length : Int)) = true := decide_eq_true (by omega)
              have p10 : decide (k < x.length) = true := decide_eq_true (by omega)
              have p11 : decide (k < y.length) = true := decide_eq_true (by omega)
              have hpq := pr_neq p q
              clear hB2 hp hq heq2
              by_cases hE : p = q
              · rw [decide_eq_true hE] at hpq
                simp only [Bool.not_true] at hpq
                have HN := Lib.hid (take_snoc_eq HEQ2.out HP.out HQ.out hE)
                clear hE
                go_wp2_with fail
                go_quiet (fail)
                go_wp2
                go_roundw
                case rel => exact ⟨k + 1, by omega, by go_num, below_drewN HB2.out _, HN.out⟩
                case measure => simp [intOf]; omega
              · rw [decide_eq_false hE] at hpq
                simp only [Bool.not_false] at hpq
                obtain rfl : r = false := HR.out.trans (decide_eq_false fun e => by
                  rw [e] at HXI
                  have h1 := HXI.out.symm.trans HYI.out
                  injection h1 with h1
                  rw [h1] at HP
                  have h2 := HP.out.symm.trans HQ.out
                  injection h2 with h2
                  exact hE h2)
                clear hE
                go_wp2_with fail
                go_quiet (fail)
                go_wp2
                go_ret
                exact ⟨rfl, below_drewN hBw.out _⟩
            · have HN := Lib.hid (take_snoc_eq HEQ.out HXI.out HYI.out (by
                have := heq2
                rwa [List.take_of_length_le (by omega), List.take_of_length_le (by omega)] at this))
              have p8 : decide ((k : Int) < (x.length : Int)) = false := decide_eq_false (by omega)
              have p10 : decide (k < x.length) = false := decide_eq_false (by omega)
              clear hB2 heq2
              go_wp2
              go_roundw
              case rel => exact ⟨i + 1, by omega, by go_num, HB2.out, HN.out⟩
              case measure => simp [intOf]; omega
        · have u2 : ((x.length : Int) != (y.length : Int)) = true := by simp; omega
          obtain rfl : r = false := HR.out.trans (decide_eq_false fun e => by
            rw [e, HYI.out] at HXI
            have := HXI.out
            injection this with e2
            exact hlen (by rw [e2]))
          go_quiet (fail)
          go_wp2
          go_ret
          exact ⟨rfl, below_drewN (Below.after' J1.out HB.out (Nat.le_refl _)) _⟩
      · obtain rfl : r = true := HR.out.trans (decide_eq_true (by
          have := HEQ.out
          rwa [List.take_of_length_le (by omega), List.take_of_length_le (by omega)] at this))
        have p4 : decide ((i : Int) < (xs.length : Int)) = false := decide_eq_false (by omega)
        have p6 : decide (i < xs.length) = false := decide_eq_false (by omega)
        clear hB heq
        go_wp2
        go_ret
        exact ⟨rfl, Below.after' J1.out HB.out (Nat.le_refl _)⟩
  · have u1 : ((xs.length : Int) != (ys.length : Int)) = true := by simp; omega
    obtain rfl : r = false := HR.out.trans (decide_eq_false fun e => hne (congrArg _ e))
    go_wp2
    go_ret
    exact ⟨rfl, J1.out⟩
end Go.Proofs.Ytbjhnfemlpbchaa
