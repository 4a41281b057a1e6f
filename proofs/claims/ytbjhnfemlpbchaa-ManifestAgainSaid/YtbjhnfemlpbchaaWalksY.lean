/- The walks of layer 14: how great a manifest is; what is wrong with one; what the reference prints. -/
import Derived.Test.YtbjhnfemlpbchaaConcat
import Derived.Test.YtbjhnfemlpbchaaWalksU
import Derived.Test.YtbjhnfemlpbchaaPlainF
import Derived.Test.YtbjhnfemlpbchaaWalksD
import Derived.Test.YtbjhnfemlpbchaaWalksK
namespace Go.Proofs.Ytbjhnfemlpbchaa
open Go.RowKit

/-- Few headers, none of them long. -/
def Ma.fewS (s : List Pr) : Prop := s.length ≤ 20 ∧ ∀ p ∈ s, p.1.length ≤ 100 ∧ p.2.length ≤ 400
theorem take_all {α : Type} {q : α → Prop} {l : List α} {i : Nat} {x : α} (h : ∀ y ∈ l.take i, q y) (hx : l[i]? = some x) (hq : q x) : ∀ y ∈ l.take (i + 1), q y := by
  obtain ⟨h1, rfl⟩ := List.getElem?_eq_some_iff.1 hx
  rw [List.take_succ_eq_append_getElem h1]
  intro y hy
  rcases List.mem_append.1 hy with hy | hy
  · exact h y hy
  · rw [List.mem_singleton] at hy; rw [hy]; exact hq
theorem two_allocs (w : World) (o1 o2 : Obj) : ((w.alloc o1).alloc o2).heap[w.heap.size]? = some o1 ∧ ((w.alloc o1).alloc o2).heap[w.heap.size + 1]? = some o2 := by
  constructor
  · rw [Below.heap_alloc _ _ _ (by simp)]; exact heap_alloc_new _ _
  · have := heap_alloc_new (w.alloc o1) o2
    rwa [World.size_alloc] at this

set_option maxHeartbeats 8000000 in
set_option maxRecDepth 100000 in
theorem few_any (A : Option Addr) (c : Nat) (main : List Pr) (B : Option Addr) (d : Nat) (parts : List (List Pr)) (w : World) (hA : Prs w A c main) (hB : PNest w B d parts) (hn : (parts.length + 1) * 24 ≤ 140737488355328)
    (hs : ∀ s ∈ main :: parts, s.length ≤ 140737488355328 ∧ ∀ p ∈ s, p.1.length ≤ 140737488355328 ∧ p.2.length ≤ 140737488355328) :
    Calls Try.prog 11 #[.agg #[.slice A main.length c, .slice B parts.length d]] w fun e w' => ∃ r, e = .returned (.bool r) ∧ (r = true → parts.length ≤ 10 ∧ ∀ s ∈ main :: parts, Ma.fewS s) ∧ Below w.heap.size w w' := by
  have HA := Lib.hid hA
  have HB := Lib.hid hB
  obtain ⟨all, hall⟩ : ∃ all, all = main :: parts := ⟨_, rfl⟩
  have hal : all.length = parts.length + 1 := by rw [hall]; simp
  rw [← hall] at hs ⊢
  have HS := Lib.hid hs
  have Hall := Lib.hid hall
  clear hA hB hs hall
  go_enter Try.func11, Try.ntmps11
  have t := two_allocs w (.cells #[.slice A main.length c, .slice B parts.length d] 27) (.cells #[.slice A main.length c] 24)
  have k0 := ((Below.refl w.heap.size w).alloc (Nat.le_refl _) (.cells #[.slice A main.length c, .slice B parts.length d] 27)).alloc (by simp) (.cells #[.slice A main.length c] 24)
  have hPA := Lib.hid (show PAll w ((w.alloc (.cells #[.slice A main.length c, .slice B parts.length d] 27)).alloc (.cells #[.slice A main.length c] 24)) (.slice (some ⟨w.heap.size + 1, 0, none⟩) 1 1) [main] from ⟨_, own_of_block t.2 (by omega), RV.cons ⟨rfl, fun j u x hu => by simp at hu⟩ HA.out⟩)
  have T1 := Lib.hid t.1
  have K0 := Lib.hid k0
  clear t k0
  go_wp2_with (at_builtin; refine wpList_appParts (w0 := w) rfl _ _ rfl (.slice (some ⟨w.heap.size + 1, 0, none⟩) 1 1) (.slice B parts.length d) [main] parts rfl rfl hPA.out (HB.out.src K0.out) K0.out (by simp only [List.length_cons, List.length_nil]; omega) ?_)
  intro v1 w1 hP1 hh1 hB1
  have hP2 : PAll w w1 v1 all := by rw [Hall.out]; exact hP1
  obtain ⟨ga, ca, rfl, hga, hca⟩ := hP2.reads (by omega)
  have hX := hh1.below (B := w.heap.size + 1) (by simp) (fun k e => by simp [Value.ownBlock] at e; omega)
  have hq1 := (hX.block w.heap.size (by omega)).trans T1.out
  have Q1 := Lib.hid hq1
  have hlt1 : w.heap.size < w1.heap.size := (Array.getElem?_eq_some_iff.1 hq1).1
  have P2 := Lib.hid hP2
  have HB1 := Lib.hid hB1
  clear hP1 hP2 hh1 hB1 hX hq1 T1 hPA K0
  go_wp2_with fail
  go_loopw [14] (fun u wr => ∃ i : Nat, i ≤ all.length ∧ u = .int .i64 i ∧ Below w1.heap.size w1 wr ∧ ∀ s ∈ all.take i, Ma.fewS s) (fun u _ => all.length - (intOf u).toNat)
  case atStart => exact ⟨0, Nat.zero_le _, rfl, Below.refl _ _, fun s hs => by simp at hs⟩
  case round =>
    obtain ⟨i, hil, rfl, hB, hF⟩ := hrel
    have HBi := Lib.hid hB
    have HF := Lib.hid hF
    have HW := Lib.hid (Below.after' HB1.out hB (Nat.le_refl _))
    by_cases hi : i < all.length
    · obtain ⟨x, Bx, dx, hx, hgz, hc1, hpx⟩ := P2.out.at_ hi
      have c1 := (hB.cell (p := ⟨ga, i, none⟩) hgz).trans hc1
      have HPX := Lib.hid hpx
      have HXI := Lib.hid hx
      obtain ⟨hxl, hxp⟩ := HS.out x (List.mem_of_getElem? hx)
      have HXP := Lib.hid hxp
      clear hB hx hpx hc1 hF hxp
      go_wp2_with fail
      go_loopw [20] (fun u wq => ∃ k : Nat, k ≤ x.length ∧ u = .int .i64 k ∧ Below w1.heap.size w1 wq ∧ ∀ p ∈ x.take k, p.1.length ≤ 100 ∧ p.2.length ≤ 400) (fun u _ => x.length - (intOf u).toNat)
      case atStart => exact ⟨0, Nat.zero_le _, rfl, HBi.out, fun s hs => by simp at hs⟩
      case round =>
        rename World => wq
        obtain ⟨k, hkl, rfl, hB2, hF2⟩ := hrel
        have HB2 := Lib.hid hB2
        have HF2 := Lib.hid hF2
        have HW2 := Lib.hid (Below.after' HB1.out hB2 (Nat.le_refl _))
        by_cases hk : k < x.length
        · obtain ⟨gx, ox, p, rfl, hgx, hp, e1, e2⟩ := (HPX.out.grow HW2.out).at_ hk
          obtain ⟨hp1, hp2⟩ := HXP.out p (List.mem_of_getElem? hp)
          have HP := Lib.hid hp
          have hz1 := bs_size p.1
          have hz2 := bs_size p.2
          clear hB2 hF2 hp
          by_cases g1 : 100 < p.1.length
          · have u1 : decide (100 < p.1.length) = true := decide_eq_true g1
            have u2 : decide ((100 : Int) < (p.1.length : Int)) = true := decide_eq_true (by omega)
            go_wp2
            go_ret
            exact ⟨false, rfl, fun h => by simp at h, HW2.out.alloc HW2.out.size _⟩
          · have u1 : decide (100 < p.1.length) = false := decide_eq_false g1
            have u2 : decide ((100 : Int) < (p.1.length : Int)) = false := decide_eq_false (by omega)
            by_cases g2 : 400 < p.2.length
            · have u3 : decide (400 < p.2.length) = true := decide_eq_true g2
              have u4 : decide ((400 : Int) < (p.2.length : Int)) = true := decide_eq_true (by omega)
              go_wp2
              go_ret
              exact ⟨false, rfl, fun h => by simp at h, HW2.out.alloc HW2.out.size _⟩
            · have u3 : decide (400 < p.2.length) = false := decide_eq_false g2
              have u4 : decide ((400 : Int) < (p.2.length : Int)) = false := decide_eq_false (by omega)
              have HN := Lib.hid (take_all (q := fun p => p.1.length ≤ 100 ∧ p.2.length ≤ 400) HF2.out HP.out ⟨by omega, by omega⟩)
              go_wp2
              go_roundw
              case rel => exact ⟨k + 1, by omega, by go_num, HB2.out.alloc HB2.out.size _, HN.out⟩
              case measure => simp [intOf]; omega
        · rw [List.take_of_length_le (by omega)] at hF2
          have HF3 := Lib.hid hF2
          clear hB2 hF2
          by_cases g3 : 20 < x.length
          · have u1 : decide (20 < x.length) = true := decide_eq_true g3
            have u2 : decide ((20 : Int) < (x.length : Int)) = true := decide_eq_true (by omega)
            go_wp2
            go_ret
            exact ⟨false, rfl, fun h => by simp at h, HW2.out⟩
          · have u1 : decide (20 < x.length) = false := decide_eq_false g3
            have u2 : decide ((20 : Int) < (x.length : Int)) = false := decide_eq_false (by omega)
            have HN := Lib.hid (take_all (q := Ma.fewS) HF.out HXI.out ⟨by omega, HF3.out⟩)
            go_wp2
            go_roundw
            case rel => exact ⟨i + 1, by omega, by go_num, HB2.out, HN.out⟩
            case measure => simp [intOf]; omega
    · rw [List.take_of_length_le (by omega)] at hF
      have q := (hB.block w.heap.size hlt1).trans Q1.out
      have HF3 := Lib.hid hF
      have e1 : wr.cell? ⟨w.heap.size, 1, none⟩ = some (.slice B parts.length d) := (blk_facts q).1 1
      clear hB hF q
      go_wp2
      go_ret
      exact ⟨_, rfl, fun h => ⟨by simp at h; omega, HF3.out⟩, HW.out⟩

theorem Prs.take {w : World} {A : Option Addr} {c : Nat} {xs : List Pr} (h : Prs w A c xs) (k : Nat) : Prs w A c (xs.take k) := by
  refine ⟨Nat.le_trans (by rw [List.length_take]; omega) h.1, fun hp => ?_⟩
  rw [List.length_take] at hp
  obtain ⟨g, o, e, hg, hc⟩ := h.2 (by omega)
  refine ⟨g, o, e, hg, fun j p hj => hc j p ?_⟩
  rw [List.getElem?_take] at hj
  split at hj
  · exact hj
  · cases hj

set_option maxHeartbeats 8000000 in
set_option maxRecDepth 100000 in
theorem rcheckm_any (A : Option Addr) (c : Nat) (main : List Pr) (B : Option Addr) (d : Nat) (parts : List (List Pr)) (w : World) (hA : Prs w A c main) (hB : PNest w B d parts) (hn : parts.length ≤ 10) (hs : ∀ s ∈ main :: parts, Ma.fewS s) :
    Calls Try.prog 13 #[.agg #[.slice A main.length c, .slice B parts.length d]] w fun e w' => e = .returned (.int .i64 (Ma.manErr true (main :: parts) : Nat)) ∧ Below w.heap.size w w' := by
  have HA := Lib.hid hA
  have HB := Lib.hid hB
  obtain ⟨all, hall⟩ : ∃ all, all = main :: parts := ⟨_, rfl⟩
  have hal : all.length = parts.length + 1 := by rw [hall]; simp
  rw [← hall] at hs ⊢
  have HS := Lib.hid hs
  have Hall := Lib.hid hall
  obtain ⟨er, her⟩ : ∃ er, er = Ma.manErr true all := ⟨_, rfl⟩
  rw [← her]
  have HER := Lib.hid her
  clear hA hB hs hall her
  go_enter Try.func13, Try.ntmps13
  have t := two_allocs w (.cells #[.slice A main.length c, .slice B parts.length d] 27) (.cells #[.slice A main.length c] 24)
  have k0 := ((Below.refl w.heap.size w).alloc (Nat.le_refl _) (.cells #[.slice A main.length c, .slice B parts.length d] 27)).alloc (by simp) (.cells #[.slice A main.length c] 24)
  have hPA := Lib.hid (show PAll w ((w.alloc (.cells #[.slice A main.length c, .slice B parts.length d] 27)).alloc (.cells #[.slice A main.length c] 24)) (.slice (some ⟨w.heap.size + 1, 0, none⟩) 1 1) [main] from ⟨_, own_of_block t.2 (by omega), RV.cons ⟨rfl, fun j u x hu => by simp at hu⟩ HA.out⟩)
  have K0 := Lib.hid k0
  clear t k0
  go_wp2_with (at_builtin; refine wpList_appParts (w0 := w) rfl _ _ rfl (.slice (some ⟨w.heap.size + 1, 0, none⟩) 1 1) (.slice B parts.length d) [main] parts rfl rfl hPA.out (HB.out.src K0.out) K0.out (by simp only [List.length_cons, List.length_nil]; omega) ?_)
  intro v1 wa hP1 hh1 hB1
  have hP2 : PAll w wa v1 all := by rw [Hall.out]; exact hP1
  obtain ⟨ga, ca, rfl, hga, hca⟩ := hP2.reads (by omega)
  have P2 := Lib.hid hP2
  have HB1 := Lib.hid hB1
  clear hP1 hP2 hh1 hB1 hPA K0
  go_wp2_with fail
  go_loopw [15] (fun u wr => ∃ i : Nat, i ≤ all.length ∧ u = .int .i64 i ∧ Below wa.heap.size wa wr ∧ er = Ma.manErr (i == 0) (all.drop i)) (fun u _ => all.length - (intOf u).toNat)
  case atStart => exact ⟨0, Nat.zero_le _, rfl, Below.refl _ _, HER.out⟩
  case round =>
    obtain ⟨i, hil, rfl, hB, hE⟩ := hrel
    have HBi := Lib.hid hB
    have HE := Lib.hid hE
    have HW := Lib.hid (Below.after' HB1.out hB (Nat.le_refl _))
    by_cases hi : i < all.length
    · obtain ⟨x, Bx, dx, hx, hgz, hc1, hpx⟩ := P2.out.at_ hi
      have c1 := (hB.cell (p := ⟨ga, i, none⟩) hgz).trans hc1
      have HPX := Lib.hid hpx
      obtain ⟨hxl, hxp⟩ := HS.out x (List.mem_of_getElem? hx)
      have HXP := Lib.hid hxp
      have hma := Lib.hid (hE.trans (Ma.manErr_at hx))
      have hmain : ((i : Int) == 0) = (i == 0) := by rw [Bool.eq_iff_iff]; simp
      have hcx := hpx.1
      clear hB hx hpx hc1 hE hxp
      generalize (i == 0) = mn at hma hmain HE
      by_cases hx0 : x = []
      · have u1 : ((x.length : Int) == 0) = true := by rw [hx0]; rfl
        have he2 : er = 2 := by rw [hma.out, if_pos hx0]
        subst he2
        clear hx0
        go_wp2
        go_ret
        exact ⟨rfl, HW.out⟩
      · have u1 : ((x.length : Int) == 0) = false := by
          rw [beq_eq_false_iff_ne]; intro h; exact hx0 (List.eq_nil_of_length_eq_zero (by omega))
        have hma2 := Lib.hid (hma.out.trans (if_neg hx0))
        clear hx0
        go_wp2_with fail
        go_loopw [25] (fun u wq => ∃ k : Nat, k ≤ x.length ∧ u = .int .i64 k ∧ Below wa.heap.size wa wq ∧ Ma.secErr mn [] x = Ma.secErr mn (x.take k) (x.drop k)) (fun u _ => x.length - (intOf u).toNat)
        case atStart => exact ⟨0, Nat.zero_le _, rfl, HBi.out, rfl⟩
        case round =>
          rename World => wq
          obtain ⟨k, hkl, rfl, hB2, hE2⟩ := hrel
          have HB2 := Lib.hid hB2
          have HE2 := Lib.hid hE2
          have HW2 := Lib.hid (Below.after' HB1.out hB2 (Nat.le_refl _))
          by_cases hk : k < x.length
          · obtain ⟨gx, ox, p, rfl, hgx, hp, e1, e2⟩ := (HPX.out.grow HW2.out).at_ hk
            obtain ⟨hp1, hp2⟩ := HXP.out p (List.mem_of_getElem? hp)
            have hse := Lib.hid (hE2.trans (Ma.secErr_at hp))
            have hz1 := bs_size p.1
            have hz2 := bs_size p.2
            have hkl' : (x.take k).length = k := by rw [List.length_take]; omega
            have k2 := (Below.refl wq.heap.size wq).alloc (Nat.le_refl _) (.cells #[.string (bs p.1), .string (bs p.2)] 44)
            have q2 : (wq.alloc (.cells #[.string (bs p.1), .string (bs p.2)] 44)).heap[wq.heap.size]? = some (.cells #[.string (bs p.1), .string (bs p.2)] 44 (0, 0)) := heap_alloc_new _ _
            have HC := Lib.hid (fun (X : World) (hb : Below (wq.alloc (.cells #[.string (bs p.1), .string (bs p.2)] 44)).drew.heap.size (wq.alloc (.cells #[.string (bs p.1), .string (bs p.2)] 44)).drew X) => by
              have hk := rcheck_any mn (some ⟨gx, ox, none⟩) dx (x.take k) p X ((HPX.out.take k).grow (Below.after' HW2.out (Below.after' k2.drew hb (by simp)) (Nat.le_refl _))) (by omega) (fun q hq => by have := (HXP.out q (List.mem_of_mem_take hq)).1; omega) (by omega) (by omega)
              rw [hkl'] at hk
              exact hk)
            have K2 := Lib.hid k2
            have zq : wq.heap.size < (wq.alloc (.cells #[.string (bs p.1), .string (bs p.2)] 44)).drew.heap.size := (Array.getElem?_eq_some_iff.1 q2).1
            have d0 : (wq.alloc (.cells #[.string (bs p.1), .string (bs p.2)] 44)).drew.cell? ⟨wq.heap.size, 0, none⟩ = some (.string (bs p.1)) := (blk_facts q2).1 0
            have d1 : (wq.alloc (.cells #[.string (bs p.1), .string (bs p.2)] 44)).drew.cell? ⟨wq.heap.size, 1, none⟩ = some (.string (bs p.2)) := (blk_facts q2).1 1
            clear hB2 hE2 hp k2 q2
            generalize Ma.take mn (x.take k) p = tv at HC hse
            go_wp2_with fail
            refine wp_region_ord 7 (by kernel_rfl) (by kernel_rfl) (fun _ _ d _ _ h => by cases d <;> exact h) ?_
            simp only [List.take_succ_cons, List.take_zero, List.drop_succ_cons, List.drop_zero]
            repeat (first | (refine wpLex_skip rfl ?_; simp only [Act.put, List.setIfInBounds_toArray, List.set_cons_zero, List.set_cons_succ]) | (refine wpLex_fix rfl ?_; intro F hF R hR hne K hK; go_big_quiet_op; first | (go_big_quiet_on; clear hne hR R hF F) | (apply Exists.intro; refine ⟨fun g => ?_, ?_⟩; (((first | (go_at_call 28; exact GrE.call hR (HC.out _ (GrE.below g))) | (rw [GrE.cell g _ _ zq]; go_simp; first | exact ⟨rfl, rfl⟩ | rfl) | (go_simp; (repeat (simp only [GrE.cell g _ _ zq]; go_simp)); first | exact ⟨rfl, rfl⟩ | rfl)))); go_big_quiet_on; clear hne hR R hF F)) | (apply wpLex_blk rfl; (focus (intro x hx; go_simp; exact ⟨rfl, rfl⟩)); intro B hB; simp only [Act.put, blkVal, List.setIfInBounds_toArray, List.set_cons_zero, List.set_cons_succ]))
            refine wpLex_nil ?_
            intro w1 hw1
            have HB3 := Lib.hid (show Below wa.heap.size wa w1 from Below.after' (HB2.out.alloc HB2.out.size _).drew hw1.below (by have := HB2.out.size; simp; try omega))
            have HW3 := Lib.hid (Below.after' HB1.out HB3.out (Nat.le_refl _))
            clear hw1
            by_cases ht : tv = 0
            · have hse2 := Lib.hid (hse.out.trans (if_neg (by omega)))
              subst ht
              go_wp2
              go_roundw
              case rel => exact ⟨k + 1, by omega, by go_num, HB3.out, hse2.out⟩
              case measure => simp [intOf]; omega
            · have hse2 := hse.out.trans (if_pos ht)
              have he2 : er = tv := by
                rw [hma2.out, if_pos (by rw [hse2]; exact ht), hse2]
              have u5 : ((tv : Int) != 0) = true := by simp; omega
              subst he2
              go_wp2
              go_ret
              exact ⟨rfl, HW3.out⟩
          · have hse2 : Ma.secErr mn [] x = 0 := by
              rw [hE2, List.drop_eq_nil_of_le (by omega)]; rfl
            have HN := Lib.hid (hma2.out.trans (if_neg (by rw [hse2]; simp)))
            clear hB2 hE2 hse2
            go_wp2
            go_roundw
            case rel => exact ⟨i + 1, by omega, by go_num, HB2.out, by rw [HN.out]; congr 1⟩
            case measure => simp [intOf]; omega
    · have he0 : er = 0 := by
        rw [hE, List.drop_eq_nil_of_le (by omega)]; rfl
      subst he0
      clear hB hE
      go_wp2
      go_ret
      exact ⟨rfl, HW.out⟩

theorem Ma.lineOf_cat (p : Pr) : bs p.1 ++ ⟨#[58, 32]⟩ ++ bs p.2 = bs (Ma.lineOf p) := by
  rw [show (⟨#[58, 32]⟩ : ByteArray) = bs [58, 32] from rfl, bs_append, bs_append]; rfl
set_option maxHeartbeats 8000000 in
set_option maxRecDepth 100000 in
theorem rprint_any (A : Option Addr) (c : Nat) (main : List Pr) (B : Option Addr) (d : Nat) (parts : List (List Pr)) (w : World) (hA : Prs w A c main) (hB : PNest w B d parts) (hn : parts.length ≤ 10) (hs : ∀ s ∈ main :: parts, Ma.fewS s) (hT : (Ma.allText (main :: parts)).length ≤ 100000000000) :
    Calls Try.prog 14 #[.agg #[.slice A main.length c, .slice B parts.length d]] w fun e w' => e = .returned (.string (bs (Ma.allText (main :: parts)))) ∧ Below w.heap.size w w' := by
  have HA := Lib.hid hA
  have HB := Lib.hid hB
  obtain ⟨all, hall⟩ : ∃ all, all = main :: parts := ⟨_, rfl⟩
  have hal : all.length = parts.length + 1 := by rw [hall]; simp
  rw [← hall] at hs hT ⊢
  have HS := Lib.hid hs
  have HT := Lib.hid hT
  have Hall := Lib.hid hall
  clear hA hB hs hall hT
  go_enter Try.func14, Try.ntmps14
  have t := two_allocs w (.cells #[.slice A main.length c, .slice B parts.length d] 27) (.cells #[.slice A main.length c] 24)
  have k0 := ((Below.refl w.heap.size w).alloc (Nat.le_refl _) (.cells #[.slice A main.length c, .slice B parts.length d] 27)).alloc (by simp) (.cells #[.slice A main.length c] 24)
  have hPA := Lib.hid (show PAll w ((w.alloc (.cells #[.slice A main.length c, .slice B parts.length d] 27)).alloc (.cells #[.slice A main.length c] 24)) (.slice (some ⟨w.heap.size + 1, 0, none⟩) 1 1) [main] from ⟨_, own_of_block t.2 (by omega), RV.cons ⟨rfl, fun j u x hu => by simp at hu⟩ HA.out⟩)
  have K0 := Lib.hid k0
  clear t k0
  go_wp2_with (at_builtin; refine wpList_appParts (w0 := w) rfl _ _ rfl (.slice (some ⟨w.heap.size + 1, 0, none⟩) 1 1) (.slice B parts.length d) [main] parts rfl rfl hPA.out (HB.out.src K0.out) K0.out (by simp only [List.length_cons, List.length_nil]; omega) ?_)
  intro v1 wa hP1 hh1 hB1
  have hP2 : PAll w wa v1 all := by rw [Hall.out]; exact hP1
  obtain ⟨ga, ca, rfl, hga, hca⟩ := hP2.reads (by omega)
  have P2 := Lib.hid hP2
  have HB1 := Lib.hid hB1
  have hal11 : all.length ≤ 11 := by omega
  clear hP1 hP2 hh1 hB1 hPA K0 hal
  go_wp2_with fail
  go_loopw [3, 17] (fun t u wr => ∃ i : Nat, i ≤ all.length ∧ u = .int .i64 i ∧ t = .string (bs (Ma.allText (all.take i))) ∧ Below wa.heap.size wa wr) (fun _ u _ => all.length - (intOf u).toNat)
  case atStart => exact ⟨0, Nat.zero_le _, rfl, rfl, Below.refl _ _⟩
  case round =>
    obtain ⟨i, hil, rfl, rfl, hB⟩ := hrel
    have HBi := Lib.hid hB
    have HW := Lib.hid (Below.after' HB1.out hB (Nat.le_refl _))
    by_cases hi : i < all.length
    · obtain ⟨x, Bx, dx, hx, hgz, hc1, hpx⟩ := P2.out.at_ hi
      have c1 := (hB.cell (p := ⟨ga, i, none⟩) hgz).trans hc1
      have HPX := Lib.hid hpx
      obtain ⟨hxl, hxp⟩ := HS.out x (List.mem_of_getElem? hx)
      have HXP := Lib.hid hxp
      have hsn := Lib.hid (show Ma.allText (all.take (i + 1)) = Ma.allText (all.take i) ++ Ma.sectText x from Ma.flat_snoc Ma.sectText hx)
      have hbd := Lib.hid (show (Ma.allText (all.take i)).length + (Ma.sectText x).length ≤ 100000000000 from Nat.le_trans (Ma.flat_at Ma.sectText hx) HT.out)
      have hsl : (Ma.sectText x).length = (Ma.pairsText x).length + 2 := by unfold Ma.sectText; simp
      have hcat := Lib.hid (show bs (Ma.allText (all.take i) ++ Ma.pairsText x) ++ ⟨#[13, 10]⟩ = bs (Ma.allText (all.take (i + 1))) by
        rw [show (⟨#[13, 10]⟩ : ByteArray) = bs [13, 10] from rfl, bs_append, hsn.out]; unfold Ma.sectText; simp)
      clear hB hx hpx hc1 hxp
      generalize hT0 : Ma.allText (all.take i) = T0 at hsn hbd hcat ⊢
      generalize hPT : Ma.pairsText x = PT at hsl hcat
      have HPT := Lib.hid hPT
      have hb0 := hbd.out
      clear hT0 hPT
      go_wp2_with fail
      go_loopw [3, 23] (fun t u wq => ∃ k : Nat, k ≤ x.length ∧ u = .int .i64 k ∧ t = .string (bs (T0 ++ Ma.pairsText (x.take k))) ∧ Below wa.heap.size wa wq) (fun _ u _ => x.length - (intOf u).toNat)
      case atStart => exact ⟨0, Nat.zero_le _, rfl, by rw [show T0 ++ Ma.pairsText (x.take 0) = T0 from List.append_nil _], HBi.out⟩
      case round =>
        rename World => wq
        obtain ⟨k, hkl, rfl, rfl, hB2⟩ := hrel
        have HB2 := Lib.hid hB2
        have HW2 := Lib.hid (Below.after' HB1.out hB2 (Nat.le_refl _))
        by_cases hk : k < x.length
        · obtain ⟨gx, ox, p, rfl, hgx, hp, e1, e2⟩ := (HPX.out.grow HW2.out).at_ hk
          obtain ⟨hp1, hp2⟩ := HXP.out p (List.mem_of_getElem? hp)
          have hsn2 := Lib.hid (show Ma.pairsText (x.take (k + 1)) = Ma.pairsText (x.take k) ++ Ma.pairText p from Ma.flat_snoc Ma.pairText hp)
          have hbd2 : (Ma.pairsText (x.take k)).length + (Ma.pairText p).length ≤ PT.length := by
            rw [← HPT.out]; exact Ma.flat_at Ma.pairText hp
          have hz1 := bs_size p.1
          have hz2 := bs_size p.2
          have k2 := (Below.refl wq.heap.size wq).alloc (Nat.le_refl _) (.cells #[.string (bs p.1), .string (bs p.2)] 44)
          have q2 : (wq.alloc (.cells #[.string (bs p.1), .string (bs p.2)] 44)).heap[wq.heap.size]? = some (.cells #[.string (bs p.1), .string (bs p.2)] 44 (0, 0)) := heap_alloc_new _ _
          have hlen : (Ma.lineOf p).length ≤ 1000000 := by unfold Ma.lineOf; simp; omega
          have hcl := Lib.hid (Ma.lineOf_cat p)
          have hpt : Ma.pairText p = Ma.foldText (Ma.fold (Ma.lineOf p)) := rfl
          generalize hP0 : Ma.pairsText (x.take k) = P0 at hsn2 hbd2 ⊢
          have d0 : (wq.alloc (.cells #[.string (bs p.1), .string (bs p.2)] 44)).cell? ⟨wq.heap.size, 0, none⟩ = some (.string (bs p.1)) := (blk_facts q2).1 0
          have d1 : (wq.alloc (.cells #[.string (bs p.1), .string (bs p.2)] 44)).cell? ⟨wq.heap.size, 1, none⟩ = some (.string (bs p.2)) := (blk_facts q2).1 1
          have hk3 := Below.after' HB2.out k2 (Nat.le_refl _)
          have HK3 := Lib.hid hk3
          clear hB2 hp k2 q2 hP0 hk3
          go_wp2_with fail
          rw [hcl.out]
          refine (rfold_any (Ma.lineOf p) _ hlen).mono ?_
          rintro e w4 ⟨vf, rfl, hTR, hb4⟩
          have hbd3 : ∀ (j : Nat) l, (Ma.fold (Ma.lineOf p))[j]? = some l → (Ma.foldText ((Ma.fold (Ma.lineOf p)).take j)).length + (l.length + 2) ≤ (Ma.pairText p).length := fun j l h => by
            have := Ma.flat_at (fun l => l ++ [13, 10]) h
            rw [List.length_append] at this
            exact this
          generalize Ma.fold (Ma.lineOf p) = ls at hTR hbd3 hpt
          obtain ⟨Af, cf, rfl, hTx⟩ := hTR.reads
          have hlc : ls.length ≤ 100000000000 := by
            have h1 := Ma.foldText_ge ls
            rw [← hpt] at h1
            omega
          have HTX := Lib.hid hTx
          have hbd4 := Lib.hid hbd3
          have HPTX := Lib.hid hpt
          have HB4 := Lib.hid (Below.after' HK3.out hb4 (Nat.le_refl _))
          clear hTR hb4 hTx hbd3 d0 d1 e1 e2 hpt
          go_wp2_with fail
          go_loopw [3, 35] (fun t u wv => ∃ j : Nat, j ≤ ls.length ∧ u = .int .i64 j ∧ t = .string (bs (T0 ++ P0 ++ Ma.foldText (ls.take j))) ∧ wv = w4) (fun _ u _ => ls.length - (intOf u).toNat)
          case atStart => exact ⟨0, Nat.zero_le _, rfl, by rw [show T0 ++ P0 ++ Ma.foldText (ls.take 0) = T0 ++ P0 from List.append_nil _], rfl⟩
          case round =>
            rename World => wv
            obtain ⟨j, hjl, rfl, rfl, rfl⟩ := hrel
            by_cases hj : j < ls.length
            · obtain ⟨gl, ol, l, rfl, hgl, hl, cl⟩ := HTX.out.at_ hj
              have hb5 := hbd4.out j l hl
              have hsn3 := Lib.hid (show Ma.foldText (ls.take (j + 1)) = Ma.foldText (ls.take j) ++ (l ++ [13, 10]) from Ma.flat_snoc (fun l => l ++ [13, 10]) hl)
              generalize Ma.foldText (ls.take j) = F0 at hb5 hsn3 ⊢
              obtain ⟨Z, hZ⟩ : ∃ Z, Z = T0 ++ P0 ++ F0 := ⟨_, rfl⟩
              rw [← hZ]
              have hz3 := bs_size Z
              have hz4 := bs_size l
              have hl1 : Z.length = T0.length + P0.length + F0.length := by rw [hZ]; simp [Nat.add_assoc]
              have hcat3 := Lib.hid (show bs Z ++ bs l ++ ⟨#[13, 10]⟩ = bs (T0 ++ P0 ++ Ma.foldText (ls.take (j + 1))) by
                rw [show (⟨#[13, 10]⟩ : ByteArray) = bs [13, 10] from rfl, bs_append, bs_append, hsn3.out, hZ]; simp)
              clear hZ
              clear hl
              go_wp2
              go_roundw
              case rel => exact ⟨j + 1, by omega, by go_num, by rw [hcat3.out], trivial⟩
              case measure => simp [intOf]; omega
            · have hfin := Lib.hid (show T0 ++ P0 ++ Ma.foldText (ls.take j) = T0 ++ Ma.pairsText (x.take (k + 1)) by
                rw [List.take_of_length_le (by omega), hsn2.out, HPTX.out]; simp)
              go_wp2
              go_roundw
              case rel => exact ⟨k + 1, by omega, by go_num, by rw [hfin.out], HB4.out⟩
              case measure => simp [intOf]; omega
        · have hfin : T0 ++ Ma.pairsText (x.take k) = T0 ++ PT := by rw [List.take_of_length_le (by omega), HPT.out]
          rw [hfin]
          have hz3 := bs_size (T0 ++ PT)
          have hl1 : (T0 ++ PT).length = T0.length + PT.length := by simp
          clear hB2 hfin
          go_wp2
          go_roundw
          case rel => exact ⟨i + 1, by omega, by go_num, by rw [hcat.out], HB2.out⟩
          case measure => simp [intOf]; omega
    · have hfin : Ma.allText (all.take i) = Ma.allText all := by rw [List.take_of_length_le (by omega)]
      rw [hfin]
      clear hB hfin
      go_wp2
      go_ret
      exact ⟨rfl, HW.out⟩
end Go.Proofs.Ytbjhnfemlpbchaa
