/- The walk of layer 25's reference: splitting. -/
import Derived.Test.YteegpbdkalpeiaaWalksC
namespace Go.Proofs.Yteegpbdkalpeiaa
open Go.RowKit Go.Maps

/-- The place among the favorites from i on. -/
def Po.from (fs : List Int) (v : Int) (i : Nat) : Nat := if Po.at (fs.drop i) v = 0 then 0 else Po.at (fs.drop i) v + i
theorem Po.from_end (fs : List Int) (v : Int) : Po.from fs v fs.length = 0 := by unfold Po.from; rw [List.drop_length]; rfl
theorem Po.from_zero (fs : List Int) (v : Int) : Po.from fs v 0 = Po.at fs v := by unfold Po.from; rw [List.drop_zero]; split <;> omega
theorem Po.from_step {fs : List Int} {i : Nat} {f : Int} (h : fs[i]? = some f) (v : Int) : Po.from fs v i = if f = v then i + 1 else Po.from fs v (i + 1) := by
  obtain ⟨h1, rfl⟩ := List.getElem?_eq_some_iff.1 h
  unfold Po.from
  rw [List.drop_eq_getElem_cons h1, Po.at_cons]
  by_cases e : fs[i] = v
  · simp [e]; omega
  · simp only [e, if_false]
    by_cases h0 : Po.at (fs.drop (i + 1)) v = 0
    · simp [h0]
    · simp [h0]; omega
theorem Po.from_le (fs : List Int) (v : Int) (i : Nat) (hi : i ≤ fs.length) : Po.from fs v i ≤ fs.length := by
  have := Po.at_le (fs.drop i) v
  rw [List.length_drop] at this
  unfold Po.from
  split <;> omega

set_option maxHeartbeats 8000000 in
set_option maxRecDepth 100000 in
theorem rsplit_any (A B : Option Addr) (c d : Nat) (l fs : List Int) (w : World) (hx : Ints w A c l) (hy : Ints w B d fs) (hn : l.length ≤ 100000) (hm : fs.length ≤ 100000) :
    Calls Try.prog 8 #[.slice A l.length c, .slice B fs.length d] w (SplitRes fs l w) := by
  have HX := Lib.hid hx
  have HY := Lib.hid hy
  clear hx hy
  go_enter Try.func8, Try.ntmps8
  go_wp2_with fail
  go_loopw [6, 7, 14] (fun v1 v2 u wr => ∃ i : Nat, i ≤ l.length ∧ u = .int .i64 i ∧ IRow wr w.heap.size v1 (Po.tokens fs (l.take i)) ∧ IRow wr w.heap.size v2 (Po.left fs (l.take i)) ∧ Apart v1 v2 ∧ Below w.heap.size w wr) (fun _ _ u _ => l.length - (intOf u).toNat)
  case atStart => exact ⟨0, Nat.zero_le _, rfl, IRow.nil _ _, IRow.nil _ _, Apart.nil _, Below.refl _ _⟩
  case round =>
    obtain ⟨i, hil, rfl, hr1, hr2, hap, hB⟩ := hrel
    have HB := Lib.hid hB
    have HR1 := Lib.hid hr1
    have HR2 := Lib.hid hr2
    have HAP := Lib.hid hap
    have hlt : (Po.tokens fs (l.take i)).length ≤ l.length := by unfold Po.tokens; rw [List.length_map, List.length_take]; omega
    have hll : (Po.left fs (l.take i)).length ≤ l.length := by unfold Po.left; exact Nat.le_trans (List.length_filter_le _ _) (by rw [List.length_take]; omega)
    by_cases h1 : i < l.length
    · obtain ⟨g, o, x, rfl, hg, hxi, hcell⟩ := (HX.out.grow hB).at_ h1
      have htk := Lib.hid (take_snocI l i x hxi)
      have hzr := hB.size
      have HYr := Lib.hid (HY.out.grow hB)
      have hT := Lib.hid (show Po.tokens fs (l.take (i + 1)) = Po.tokens fs (l.take i) ++ [(Po.at fs x : Int)] by rw [htk.out, Po.tokens_snoc])
      clear hB hr1 hr2 hap hxi
      obtain ⟨wo, rfl⟩ : ∃ wo : World, wo = wr := ⟨_, rfl⟩
      go_wp2_with fail
      go_loopw [10, 11] (fun a u wr => ∃ k : Nat, k ≤ fs.length ∧ u = .int .i64 k ∧ a = .int .i64 (Po.from fs x k : Nat) ∧ wr = wo) (fun _ u _ => (intOf u).toNat)
      case atStart => exact ⟨fs.length, Nat.le_refl _, rfl, by rw [Po.from_end]; rfl, rfl⟩
      case round =>
        obtain ⟨k, hk, rfl, rfl, rfl⟩ := hrel
        have hfl := Po.from_le fs x k hk
        by_cases hk0 : 0 < k
        · obtain ⟨k, rfl⟩ : ∃ j, k = j + 1 := ⟨k - 1, by omega⟩
          obtain ⟨g2, o2, f, rfl, hg2, hfi, hcf⟩ := HYr.out.at_ (i := k) (by omega)
          have hst := Lib.hid (Po.from_step hfi x)
          have ek : ((k + 1 : Nat) : Int) - 1 = (k : Int) := by omega
          clear hfi
          by_cases e : f = x
          · have q : (f == x) = true := by simp [e]
            have hs2 := Lib.hid (hst.out.trans (if_pos e))
            clear e
            go_wp2_with fail
            go_roundw
            case rel => exact ⟨k, by omega, by go_num, by rw [hs2.out], trivial⟩
            case measure => simp [intOf]
          · have q : (f == x) = false := by simp [e]
            have hs2 := Lib.hid (hst.out.trans (if_neg e))
            clear e
            go_wp2_with fail
            go_roundw
            case rel => exact ⟨k, by omega, by go_num, by rw [hs2.out], trivial⟩
            case measure => simp [intOf]
        · obtain rfl : k = 0 := by omega
          rw [Po.from_zero]
          by_cases h0 : Po.at fs x = 0
          · have q : (((Po.at fs x : Nat) : Int) == 0) = true := by simp [h0]
            have q2 : (Po.at fs x == 0) = true := by simp [h0]
            have hL := Lib.hid (show Po.left fs (l.take (i + 1)) = Po.left fs (l.take i) ++ [x] by rw [htk.out, Po.left_snoc, if_pos h0])
            clear h0

            go_upto_region 13 with ((at_builtin; refine wpList_app1 rfl _ _ rfl w.heap.size u6 _ rfl (HR1.out.grow ((Below.refl _ _).alloc (Nat.le_refl _) _)) wr.heap.size ((Po.at fs x : Nat) : Int) _ _ rfl (heap_alloc_new _ _) (by omega) (by simp; omega) ?_; intro v' w1 hown1 hhop1; have hR1 := Lib.hid hown1; have hR2 := Lib.hid ((HR2.out.grow ((Below.refl _ _).alloc (Nat.le_refl _) (.cells #[.int .i64 ((Po.at fs x : Nat) : Int)] 3))).other hhop1 HAP.out); have HB1 := Lib.hid ((HR1.out.grow ((Below.refl _ _).alloc (Nat.le_refl _) (.cells #[.int .i64 ((Po.at fs x : Nat) : Int)] 3))).hop_below hhop1 (HB.out.alloc hzr _) (Nat.le_refl _) (Nat.le_refl _)); have hz1 := HB1.out.size; clear hown1 hhop1))
            go_wp2_with (at_builtin; (refine wpList_app1 rfl _ _ rfl w.heap.size u7 _ rfl (hR2.out.1.grow ((Below.refl _ _).alloc (Nat.le_refl _) _)) w1.heap.size x _ _ rfl (heap_alloc_new _ _) (by omega) (by simp; omega) ?_))
            intro v2' w2 hown2 hhop2
            have hS2 := Lib.hid hown2
            have hS1 := Lib.hid ((hR1.out.grow ((Below.refl _ _).alloc (Nat.le_refl _) (.cells #[.int .i64 x] 3))).other hhop2 hR2.out.2.symm)
            have HB2 := Lib.hid ((hR2.out.1.grow ((Below.refl _ _).alloc (Nat.le_refl _) (.cells #[.int .i64 x] 3))).hop_below hhop2 (HB1.out.alloc hz1 _) (Nat.le_refl _) (Nat.le_refl _))
            clear hown2 hhop2
            go_wp2_with fail
            go_roundw
            case rel => exact ⟨i + 1, by omega, by go_num, by rw [hT.out]; exact hS1.out.1, by rw [hL.out]; exact hS2.out, hS1.out.2.symm, HB2.out⟩
            case measure => simp [intOf]; omega
          · have q : (((Po.at fs x : Nat) : Int) == 0) = false := by simp [h0]
            have q2 : (Po.at fs x == 0) = false := by simp [h0]
            have hL := Lib.hid (show Po.left fs (l.take (i + 1)) = Po.left fs (l.take i) by rw [htk.out, Po.left_snoc, if_neg h0, List.append_nil])
            clear h0

            go_wp2_with (first | (at_builtin; refine wpList_app1 rfl _ _ rfl w.heap.size u6 _ rfl (HR1.out.grow ((Below.refl _ _).alloc (Nat.le_refl _) _)) wr.heap.size ((Po.at fs x : Nat) : Int) _ _ rfl (heap_alloc_new _ _) (by omega) (by simp; omega) ?_; intro v' w1 hown1 hhop1; have hR1 := Lib.hid hown1; have hR2 := Lib.hid ((HR2.out.grow ((Below.refl _ _).alloc (Nat.le_refl _) (.cells #[.int .i64 ((Po.at fs x : Nat) : Int)] 3))).other hhop1 HAP.out); have HB1 := Lib.hid ((HR1.out.grow ((Below.refl _ _).alloc (Nat.le_refl _) (.cells #[.int .i64 ((Po.at fs x : Nat) : Int)] 3))).hop_below hhop1 (HB.out.alloc hzr _) (Nat.le_refl _) (Nat.le_refl _)); have hz1 := HB1.out.size; clear hown1 hhop1) | fail)
            go_roundw
            case rel => exact ⟨i + 1, by omega, by go_num, by rw [hT.out]; exact hR1.out, by rw [hL.out]; exact hR2.out.1, hR2.out.2, HB1.out⟩
            case measure => simp [intOf]; omega
    · have hfin : l.take i = l := List.take_of_length_le (by omega)
      rw [hfin] at hr1 hr2
      have HS1 := Lib.hid hr1
      have HS2 := Lib.hid hr2
      clear hr1 hr2 hB hap
      go_wp2
      go_ret2
      exact ⟨_, _, rfl, HS1.out, HS2.out, HB.out⟩
end Go.Proofs.Yteegpbdkalpeiaa
