/- The walk of layer 35's words of a value, the last kind. -/
import Derived.Test.YtmidabbfjciogaaDoorWalksF
namespace Go.Proofs.YtmidabbfjciogaaDoor
open Go.RowKit

set_option maxHeartbeats 8000000 in
set_option maxRecDepth 100000 in
theorem value_three (tag : Int) (text cls name desc : List UInt8) (bits : Nat) (w : World) (hok : Li.V.ok ⟨tag, text, bits, cls, name, desc⟩) (ht : TabP w) (hc : tag = 9 ∨ tag = 10 ∨ tag = 11) :
    Calls Tryd.prog 11 #[.agg #[.int .i64 tag, .string (bs text), .int .u64 bits, .string (bs cls), .string (bs name), .string (bs desc)]] w fun e w' => e = .returned (.string (bs (Li.line [Lib.itoa tag, Li.or cls, Li.or name, Li.or desc]))) ∧ Below w.heap.size w w' := by
  obtain ⟨h1, h2, h3, h4, h5, h6⟩ := hok
  dsimp only at h1 h2 h3 h4 h5 h6
  have HT := Lib.hid ht
  have HI := Lib.hid h1
  have hln := Lib.hid (line4_len 0 [Lib.itoa tag, Li.or cls, Li.or name, Li.or desc] (fun x hx => by
    simp at hx
    rcases hx with rfl | rfl | rfl | rfl
    · have := itoa_len h1; omega
    · have := Li.or_len cls; omega
    · have := Li.or_len name; omega
    · have := Li.or_len desc; omega) (by simp))
  clear h1 ht
  have hcs : ((tag == 1) = false ∧ (tag == 7) = false ∧ (tag == 8) = false ∧ (tag == 3) = false ∧ (tag == 4) = false ∧ (tag == 5) = false ∧ (tag == 6) = false ∧ (tag == 12) = false ∧ (tag == 9) = true) ∨ ((tag == 1) = false ∧ (tag == 7) = false ∧ (tag == 8) = false ∧ (tag == 3) = false ∧ (tag == 4) = false ∧ (tag == 5) = false ∧ (tag == 6) = false ∧ (tag == 12) = false ∧ (tag == 9) = false ∧ (tag == 10) = true) ∨ ((tag == 1) = false ∧ (tag == 7) = false ∧ (tag == 8) = false ∧ (tag == 3) = false ∧ (tag == 4) = false ∧ (tag == 5) = false ∧ (tag == 6) = false ∧ (tag == 12) = false ∧ (tag == 9) = false ∧ (tag == 10) = false ∧ (tag == 11) = true) := by simp; omega
  clear hc
  rcases hcs with ⟨g0, g1, g2, g3, g4, g5, g6, g7, g8⟩ | ⟨g0, g1, g2, g3, g4, g5, g6, g7, g8, g9⟩ | ⟨g0, g1, g2, g3, g4, g5, g6, g7, g8, g9, g10⟩
  all_goals
    go_enter Tryd.func11, Tryd.ntmps11
    go_wp2_with fail
    have J0 : Below w.heap.size w (w.alloc (.cells #[.int .i64 tag, .string (bs text), .int .u64 bits, .string (bs cls), .string (bs name), .string (bs desc)] 32)) := (Below.refl _ _).alloc (Nat.le_refl _) _
    refine (itoa_any _ _ HI.out (tab_below HT.out J0)).mono ?_
    rintro e w1 ⟨rfl, hb⟩
    have J1 := Lib.hid (Below.after' J0 hb (Nat.le_refl _))
    have q1 := (hb.block _ (by simp)).trans (heap_alloc_new w _)
    obtain ⟨f1, f2⟩ := blk_facts q1
    have z1 : w.heap.size < w1.heap.size := (Array.getElem?_eq_some_iff.1 q1).1
    clear hb q1 J0
    go_wp2_with fail
    have z1d : w.heap.size < w1.drew.heap.size := z1
    refine wp_region_ord 13 (by kernel_rfl) (by kernel_rfl) (fun _ _ d _ _ h => by cases d <;> exact h) ?_
    simp only [List.take_succ_cons, List.take_zero, List.drop_succ_cons, List.drop_zero]
    repeat (first | (refine wpLex_skip rfl ?_; simp only [Act.put, List.setIfInBounds_toArray, List.set_cons_zero, List.set_cons_succ]) | (refine wpLex_fix rfl ?_; intro F hF R hR hne K hK; go_big_quiet_op; first | (go_big_quiet_on; clear hne hR R hF F) | (apply Exists.intro; refine ⟨fun g => ?_, ?_⟩; (((first | (rw [GrE.cell g _ _ z1d]; go_simp; first | exact ⟨rfl, rfl⟩ | rfl) | (go_at_call 15; exact GrE.call hR (or_any _ _ (by omega))) | (go_at_call 14; exact GrE.call hR (line_blk (GrE.blk g (hF.out _ _ _ (by decide) (.inr ⟨rfl, rfl, rfl⟩))) [Lib.itoa tag, Li.or cls, Li.or name, Li.or desc] _ rfl rfl (by simp) hln.out))))); go_big_quiet_on; clear hne hR R hF F)) | (apply wpLex_blk rfl; (focus (intro x hx; go_simp; exact ⟨rfl, rfl⟩)); intro B hB; simp only [Act.put, blkVal, List.setIfInBounds_toArray, List.set_cons_zero, List.set_cons_succ]))
    refine wpLex_nil ?_
    intro w1 hw1
    have J2 := Lib.hid (Below.after' (Below.drew J1.out) hw1.below (Nat.le_refl _))
    clear hw1
    go_wp2
    go_ret
    exact ⟨rfl, J2.out⟩

theorem value_any (v : Li.V) (w : World) (hok : v.ok) (ht : TabP w) : Calls Tryd.prog 11 #[v.val] w fun e w' => e = .returned (.string (bs (Li.value v))) ∧ Below w.heap.size w w' := by
  obtain ⟨tag, text, bits, cls, name, desc⟩ := v
  unfold Li.value Li.V.val
  dsimp only
  by_cases h1 : tag = 1 ∨ tag = 7 ∨ tag = 8
  · rw [if_pos h1]; exact value_text tag text cls name desc bits w hok ht h1
  · rw [if_neg h1]
    by_cases h2 : tag = 3 ∨ tag = 4 ∨ tag = 5 ∨ tag = 6
    · rw [if_pos h2]; exact value_bits tag text cls name desc bits w hok ht h2
    · rw [if_neg h2]
      by_cases h3 : tag = 12
      · rw [if_pos h3]; exact value_pair tag text cls name desc bits w hok ht h3
      · rw [if_neg h3]
        by_cases h4 : tag = 9 ∨ tag = 10 ∨ tag = 11
        · rw [if_pos h4]; exact value_three tag text cls name desc bits w hok ht h4
        · rw [if_neg h4]; exact value_none tag text cls name desc bits w hok ht ⟨h1, h2, h3, h4⟩
end Go.Proofs.YtmidabbfjciogaaDoor
