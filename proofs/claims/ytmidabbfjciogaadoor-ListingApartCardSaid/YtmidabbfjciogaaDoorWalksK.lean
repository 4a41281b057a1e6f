/- Layer 35: the class of fixed. -/
import Derived.Test.YtmidabbfjciogaaDoorWalksJ
namespace Go.Proofs.YtmidabbfjciogaaDoor
open Go.RowKit

/-- The cells of the class of fixed. -/
abbrev Li.cls49 : Array Value := #[.int .i64 0, .int .i64 49, .int .i64 0, .string ⟨#[65]⟩, .string ⟨#[]⟩, .slice none 0 0, .slice none 0 0, .slice none 0 0, .int .i64 0, .int .i64 0, .int .i64 0, .slice none 0 0, .slice none 0 0, .int .i64 0, .slice none 0 0, .slice none 0 0, .int .i64 0, .string ⟨#[]⟩, .int .u64 0, .string ⟨#[]⟩, .string ⟨#[]⟩, .string ⟨#[]⟩, .slice none 0 0, .slice none 0 0, .string ⟨#[]⟩, .string ⟨#[]⟩]
/-- The line of the class of fixed. -/
def Li.line49 : List (List UInt8) := [[99, 108, 97, 115, 115], Li.or [65], [115, 117, 112, 101, 114], Li.or [], [118, 101, 114, 115, 105, 111, 110], Li.ints [49, 0], [102, 108, 97, 103, 115], Lib.itoa 0, Li.line [[98, 101, 115, 105, 100, 101], [48]]]

set_option maxHeartbeats 8000000 in
set_option maxRecDepth 100000 in
theorem class_49 (w : World) (ht : TabP w) :
    Calls Tryd.prog 8 #[.agg Li.cls49] w fun e w' => ∃ g, e = .returned (.slice (some ⟨g, 0, none⟩) 1 1) ∧ w.heap.size ≤ g ∧ w'.heap[g]? = some (.cells #[.string (bs (Li.line Li.line49))] 9 (0, 0)) ∧ Below w.heap.size w w' := by
  have HT := Lib.hid ht
  have hln := Lib.hid (show (Li.line Li.line49).length ≤ 1000000000 by decide +kernel)
  have hI : Hid (∀ x ∈ ([49, 0] : List Int), I64 x) := by simp [Hid, I64]
  clear ht
  go_enter Tryd.func8, Tryd.ntmps8
  go_wp2_with fail
  obtain ⟨w0, hw0⟩ : ∃ w0 : World, w0 = w.alloc (.cells Li.cls49 37) := ⟨_, rfl⟩
  have J0 : Below w.heap.size w w0 := by rw [hw0]; exact (Below.refl _ _).alloc (Nat.le_refl _) _
  have q1 : w0.heap[w.heap.size]? = some (.cells Li.cls49 37 (0, 0)) := by rw [hw0]; exact heap_alloc_new w _
  rw [← hw0]
  obtain ⟨f1, f2⟩ := blk_facts q1
  have z1 : w.heap.size < w0.heap.size := (Array.getElem?_eq_some_iff.1 q1).1
  have z1d : w.heap.size < w0.drew.heap.size := z1
  have HT1 := Lib.hid (tab_below HT.out J0.drew)
  clear hw0
  refine wp_region_ord 22 (by kernel_rfl) (by kernel_rfl) (fun _ _ d _ _ h => by cases d <;> exact h) ?_
  simp only [List.take_succ_cons, List.take_zero, List.drop_succ_cons, List.drop_zero]
  repeat (first | (refine wpLex_skip rfl ?_; simp only [Act.put, List.setIfInBounds_toArray, List.set_cons_zero, List.set_cons_succ]) | (refine wpLex_fix rfl ?_; intro F hF R hR hne K hK; go_big_quiet_op; first | (go_big_quiet_on; clear hne hR R hF F) | (apply Exists.intro; refine ⟨fun g => ?_, ?_⟩; (((first | (go_at_call 16; exact GrE.call hR (ints_blk (GrE.blk g (hF.out _ _ _ (by decide) (.inr ⟨rfl, rfl, rfl⟩))) [49, 0] _ rfl rfl hI.out (by simp) (tab_below HT1.out (GrE.below g)))) | (go_at_call 15; exact GrE.call hR (or_any [65] _ (by simp))) | (go_at_call 15; exact GrE.call hR (or_any [] _ (by simp))) | (go_at_call 17; exact GrE.call hR (itoa_any 0 _ (by simp [I64]) (tab_below HT1.out (GrE.below g)))) | (go_at_call 18; exact GrE.call hR (beside_none _ (tab_below HT1.out (GrE.below g)))) | (go_at_call 14; exact GrE.call hR (line_blk (GrE.blk g (hF.out _ _ _ (by decide) (.inr ⟨rfl, rfl, rfl⟩))) Li.line49 _ rfl rfl (by simp [Li.line49]) hln.out)) | (rw [GrE.cell g _ _ z1d]; go_simp; first | exact ⟨rfl, rfl⟩ | rfl) | (go_simp; (repeat (simp only [GrE.cell g _ _ z1d]; go_simp)); first | exact ⟨rfl, rfl⟩ | rfl)))); go_big_quiet_on; clear hne hR R hF F)) | (apply wpLex_blk rfl; (focus (intro x hx; go_simp; exact ⟨rfl, rfl⟩)); intro B hB; simp only [Act.put, blkVal, List.setIfInBounds_toArray, List.set_cons_zero, List.set_cons_succ]))
  refine wpLex_nil ?_
  intro w1 hw1
  have F1 := hw1.fact 32 _ _ (.inr ⟨rfl, rfl, rfl⟩)
  have c1 := (hw1.below.block _ z1d).trans q1
  obtain ⟨f3, f4⟩ := blk_facts c1
  have J2 := Lib.hid (Below.after' (Below.drew J0) hw1.below (Nat.le_refl _))
  have hg := Nat.le_trans J0.size F1.1
  have L1 := Lib.hid F1.2
  clear hw1 F1 q1 c1 f1 f2
  go_wp2_with fail
  refine wp_loop_rounds 1 ?_
  rw [rounds_succ]
  go_wp2_with fail
  refine wp_loop_rounds 1 ?_
  rw [rounds_succ]
  go_wp2_with fail
  refine wp_loop_rounds 1 ?_
  rw [rounds_succ]
  go_wp2_with fail
  refine wp_loop_rounds 1 ?_
  rw [rounds_succ]
  go_wp2_with fail
  go_ret
  exact ⟨_, rfl, hg, L1.out, J2.out⟩
end Go.Proofs.YtmidabbfjciogaaDoor
