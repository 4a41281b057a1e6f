/- Layer 35: an instruction without keys. -/
import Derived.Test.YtmidabbfjciogaaDoorWalksH
namespace Go.Proofs.YtmidabbfjciogaaDoor
open Go.RowKit

/-- The cells of a list of numbers. -/
def ic (ns : List Int) : List Value := ns.map (Value.int .i64)
/-- Words of a new block's numbers. -/
theorem ints_blk {g : Nat} {w : World} {C : Array Value} {e : TypeId} {fr : Nat × Nat} (hg : w.heap[g]? = some (.cells C e fr)) (ns : List Int) (n : Nat) (hC : C.toList = ic ns) (hn : n = ns.length) (hI : ∀ x ∈ ns, I64 x) (hN : ns.length ≤ 1000000) (ht : TabP w) :
    Calls Tryd.prog 16 #[.slice (some ⟨g, 0, none⟩) n n] w fun e w' => e = .returned (.string (bs (Li.ints ns))) ∧ Below w.heap.size w w' := by
  subst hn
  refine ints_any ns g 0 ns.length w (fun j x hx => ?_) (Array.getElem?_eq_some_iff.1 hg).1 (Nat.le_refl _) hI hN ht
  rw [Nat.zero_add, Lib.cell_of_heap hg, ← Array.getElem?_toList, hC]
  simp [ic, hx]
theorem value_len (v : Li.V) (h : v.ok) : (Li.value v).length ≤ 300000000 := by
  obtain ⟨h1, h2, h3, h4, h5, h6⟩ := h
  have i0 := itoa_len h1
  have d0 : (Lib.decDigits v.bits).length ≤ 30000001 := by rw [Lib.decDigits_length]; have := nDigits_le 19 v.bits (by omega); omega
  have o1 := Li.or_len v.text
  have o2 := Li.or_len v.cls
  have o3 := Li.or_len v.name
  have o4 := Li.or_len v.desc
  have L := fun (xs : List (List UInt8)) (hx : ∀ x ∈ xs, x.length ≤ 30000001) (hn : xs.length ≤ 4) => Nat.le_trans (line_len 30000001 xs hx) (Nat.mul_le_mul_right (30000001 + 1) hn)
  unfold Li.value
  split
  · refine Nat.le_trans (L _ ?_ (by simp)) (by decide); simp; omega
  · split
    · refine Nat.le_trans (L _ ?_ (by simp)) (by decide); simp; omega
    · split
      · refine Nat.le_trans (L _ ?_ (by simp)) (by decide); simp; omega
      · split
        · refine Nat.le_trans (L _ ?_ (by simp)) (by decide); simp; omega
        · omega

set_option maxHeartbeats 8000000 in
set_option maxRecDepth 100000 in
theorem ins_177 (w : World) (ht : TabP w) :
    Calls Tryd.prog 12 #[.int .i64 0, .agg #[.int .i64 177, .int .i64 0, .int .i64 0, .int .i64 0, .string ⟨#[]⟩, .int .u64 0, .string ⟨#[]⟩, .string ⟨#[]⟩, .string ⟨#[]⟩, .int .i64 0, .slice none 0 0, .slice none 0 0]] w fun e w' => e = .returned (.string (bs (Li.line [Li.ints [0, 177, 0, 0, 0], Li.value ⟨0, [], 0, [], [], []⟩]))) ∧ Below w.heap.size w w' := by
  have HT := Lib.hid ht
  have hln := Lib.hid (show (Li.line [Li.ints [0, 177, 0, 0, 0], Li.value ⟨0, [], 0, [], [], []⟩]).length ≤ 1000000000 by decide +kernel)
  have hI : Hid (∀ x ∈ ([0, 177, 0, 0, 0] : List Int), I64 x) := by simp [Hid, I64]
  have hok : Hid (Li.V.ok ⟨0, [], 0, [], [], []⟩) := ⟨by simp [I64], by simp, by simp, by simp, by simp, by simp⟩
  go_enter Tryd.func12, Tryd.ntmps12
  go_wp2_with fail
  obtain ⟨w0, hw0⟩ : ∃ w0 : World, w0 = w.alloc (.cells #[.int .i64 177, .int .i64 0, .int .i64 0, .int .i64 0, .string ⟨#[]⟩, .int .u64 0, .string ⟨#[]⟩, .string ⟨#[]⟩, .string ⟨#[]⟩, .int .i64 0, .slice none 0 0, .slice none 0 0] 48) := ⟨_, rfl⟩
  have J0 : Below w.heap.size w w0 := by rw [hw0]; exact (Below.refl _ _).alloc (Nat.le_refl _) _
  have q1 : w0.heap[w.heap.size]? = some (.cells #[.int .i64 177, .int .i64 0, .int .i64 0, .int .i64 0, .string ⟨#[]⟩, .int .u64 0, .string ⟨#[]⟩, .string ⟨#[]⟩, .string ⟨#[]⟩, .int .i64 0, .slice none 0 0, .slice none 0 0] 48 (0, 0)) := by rw [hw0]; exact heap_alloc_new w _
  rw [← hw0]
  obtain ⟨f1, f2⟩ := blk_facts q1
  have z1 : w.heap.size < w0.heap.size := (Array.getElem?_eq_some_iff.1 q1).1
  have z1d : w.heap.size < w0.drew.heap.size := z1
  have HT1 := Lib.hid (tab_below HT.out J0.drew)
  clear hw0
  refine wp_region_ord 16 (by kernel_rfl) (by kernel_rfl) (fun _ _ d _ _ h => by cases d <;> exact h) ?_
  simp only [List.take_succ_cons, List.take_zero, List.drop_succ_cons, List.drop_zero]
  repeat (first | (refine wpLex_skip rfl ?_; simp only [Act.put, List.setIfInBounds_toArray, List.set_cons_zero, List.set_cons_succ]) | (refine wpLex_fix rfl ?_; intro F hF R hR hne K hK; go_big_quiet_op; first | (go_big_quiet_on; clear hne hR R hF F) | (apply Exists.intro; refine ⟨fun g => ?_, ?_⟩; (((first | (rw [GrE.cell g _ _ z1d]; go_simp; first | exact ⟨rfl, rfl⟩ | rfl) | (go_simp; (repeat (simp only [GrE.cell g _ _ z1d]; go_simp)); first | exact ⟨rfl, rfl⟩ | rfl) | (go_at_call 16; exact GrE.call hR (ints_blk (GrE.blk g (hF.out _ _ _ (by decide) (.inr ⟨rfl, rfl, rfl⟩))) [0, 177, 0, 0, 0] _ rfl rfl hI.out (by simp) (tab_below HT1.out (GrE.below g)))) | (go_at_call 11; exact GrE.call hR (value_any ⟨0, [], 0, [], [], []⟩ _ hok.out (tab_below HT1.out (GrE.below g))))))); go_big_quiet_on; clear hne hR R hF F)) | (apply wpLex_blk rfl; (focus (intro x hx; go_simp; exact ⟨rfl, rfl⟩)); intro B hB; simp only [Act.put, blkVal, List.setIfInBounds_toArray, List.set_cons_zero, List.set_cons_succ]))
  refine wpLex_nil ?_
  intro w1 hw1
  have F1 := hw1.fact 21 _ _ (.inr ⟨rfl, rfl, rfl⟩)
  have c1 := (hw1.below.block _ z1d).trans q1
  obtain ⟨f3, f4⟩ := blk_facts c1
  have J2 := Lib.hid (Below.after' (Below.drew J0) hw1.below (Nat.le_refl _))
  have L1 := Lib.hid F1.2
  clear hw1 F1 q1 c1 f1 f2
  go_wp2_with fail
  refine wp_loop_rounds 1 ?_
  rw [rounds_succ]
  go_wp2_with fail
  refine (line_blk L1.out [Li.ints [0, 177, 0, 0, 0], Li.value ⟨0, [], 0, [], [], []⟩] _ rfl rfl (by simp) hln.out).mono ?_
  rintro e w3 ⟨rfl, hb⟩
  have J3 := Lib.hid (Below.after' J2.out hb (Nat.le_refl _))
  clear hb
  go_wp2
  go_ret
  exact ⟨rfl, J3.out⟩
end Go.Proofs.YtmidabbfjciogaaDoor
