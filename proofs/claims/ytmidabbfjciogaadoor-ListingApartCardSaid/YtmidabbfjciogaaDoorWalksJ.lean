/- Layer 35: what is said beside, where nothing is. -/
import Derived.Test.YtmidabbfjciogaaDoorWalksI
namespace Go.Proofs.YtmidabbfjciogaaDoor
open Go.RowKit

/-- The cells of attributes without anything. -/
abbrev Li.noAttrs : Array Value := #[.int .i64 0, .int .i64 0, .int .i64 0, .slice none 0 0, .slice none 0 0, .int .i64 0, .slice none 0 0, .slice none 0 0, .int .i64 0, .string ⟨#[]⟩, .int .u64 0, .string ⟨#[]⟩, .string ⟨#[]⟩, .string ⟨#[]⟩, .slice none 0 0, .slice none 0 0, .string ⟨#[]⟩, .string ⟨#[]⟩]

set_option maxHeartbeats 4000000 in
theorem put_none (bit : Int) (l : Value) (bk bo : Nat) (w : World) (hb : bit = 2 ∨ bit = 8 ∨ bit = 32 ∨ bit = 64) (hc : w.cell? ⟨bk, 0, none⟩ = some (.int .i64 0)) :
    Calls Tryd.prog 33 #[.int .i64 bit, l, .pointer (some ⟨bk, 0, none⟩), .pointer (some ⟨bo, 0, none⟩)] w fun e w' => e = .returned (.tuple #[]) ∧ w = w' := by
  rcases hb with rfl | rfl | rfl | rfl
  all_goals
    go_enter Tryd.func33, Tryd.ntmps33
    go_wp2
    go_end0
    exact ⟨rfl, rfl⟩

/-- What stands while nothing is put: the attributes' box, the words, and the variable of the words. -/
structure Bes (w : World) (L : Nat) (x : World) : Prop where
  below : Below w.heap.size w x
  box : x.heap[w.heap.size]? = some (.cells Li.noAttrs 35 (0, 0))
  words : x.heap[L]? = some (.cells #[.string (bs [98, 101, 115, 105, 100, 101]), .string (bs [48])] 9 (0, 0))
  var : x.heap[L + 1]? = some (.cells #[.slice (some ⟨L, 0, none⟩) 2 2] 22 (0, 0))
theorem Bes.grow {w x y : World} {L : Nat} (h : Bes w L x) (k : Below x.heap.size x y) : Bes w L y :=
  ⟨Below.after' h.below k (Nat.le_refl _), (k.block _ (Array.getElem?_eq_some_iff.1 h.box).1).trans h.box, (k.block _ (Array.getElem?_eq_some_iff.1 h.words).1).trans h.words, (k.block _ (Array.getElem?_eq_some_iff.1 h.var).1).trans h.var⟩
theorem Bes.alloc {w x : World} {L : Nat} (h : Bes w L x) (o : Obj) : Bes w L (x.alloc o) := h.grow ((Below.refl _ _).alloc (Nat.le_refl _) _)
theorem Bes.facts {w x : World} {L : Nat} (h : Bes w L x) : (∀ j, x.cell? ⟨w.heap.size, j, none⟩ = Li.noAttrs[j]?) ∧ (∀ j, x.frozen? ⟨w.heap.size, j, none⟩ = false) ∧ x.cell? ⟨L + 1, 0, none⟩ = some (.slice (some ⟨L, 0, none⟩) 2 2) ∧ w.heap.size < x.heap.size ∧ L + 1 < x.heap.size :=
  ⟨fun j => cell_of_row x _ j _ _ _ h.box, (blk_facts h.box).2, cell_of_row x _ 0 _ _ _ h.var, (Array.getElem?_eq_some_iff.1 h.box).1, (Array.getElem?_eq_some_iff.1 h.var).1⟩

set_option maxHeartbeats 8000000 in
set_option maxRecDepth 100000 in
theorem beside_none (w : World) (ht : TabP w) :
    Calls Tryd.prog 18 #[.agg Li.noAttrs] w fun e w' => e = .returned (.string (bs (Li.line [[98, 101, 115, 105, 100, 101], [48]]))) ∧ Below w.heap.size w w' := by
  have HT := Lib.hid ht
  have i0 := Lib.hid (show Lib.itoa 0 = [48] by decide +kernel)
  clear ht
  go_enter Tryd.func18, Tryd.ntmps18
  go_wp2_with fail
  have J0 : Below w.heap.size w (w.alloc (.cells Li.noAttrs 35)) := (Below.refl _ _).alloc (Nat.le_refl _) _
  refine (itoa_any 0 _ (by simp [I64]) (tab_below HT.out J0)).mono ?_
  rintro e w1 ⟨rfl, hb⟩
  have J1 := Lib.hid (Below.after' J0 hb (Nat.le_refl _))
  have q1 := (hb.block _ (by simp)).trans (heap_alloc_new w _)
  have Q1 := Lib.hid q1
  obtain ⟨f1, f2⟩ := blk_facts q1
  have z1 : w.heap.size < w1.heap.size := (Array.getElem?_eq_some_iff.1 q1).1
  clear hb q1 J0
  go_wp2_with fail
  have hok : Li.V.ok ⟨0, [], 0, [], [], []⟩ := ⟨by simp [I64], by simp, by simp, by simp, by simp, by simp⟩
  rw [i0.out]
  obtain ⟨w2, hw2⟩ : ∃ w2 : World, w2 = ((w1.alloc (.cells #[.string ⟨#[98, 101, 115, 105, 100, 101]⟩, .string (bs [48])] 9)).alloc (.cells #[.slice (some ⟨w1.heap.size, 0, none⟩) 2 2] 22)) := ⟨_, rfl⟩
  have B2 : Bes w w1.heap.size w2 := by
    have hL : (w1.alloc (.cells #[.string ⟨#[98, 101, 115, 105, 100, 101]⟩, .string (bs [48])] 9)).heap[w1.heap.size]? = _ := heap_alloc_new _ _
    have hB : Below w1.heap.size w1 w2 := by rw [hw2]; exact (((Below.refl _ _).alloc (Nat.le_refl _) _).alloc (by simp) _)
    refine ⟨Below.after' J1.out hB (Nat.le_refl _), (hB.block _ z1).trans Q1.out, ?_, ?_⟩
    · rw [hw2]; exact (Below.heap_alloc _ _ _ (by simp)).trans hL
    · rw [hw2]; have := heap_alloc_new (w1.alloc (.cells #[.string ⟨#[98, 101, 115, 105, 100, 101]⟩, .string (bs [48])] 9)) (.cells #[.slice (some ⟨w1.heap.size, 0, none⟩) 2 2] 22); simpa using this
  have J2 := Lib.hid J1.out
  rw [← hw2]
  clear hw2 J2 J1 Q1 f1 f2
  generalize w1.heap.size = L at *
  have v0 : Li.value ⟨0, [], 0, [], [], []⟩ = [48] := by rw [← i0.out]; rfl
  have hv := value_any ⟨0, [], 0, [], [], []⟩ w2 hok (tab_below HT.out B2.below)
  rw [v0] at hv
  have hL2 := Lib.hid B2
  refine hv.mono ?_
  clear v0 hv B2
  rintro e w3 ⟨rfl, hb⟩
  have B3 := Lib.hid ((hL2.out.grow hb).alloc (.cells #[.string ⟨#[118, 97, 108, 117, 101]⟩, .string (bs [48])] 9))
  obtain ⟨f1, f2, f3, f4, f5⟩ := (hL2.out.grow hb).facts
  clear hb
  go_wp2_with fail
  refine (put_none 2 _ _ _ _ (by simp) (B3.out.facts.1 0)).mono ?_
  rintro e w4 ⟨rfl, rfl⟩
  go_wp2_with fail
  have B4 := Lib.hid (B3.out.alloc (.cells #[.string ⟨#[116, 104, 114, 111, 119, 115]⟩] 9))
  refine (put_none 8 _ _ _ _ (by simp) (B4.out.facts.1 0)).mono ?_
  rintro e w4 ⟨rfl, rfl⟩
  go_wp2_with fail
  refine wp_loop_rounds 1 ?_
  rw [rounds_succ]
  go_wp2_with fail
  refine (or_any [] _ (by simp)).mono ?_
  rintro e w5 ⟨rfl, hb⟩
  have B5 := Lib.hid (B4.out.grow hb)
  obtain ⟨g1, g2, g3, g4, g5⟩ := B5.out.facts
  clear hb f1 f2 f3 f4 f5
  go_wp2_with fail
  have B6 := Lib.hid (B5.out.alloc (.cells #[.string ⟨#[115, 105, 103, 110, 97, 116, 117, 114, 101]⟩, .string (bs (Li.or []))] 9))
  refine (put_none 32 _ _ _ _ (by simp) (B6.out.facts.1 0)).mono ?_
  rintro e w4 ⟨rfl, rfl⟩
  go_wp2_with fail
  refine (or_any [] _ (by simp)).mono ?_
  rintro e w7 ⟨rfl, hb⟩
  have B7 := Lib.hid (B6.out.grow hb)
  obtain ⟨f1, f2, f3, f4, f5⟩ := B7.out.facts
  clear hb g1 g2 g3 g4 g5
  go_wp2_with fail
  have B8 := Lib.hid (B7.out.alloc (.cells #[.string ⟨#[115, 111, 117, 114, 99, 101]⟩, .string (bs (Li.or []))] 9))
  refine (put_none 64 _ _ _ _ (by simp) (B8.out.facts.1 0)).mono ?_
  rintro e w4 ⟨rfl, rfl⟩
  go_wp2_with fail
  refine (line_blk B8.out.words [[98, 101, 115, 105, 100, 101], [48]] _ rfl rfl (by simp) (by decide +kernel)).mono ?_
  rintro e w9 ⟨rfl, hb⟩
  have J9 := Lib.hid (Below.after' B8.out.below hb (Nat.le_refl _))
  clear hb
  go_wp2
  go_ret
  exact ⟨rfl, J9.out⟩
end Go.Proofs.YtmidabbfjciogaaDoor
