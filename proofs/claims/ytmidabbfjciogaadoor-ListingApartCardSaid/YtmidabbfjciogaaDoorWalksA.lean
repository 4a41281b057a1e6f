/- The walks of layer 35: a builder's bytes. -/
import Derived.Test.YtmidabbfjciogaaDoorAppend
import Derived.Test.YtmidabbfjciogaaDoorOrder
import Derived.Test.YtmidabbfjciogaaDoorShelf
import Derived.Test.YtmidabbfjciogaaDoorProg
import Derived.WalkKit
import Derived.WalkSpells
import Derived.WalkLawsBesides
import Derived.Deep.QuietTactic
import Derived.BigQuiet
import Derived.Lib.Hide
import Derived.Lib.Builder
namespace Go.Proofs.YtmidabbfjciogaaDoor
open Go.RowKit

theorem infoByte : (Tryd.prog.info? 5).map (fun i => (i.zero, i.size, i.bytes)) = some (some (.int .u8 0), 1, 1) := by kernel_rfl
theorem sizeBuilder : (Tryd.prog.info? 66).map (·.size) = some 2 := by kernel_rfl
theorem liesBuilder : liesAt Tryd.prog Tryd.prog.depth 66 (2 / Tryd.prog.cellsOf 66) 0 66 1 = true := by kernel_rfl

set_option maxHeartbeats 1000000 in
set_option maxRecDepth 100000 in
theorem copyCheck_used (b : Nat) (w : World) (h0 : w.cell? ⟨b, 0, none⟩ = some (.pointer (some ⟨b, 0, none⟩))) :
    Calls Tryd.prog 38 #[.pointer (some ⟨b, 0, none⟩)] w fun e w' => e = .returned (.tuple #[]) ∧ w' = w := by
  obtain ⟨j, hj, hjs⟩ := Option.map_eq_some_iff.1 sizeBuilder
  go_enter Tryd.func38, Tryd.ntmps38
  go_wp2
  rw [Lib.run_neq_ptr_same w _ Tryd.underlying63 hj]
  go_wp2
  go_end0
  exact ⟨rfl, rfl⟩

set_option maxHeartbeats 1000000 in
set_option maxRecDepth 100000 in
theorem copyCheck_fresh (b : Nat) (w : World) (h0 : w.cell? ⟨b, 0, none⟩ = some (.pointer none)) (hsh : w.shape? b = some (66, 2)) (hfz : w.frozen? ⟨b, 0, none⟩ = false) :
    Calls Tryd.prog 38 #[.pointer (some ⟨b, 0, none⟩)] w fun e w' => e = .returned (.tuple #[]) ∧ w' = w.setCell ⟨b, 0, none⟩ (.pointer (some ⟨b, 0, none⟩)) := by
  obtain ⟨j, hj, hjs⟩ := Option.map_eq_some_iff.1 sizeBuilder
  go_enter Tryd.func38, Tryd.ntmps38
  go_wp2
  rw [Lib.run_to_unsafe w ⟨b, 0, none⟩ Tryd.underlying63 Tryd.underlying92 hj (by rw [hjs]; decide) hsh (Nat.zero_lt_succ 1)]
  simp only [Result.andThen]
  rw [Oper.upon_value]
  go_wp2
  rw [run_callFunc_extern Tryd.func46 (by kernel_rfl) (by kernel_rfl) (by kernel_rfl) (e := Extern.AbiNoEscape.same) (by kernel_rfl)]
  rw [Lib.run_noEscape]
  simp only [Result.andThen]
  rw [Oper.upon_value]
  go_wp2
  rw [Lib.run_from_unsafe w ⟨b, 0, none⟩ Tryd.underlying92 Tryd.underlying63 hj hsh liesBuilder]
  simp only [Result.andThen]
  rw [Oper.upon_value]
  go_wp2
  go_end0
  exact ⟨rfl, rfl⟩

/-- What a write to a builder leaves: all but the builder's block and its old buffer. -/
structure Kept2 (w w' : World) (b : Nat) (o : Option Nat) : Prop where
  os : w'.os = w.os
  tape : w'.tape = w.tape
  output : w'.output = w.output
  size : w.heap.size ≤ w'.heap.size
  block : ∀ k, k < w.heap.size → k ≠ b → some k ≠ o → w'.heap[k]? = w.heap[k]?
theorem Kept2.below {w w' : World} {b base : Nat} {o : Option Nat} (h : Kept2 w w' b o) (hb : base ≤ b) (hs : base ≤ w.heap.size) (ho : ∀ k, o = some k → base ≤ k) : Below base w w' :=
  ⟨h.os, h.tape, h.output, h.size, fun k hk => h.block k (by omega) (by omega) (fun e => by have := ho k e.symm; omega)⟩
theorem Kept2.trans {w w1 w2 : World} {b : Nat} {o o1 : Option Nat} (h : Kept2 w w1 b o) (k : Kept2 w1 w2 b o1) (ho : o1 = o ∨ ∃ g, w.heap.size ≤ g ∧ o1 = some g) : Kept2 w w2 b o :=
  ⟨k.os.trans h.os, k.tape.trans h.tape, k.output.trans h.output, Nat.le_trans h.size k.size, fun i hi hne hno => by
    rw [k.block i (Nat.lt_of_lt_of_le hi h.size) hne (fun e => by
      rcases ho with ho | ⟨g, hg, ho⟩
      · exact hno (e.trans ho)
      · rw [ho] at e; cases e; omega), h.block i hi hne hno]⟩

/-- A builder in block b, of address p, its buffer v, with the bytes l. -/
def Bld (w : World) (b base : Nat) (p v : Value) (l : List UInt8) : Prop :=
  w.heap[b]? = some (.cells #[p, v] 66) ∧ (p = .pointer none ∨ p = .pointer (some ⟨b, 0, none⟩)) ∧ BRow w base 5 v l
def BldPost (b base : Nat) (w : World) (v : Value) (l : List UInt8) (r : Value) (e : Ending) (w' : World) : Prop :=
  ∃ v', e = .returned r ∧ Bld w' b base (.pointer (some ⟨b, 0, none⟩)) v' l ∧ (v'.ownBlock = v.ownBlock ∨ ∃ g, w.heap.size ≤ g ∧ v'.ownBlock = some g) ∧ Kept2 w w' b v.ownBlock

theorem copyCheck_any (b base : Nat) (p v : Value) (l : List UInt8) (w : World) (h : Bld w b base p v l) :
    Calls Tryd.prog 38 #[.pointer (some ⟨b, 0, none⟩)] w fun e w' => e = .returned (.tuple #[]) ∧ Bld w' b base (.pointer (some ⟨b, 0, none⟩)) v l ∧ w.grownBy w' (some b) ∧ w'.heap.size = w.heap.size := by
  obtain ⟨hb, hp, hr⟩ := h
  have hne : v.ownBlock ≠ some b := fun e => own_ne hr hb (by decide) e.symm
  have hlt : b < w.heap.size := (Array.getElem?_eq_some_iff.1 hb).1
  rcases hp with rfl | rfl
  · refine (copyCheck_fresh b w (by rw [Lib.cell_of_heap hb]; rfl) (by simp [World.shape?, hb]) (Lib.frozen_of_heap hb 0)).mono ?_
    rintro e w' ⟨rfl, rfl⟩
    have hg : w.grownBy (w.setCell ⟨b, 0, none⟩ (.pointer (some ⟨b, 0, none⟩))) (some b) := ⟨rfl, rfl, rfl, by simp, fun k hk hk2 => heap_setCell_other _ _ _ _ (fun e => hk2 (by simp [e]))⟩
    refine ⟨rfl, ⟨?_, .inr rfl, hr.kept hg (.inr hne)⟩, hg, by simp⟩
    rw [heap_setCell_same _ _ _ _ _ _ hb]; rfl
  · refine (copyCheck_used b w (by rw [Lib.cell_of_heap hb]; rfl)).mono ?_
    rintro e w' ⟨rfl, rfl⟩
    exact ⟨rfl, ⟨hb, .inr rfl, hr⟩, World.grownBy.refl _ _, rfl⟩

set_option maxHeartbeats 1000000 in
set_option maxRecDepth 100000 in
theorem writeByte_any (b base : Nat) (p v : Value) (l : List UInt8) (c : UInt8) (w : World) (h : Bld w b base p v l) (hbs : base ≤ w.heap.size) (hlen : l.length + 1 ≤ 1000000000) :
    Calls Tryd.prog 25 #[.pointer (some ⟨b, 0, none⟩), .int .u8 (c.toNat : Int)] w (BldPost b base w v (l ++ [c]) .nilIface) := by
  obtain ⟨i0, hi, hz0, hz1, hz2⟩ := info_parts infoByte
  have hc0 := Lib.hid (copyCheck_any b base p v l w h)
  clear h
  go_enter Tryd.func25, Tryd.ntmps25
  go_wp2_with fail
  refine hc0.out.mono ?_
  rintro e w1 ⟨rfl, ⟨hb, _, hr⟩, hg1, hz⟩
  have hlt : b < w1.heap.size := (Array.getElem?_eq_some_iff.1 hb).1
  have c0 : w1.cell? ⟨b, 0, none⟩ = some (.pointer (some ⟨b, 0, none⟩)) := by rw [Lib.cell_of_heap hb]; rfl
  have c1 : w1.cell? ⟨b, 1, none⟩ = some v := by rw [Lib.cell_of_heap hb]; rfl
  have hr' := Lib.hid hr
  have hb' := Lib.hid hb
  have hg1' := Lib.hid hg1
  have hz' := Lib.hid hz
  clear hr hb hg1 hz
  go_wp2_with (at_builtin; (refine wpList_append_row rfl _ _ 64 64 rfl base 5 i0 (.int .u8 0) 1 1 Tryd.underlying64 hi hz0 hz1 hz2 rfl v _ _ rfl (hr'.out.grow ((Below.refl _ _).alloc (Nat.le_refl _) _)) (.slice (some ⟨w1.heap.size, 0, none⟩) 1 1) 1 [.int .u8 c.toNat] rfl ?_ ?c0 ?c1 ?c2 ?c3))
  case c0 => exact src_block Tryd.underlying64 1 1 1 _ #[.int .u8 c.toNat] _ _ (heap_alloc_new _ _) rfl (by simp [Value.oneCell'])
  case c1 => unfold maxLen; omega
  case c2 => omega
  case c3 => rw [World.size_alloc]; have := hz'.out; omega
  intro v' w2 hown' hhop2
  have q1 : w2.heap[b]? = some (.cells #[.pointer (some ⟨b, 0, none⟩), v] 66) := by
    rw [hhop2.1.block b (by rw [World.size_alloc]; omega) (own_ne hr'.out hb'.out (by decide)), heap_alloc_old _ _ hlt]
    exact hb'.out
  obtain ⟨f1, f2⟩ := blk_facts q1
  have q1' := Lib.hid q1
  clear q1 c0 c1
  obtain ⟨g, cap, rfl⟩ : ∃ g cap, v' = .slice (some ⟨g, 0, none⟩) (l.length + 1) cap := by
    rcases hown'.2 with ⟨_, h0⟩ | ⟨g, cap, cur, hv, _⟩
    · omega
    · exact ⟨g, cap, hv⟩
  have hown := Lib.hid hown'
  have hhop := Lib.hid hhop2
  clear hown' hhop2
  go_wp2
  go_ret
  have hne : ∀ x : Option Nat, some b ≠ x → x = none ∨ x ≠ some b := fun x h => .inr fun e => h e.symm
  have hro : BRow w2 base 5 (.slice (some ⟨g, 0, none⟩) (l.length + 1) cap) (l ++ [c]) := BRow.app (m := [c]) hown.out rfl
  have hgs : w2.grownBy (w2.setCell ⟨b, 1, none⟩ (.slice (some ⟨g, 0, none⟩) (l.length + 1) cap)) (some b) := ⟨rfl, rfl, rfl, by simp, fun k hk hk2 => heap_setCell_other _ _ _ _ (fun e => hk2 (by simp [e]))⟩
  refine ⟨_, rfl, ⟨?_, .inr rfl, hro.kept hgs (hne _ (own_ne hro q1'.out (by decide)))⟩, ?_, ?_⟩
  · rw [heap_setCell_same _ _ _ _ _ _ q1'.out]; rfl
  · rcases hhop.out.2 with e | ⟨g', h1, e⟩
    · exact .inl e
    · exact .inr ⟨g', by rw [World.size_alloc, hz'.out] at h1; omega, e⟩
  · have k1 := hg1'.out
    have k2 := hhop.out.1
    have k3 := hz'.out
    refine ⟨k2.os.trans k1.os, k2.tape.trans k1.tape, k2.output.trans k1.output, ?_, fun k hk hkb hko => ?_⟩
    · have := k2.size
      rw [World.size_alloc] at this
      rw [World.size_setCell]; omega
    · rw [heap_setCell_other _ _ _ _ hkb, k2.block k (by rw [World.size_alloc]; omega) hko, heap_alloc_old _ _ (by omega), k1.block k hk (fun e => hkb (by simpa using e))]
end Go.Proofs.YtmidabbfjciogaaDoor
