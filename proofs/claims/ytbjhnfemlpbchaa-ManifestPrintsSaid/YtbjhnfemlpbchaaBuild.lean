/- The walks of the library: a builder takes texts. -/
import Derived.Test.YtbjhnfemlpbchaaAppend
import Derived.Test.YtbjhnfemlpbchaaOrder
import Derived.Test.YtbjhnfemlpbchaaShelf
import Derived.Test.YtbjhnfemlpbchaaProg
import Derived.WalkKit
import Derived.WalkSpells
import Derived.WalkLawsBesides
import Derived.Deep.QuietTactic
import Derived.BigQuiet
import Derived.Lib.Hide
import Derived.Lib.Builder
namespace Go.Proofs.Ytbjhnfemlpbchaa
open Go.RowKit

theorem infoByte : (Try.prog.info? 5).map (fun i => (i.zero, i.size, i.bytes)) = some (some (.int .u8 0), 1, 1) := by kernel_rfl
theorem sizeBuilder : (Try.prog.info? 65).map (·.size) = some 2 := by kernel_rfl
theorem liesBuilder : liesAt Try.prog Try.prog.depth 65 (2 / Try.prog.cellsOf 65) 0 65 1 = true := by kernel_rfl

set_option maxHeartbeats 1000000 in
set_option maxRecDepth 100000 in
theorem copyCheck_used (b : Nat) (w : World) (h0 : w.cell? ⟨b, 0, none⟩ = some (.pointer (some ⟨b, 0, none⟩))) :
    Calls Try.prog 45 #[.pointer (some ⟨b, 0, none⟩)] w fun e w' => e = .returned (.tuple #[]) ∧ w' = w := by
  obtain ⟨j, hj, hjs⟩ := Option.map_eq_some_iff.1 sizeBuilder
  go_enter Try.func45, Try.ntmps45
  go_wp2
  rw [Lib.run_neq_ptr_same w _ Try.underlying63 hj]
  go_wp2
  go_end0
  exact ⟨rfl, rfl⟩

set_option maxHeartbeats 1000000 in
set_option maxRecDepth 100000 in
theorem copyCheck_fresh (b : Nat) (w : World) (h0 : w.cell? ⟨b, 0, none⟩ = some (.pointer none)) (hsh : w.shape? b = some (65, 2)) (hfz : w.frozen? ⟨b, 0, none⟩ = false) :
    Calls Try.prog 45 #[.pointer (some ⟨b, 0, none⟩)] w fun e w' => e = .returned (.tuple #[]) ∧ w' = w.setCell ⟨b, 0, none⟩ (.pointer (some ⟨b, 0, none⟩)) := by
  obtain ⟨j, hj, hjs⟩ := Option.map_eq_some_iff.1 sizeBuilder
  go_enter Try.func45, Try.ntmps45
  go_wp2
  rw [Lib.run_to_unsafe w ⟨b, 0, none⟩ Try.underlying63 Try.underlying86 hj (by rw [hjs]; decide) hsh (Nat.zero_lt_succ 1)]
  simp only [Result.andThen]
  rw [Oper.upon_value]
  go_wp2
  rw [run_callFunc_extern Try.func51 (by kernel_rfl) (by kernel_rfl) (by kernel_rfl) (e := Extern.AbiNoEscape.same) (by kernel_rfl)]
  rw [Lib.run_noEscape]
  simp only [Result.andThen]
  rw [Oper.upon_value]
  go_wp2
  rw [Lib.run_from_unsafe w ⟨b, 0, none⟩ Try.underlying86 Try.underlying63 hj hsh liesBuilder]
  simp only [Result.andThen]
  rw [Oper.upon_value]
  go_wp2
  go_end0
  exact ⟨rfl, rfl⟩

/-- What a write to a builder leaves: all but the builder's block and its old buffer. -/
structure Kept2 (w w' : World) (b : Nat) (o : Option Nat) : Prop where
  os : w'.os = w.os
  tape : w'.tape = w.tape
  output : w'.output = w.output
  size : w.heap.size ≤ w'.heap.size
  block : ∀ k, k < w.heap.size → k ≠ b → some k ≠ o → w'.heap[k]? = w.heap[k]?
theorem Kept2.below {w w' : World} {b base : Nat} {o : Option Nat} (h : Kept2 w w' b o) (hb : base ≤ b) (hs : base ≤ w.heap.size) (ho : ∀ k, o = some k → base ≤ k) : Below base w w' :=
  ⟨h.os, h.tape, h.output, h.size, fun k hk => h.block k (by omega) (by omega) (fun e => by have := ho k e.symm; omega)⟩
theorem Kept2.trans {w w1 w2 : World} {b : Nat} {o o1 : Option Nat} (h : Kept2 w w1 b o) (k : Kept2 w1 w2 b o1) (ho : o1 = o ∨ ∃ g, w.heap.size ≤ g ∧ o1 = some g) : Kept2 w w2 b o :=
  ⟨k.os.trans h.os, k.tape.trans h.tape, k.output.trans h.output, Nat.le_trans h.size k.size, fun i hi hne hno => by
    rw [k.block i (Nat.lt_of_lt_of_le hi h.size) hne (fun e => by
      rcases ho with ho | ⟨g, hg, ho⟩
      · exact hno (e.trans ho)
      · rw [ho] at e; cases e; omega), h.block i hi hne hno]⟩

/-- A builder in block b, of address p, its buffer v, with the bytes l. -/
def Bld (w : World) (b base : Nat) (p v : Value) (l : List UInt8) : Prop :=
  w.heap[b]? = some (.cells #[p, v] 65) ∧ (p = .pointer none ∨ p = .pointer (some ⟨b, 0, none⟩)) ∧ BRow w base 5 v l
def BldPost (b base : Nat) (w : World) (v : Value) (l : List UInt8) (r : Value) (e : Ending) (w' : World) : Prop :=
  ∃ v', e = .returned r ∧ Bld w' b base (.pointer (some ⟨b, 0, none⟩)) v' l ∧ (v'.ownBlock = v.ownBlock ∨ ∃ g, w.heap.size ≤ g ∧ v'.ownBlock = some g) ∧ Kept2 w w' b v.ownBlock

theorem copyCheck_any (b base : Nat) (p v : Value) (l : List UInt8) (w : World) (h : Bld w b base p v l) :
    Calls Try.prog 45 #[.pointer (some ⟨b, 0, none⟩)] w fun e w' => e = .returned (.tuple #[]) ∧ Bld w' b base (.pointer (some ⟨b, 0, none⟩)) v l ∧ w.grownBy w' (some b) ∧ w'.heap.size = w.heap.size := by
  obtain ⟨hb, hp, hr⟩ := h
  have hne : v.ownBlock ≠ some b := fun e => own_ne hr hb (by decide) e.symm
  have hlt : b < w.heap.size := (Array.getElem?_eq_some_iff.1 hb).1
  rcases hp with rfl | rfl
  · refine (copyCheck_fresh b w (by rw [Lib.cell_of_heap hb]; rfl) (by simp [World.shape?, hb]) (Lib.frozen_of_heap hb 0)).mono ?_
    rintro e w' ⟨rfl, rfl⟩
    have hg : w.grownBy (w.setCell ⟨b, 0, none⟩ (.pointer (some ⟨b, 0, none⟩))) (some b) := ⟨rfl, rfl, rfl, by simp, fun k hk hk2 => heap_setCell_other _ _ _ _ (fun e => hk2 (by simp [e]))⟩
    refine ⟨rfl, ⟨?_, .inr rfl, hr.kept hg (.inr hne)⟩, hg, by simp⟩
    rw [heap_setCell_same _ _ _ _ _ _ hb]; rfl
  · refine (copyCheck_used b w (by rw [Lib.cell_of_heap hb]; rfl)).mono ?_
    rintro e w' ⟨rfl, rfl⟩
    exact ⟨rfl, ⟨hb, .inr rfl, hr⟩, World.grownBy.refl _ _, rfl⟩

set_option maxHeartbeats 1000000 in
set_option maxRecDepth 100000 in
theorem writeString_any (b base : Nat) (p v : Value) (l m : List UInt8) (w : World) (h : Bld w b base p v l) (hbs : base ≤ w.heap.size) (hlen : l.length + m.length ≤ 100000000000) :
    Calls Try.prog 30 #[.pointer (some ⟨b, 0, none⟩), .string (bs m)] w (BldPost b base w v (l ++ m) (.tuple #[.int .i64 m.length, .nilIface])) := by
  obtain ⟨i0, hi, hz0, hz1, hz2⟩ := info_parts infoByte
  have hc0 := Lib.hid (copyCheck_any b base p v l w h)
  have hzm := bs_size m
  clear h
  go_enter Try.func30, Try.ntmps30
  go_wp2_with fail
  refine hc0.out.mono ?_
  rintro e w1 ⟨rfl, ⟨hb, _, hr⟩, hg1, hz⟩
  have hlt : b < w1.heap.size := (Array.getElem?_eq_some_iff.1 hb).1
  have c0 : w1.cell? ⟨b, 0, none⟩ = some (.pointer (some ⟨b, 0, none⟩)) := by rw [Lib.cell_of_heap hb]; rfl
  have c1 : w1.cell? ⟨b, 1, none⟩ = some v := by rw [Lib.cell_of_heap hb]; rfl
  have hr' := Lib.hid hr
  have hb' := Lib.hid hb
  have hg1' := Lib.hid hg1
  have hz' := Lib.hid hz
  clear hr hb hg1 hz
  go_wp2_with (at_builtin; (refine wpList_append_row rfl _ _ 22 9 rfl base 5 i0 (.int .u8 0) 1 1 Try.underlying22 hi hz0 hz1 hz2 rfl v _ _ rfl hr'.out (.string (bs m)) m.length (cb m) rfl ?_ ?c0 ?c1 ?c2 ?c3))
  case c0 => exact src_string Try.underlying9 m
  case c1 => unfold maxLen; omega
  case c2 => omega
  case c3 => have := hz'.out; omega
  intro v' w2 hown' hhop2
  have q1 : w2.heap[b]? = some (.cells #[.pointer (some ⟨b, 0, none⟩), v] 65) := by
    rw [hhop2.1.block b hlt (own_ne hr'.out hb'.out (by decide))]
    exact hb'.out
  obtain ⟨f1, f2⟩ := blk_facts q1
  have q1' := Lib.hid q1
  have hv1 : v'.oneCell' = true := by
    rcases hown'.2 with ⟨h, _⟩ | ⟨g, cap, cur, h, _⟩ <;> rw [h] <;> rfl
  clear q1 c0 c1
  have hown := Lib.hid hown'
  have hhop := Lib.hid hhop2
  obtain ⟨A, cap, rfl⟩ : ∃ A cap, v' = .slice A (l.length + m.length) cap := by
    rcases hown'.2 with ⟨h, h0⟩ | ⟨g, cap, cur, hv, _⟩
    · exact ⟨none, 0, by rw [h, h0]⟩
    · exact ⟨_, cap, hv⟩
  clear hown' hhop2 hv1
  go_wp2
  go_ret2
  have hne : ∀ x : Option Nat, some b ≠ x → x = none ∨ x ≠ some b := fun x h => .inr fun e => h e.symm
  have hro : BRow w2 base 5 (.slice A (l.length + m.length) cap) (l ++ m) := BRow.app (m := m) hown.out rfl
  have hgs : w2.grownBy (w2.setCell ⟨b, 1, none⟩ (.slice A (l.length + m.length) cap)) (some b) := ⟨rfl, rfl, rfl, by simp, fun k hk hk2 => heap_setCell_other _ _ _ _ (fun e => hk2 (by simp [e]))⟩
  refine ⟨_, rfl, ⟨?_, .inr rfl, hro.kept hgs (hne _ (own_ne hro q1'.out (by decide)))⟩, ?_, ?_⟩
  · rw [heap_setCell_same _ _ _ _ _ _ q1'.out]; rfl
  · rcases hhop.out.2 with e | ⟨g', h1, e⟩
    · exact .inl e
    · exact .inr ⟨g', by rw [hz'.out] at h1; omega, e⟩
  · have k1 := hg1'.out
    have k2 := hhop.out.1
    have k3 := hz'.out
    refine ⟨k2.os.trans k1.os, k2.tape.trans k1.tape, k2.output.trans k1.output, ?_, fun k hk hkb hko => ?_⟩
    · have := k2.size
      rw [World.size_setCell]; omega
    · rw [heap_setCell_other _ _ _ _ hkb, k2.block k (by omega) hko, k1.block k hk (fun e => hkb (by simpa using e))]

/-- All that holds no cells of these two types is as it was. -/
def KeepsBut (t u : TypeId) (w w' : World) : Prop := w.heap.size ≤ w'.heap.size ∧ ∀ (k : Nat) (o : Obj), w.heap[k]? = some o → (∀ c fr, o ≠ Obj.cells c t fr ∧ o ≠ Obj.cells c u fr) → w'.heap[k]? = some o
theorem KeepsBut.refl (t u : TypeId) (w : World) : KeepsBut t u w w := ⟨Nat.le_refl _, fun _ _ h _ => h⟩
theorem KeepsBut.trans {t u : TypeId} {a b c : World} (h : KeepsBut t u a b) (k : KeepsBut t u b c) : KeepsBut t u a c := ⟨Nat.le_trans h.1 k.1, fun i o e ho => k.2 i o (h.2 i o e ho) ho⟩
theorem Kept2.but {w w' : World} {b base : Nat} {p v : Value} {l : List UInt8} (k : Kept2 w w' b v.ownBlock) (h : Bld w b base p v l) : KeepsBut 65 5 w w' := by
  refine ⟨k.size, fun i o hi ho => (k.block i (Array.getElem?_eq_some_iff.1 hi).1 (fun e => ?_) (fun e => ?_)).trans hi⟩
  · subst e
    rw [h.1] at hi
    cases hi
    exact (ho _ _).1 rfl
  · rcases h.2.2.2 with ⟨h, _⟩ | ⟨g, cap, cur, h, _, hg, _⟩
    · rw [h] at e; simp [Value.ownBlock] at e
    · rw [h] at e
      simp [Value.ownBlock] at e
      subst e
      rw [hg] at hi
      cases hi
      exact (ho _ _).2 rfl
/-- All that holds cells of this type is as it was. -/
def KeepsOf (t : TypeId) (w w' : World) : Prop := w.heap.size ≤ w'.heap.size ∧ ∀ (k : Nat) (c : Array Value) (fr : Nat × Nat), w.heap[k]? = some (Obj.cells c t fr) → w'.heap[k]? = some (Obj.cells c t fr)
theorem KeepsOf.refl (t : TypeId) (w : World) : KeepsOf t w w := ⟨Nat.le_refl _, fun _ _ _ h => h⟩
theorem KeepsOf.trans {t : TypeId} {a b c : World} (h : KeepsOf t a b) (k : KeepsOf t b c) : KeepsOf t a c := ⟨Nat.le_trans h.1 k.1, fun i o fr e => k.2 i o fr (h.2 i o fr e)⟩
theorem KeepsOf.below {t : TypeId} {w w' : World} (k : Below w.heap.size w w') : KeepsOf t w w' := ⟨k.size, fun i _ _ h => (k.block i (Array.getElem?_eq_some_iff.1 h).1).trans h⟩
theorem KeepsOf.grown {t : TypeId} {w w' : World} {o : Option Nat} (k : w.grownBy w' o) (ho : ∀ g, o = some g → ∀ c fr, w.heap[g]? ≠ some (Obj.cells c t fr)) : KeepsOf t w w' :=
  ⟨k.size, fun i c fr h => (k.block i (Array.getElem?_eq_some_iff.1 h).1 (fun e => ho i e.symm c fr h)).trans h⟩
theorem KeepsOf.setCell {t : TypeId} {w : World} {a : Addr} (u : Value) (ho : ∀ c fr, w.heap[a.block]? ≠ some (Obj.cells c t fr)) : KeepsOf t w (w.setCell a u) :=
  ⟨by simp, fun i c fr h => (Below.heap_setCell w a u i (fun e => ho c fr (e ▸ h))).trans h⟩
/-- A builder whose block lies lower than the base, and whose buffer holds what it held. -/
theorem Bld.keep {w w' : World} {b base B : Nat} {p v : Value} {l : List UInt8} (h : Bld w b base p v l) (k : KeepsOf 5 w w') (hB : Below B w w') (hb : b < B) : Bld w' b base p v l := by
  obtain ⟨h1, h2, h3, h4⟩ := h
  refine ⟨(hB.block b hb).trans h1, h2, h3, ?_⟩
  rcases h4 with h4 | ⟨g, cap, cur, h4, h5, h6, h7⟩
  · exact .inl h4
  · exact .inr ⟨g, cap, cur, h4, h5, k.2 g cur _ h6, h7⟩
theorem isBuilder {w : World} {b base : Nat} {p v : Value} {l : List UInt8} (h : Bld w b base p v l) (hb : base ≤ b) : Lib.IsBuilder 65 5 base b (Lib.byteCells l) w := by
  obtain ⟨h1, h2, h3⟩ := h
  have hne : v.ownBlock ≠ some b := fun e => own_ne h3 h1 (by decide) e.symm
  have hl : (Lib.byteCells l).length = l.length := List.length_map ..
  have h4 : w.ownsRow base 5 1 v (Lib.byteCells l).length (Lib.byteCells l) := by rw [hl]; exact h3
  rcases h2 with rfl | rfl
  · exact .inl ⟨hb, v, h1, h4, hne⟩
  · exact .inr ⟨hb, v, h1, h4, hne⟩
end Go.Proofs.Ytbjhnfemlpbchaa
