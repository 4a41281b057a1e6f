/- The walks of the library at rows of values: Clone, Grow of the nil row, Concat of two rows. -/
import Derived.Test.YtekcfjfkbiciaaaPut
import Derived.Test.YtekcfjfkbiciaaaVOff
import Derived.Shelf.Spec.SlicesGrow
import Derived.LoopN
import Derived.Lib.SliceRun
namespace Go.Proofs.Ytekcfjfkbiciaaa
open Go.RowKit Go.Shelf

set_option maxHeartbeats 1000000 in
set_option maxRecDepth 100000 in
theorem clone_any (A : Option Addr) (c : Nat) (l : List Pv) (w : World) (hx : Vals w A c l) (hn : l.length ≤ 1000000000) (hA : A = none → c = 0) :
    Calls Try.prog 13 #[.slice A l.length c] w fun e w' => ∃ u, e = .returned u ∧ VRow w' w.heap.size u l ∧ Below w.heap.size w w' := by
  have HX := Lib.hid hx
  have qn : ∀ (w : World) (a : Option Addr) (n c : Nat), (binOp .eql 22 (.slice a n c) (.slice none 0 0)).run Try.prog w = .ok (.bool a.isNone) w := fun w a n c => Lib.run_eql_slice_nil w _ _ _ _ _ _ _ Try.underlying22
  clear hx
  cases A with
  | none =>
    obtain rfl : l = [] := by
      cases l with
      | nil => rfl
      | cons x l => obtain ⟨g, o, e, _⟩ := HX.out.2 (by simp); cases e
    obtain rfl := hA rfl
    clear hA HX
    go_enter Try.func13, Try.ntmps13
    go_wp2
    go_ret
    exact ⟨_, rfl, VRow.nil _ _, Below.refl _ _⟩
  | some a =>
    clear hA
    go_enter Try.func13, Try.ntmps13
    go_wp2_with (at_builtin; refine wpList_appV rfl _ _ rfl w.heap.size (.slice (some ⟨_, 0, none⟩) 0 0) [] rfl (fresh0 (heap_alloc_new _ _) (Nat.le_refl _)) _ l rfl (HX.out.src ((Below.refl _ _).alloc (Nat.le_refl _) _)) (by simp; omega) (by simp) ?_; intro v1 w1 hr1 hp1)
    have hb1 := Lib.hid (show Below w.heap.size w w1 from Below.trans ((Below.refl _ _).alloc (Nat.le_refl _) _) (hp1.below (by simp) (fun k hk => by cases hk; simp)))
    have HR := Lib.hid hr1
    clear hr1 hp1
    go_ret
    exact ⟨_, rfl, HR.out, hb1.out⟩

def grow_ren : Go.Shelf.Ren := ⟨fun | 4 => 37 | n => n, fun | 0 => 0 | 3 => 3 | 4 => 4 | 9 => 9 | 20 => 20 | 22 => 22 | 25 => 25 | n => n, fun | n => n⟩
theorem grow_lays : Lays8.n4 Try.prog grow_ren := {
  mixed := by kernel_rfl
  f4 := ⟨Try.f37.name, by decide, Try.func37.trans (congrArg some (by kernel_rfl))⟩
  t0 := Try.underlying0
  a0 := Try.isAgg0
  z0 := Try.sizeOf0
  v0 := Try.zeroValue0
  t3 := Try.underlying3
  a3 := Try.isAgg3
  z3 := Try.sizeOf3
  v3 := Try.zeroValue3
  t4 := Try.underlying4
  a4 := Try.isAgg4
  z4 := Try.sizeOf4
  v4 := Try.zeroValue4
  t9 := Try.underlying9
  a9 := Try.isAgg9
  z9 := Try.sizeOf9
  v9 := Try.zeroValue9
  t20 := Try.underlying20
  a20 := Try.isAgg20
  z20 := Try.sizeOf20
  v20 := Try.zeroValue20
  t22 := Try.underlying22
  a22 := Try.isAgg22
  z22 := Try.sizeOf22
  v22 := Try.zeroValue22
}
theorem grow_nil (n : Nat) (w : World) (hn : 0 < n) (hb : n ≤ 100000000) :
    Calls Try.prog 37 #[.slice none 0 0, .int .i64 n] w fun e w' => ∃ u, e = .returned u ∧ VRow w' w.heap.size u [] ∧ Below w.heap.size w w' := by
  obtain ⟨i0, hi, hz0, hz1, hz2⟩ := info_parts infoVal
  refine (Any8.slices_Grow_grow grow_lays i0 _ hi hz0 (by omega) none 0 0 n [] w (Nat.le_refl _) (by omega) (by rw [hz2]; omega) (by omega) (by simp) (fun _ => rfl) (fun a e => by cases e)).mono ?_
  rintro e w' ⟨rfl, rfl⟩
  refine ⟨_, rfl, ⟨rfl, .inr ⟨w.heap.size, _, _, rfl, Nat.le_refl _, heap_alloc_new w.drew _, ?_, ?_, ?_, ?_⟩⟩, ((Below.refl w.heap.size w).drew).alloc (Nat.le_refl _) _⟩
  · exact Nat.zero_le _
  · exact grownCap_le_maxLen _ _ _ _ (by unfold maxLen; omega)
  · have := grownCap_ge w (0 + n) 0 (grow_ren.t 25)
    simp only [List.size_toArray, List.length_nil, Array.size_append, size_zeroCells]
    rw [show (Value.agg #[.int .i64 0, .string ⟨#[]⟩, .int .u64 0, .string ⟨#[]⟩, .string ⟨#[]⟩, .string ⟨#[]⟩]).cells.size = 6 from rfl]
    omega
  · rfl
set_option maxHeartbeats 1000000 in
set_option maxRecDepth 100000 in
theorem grow_zero (w : World) : Calls Try.prog 37 #[.slice none 0 0, .int .i64 0] w fun e w' => ∃ u, e = .returned u ∧ VRow w' w.heap.size u [] ∧ Below w.heap.size w w' := by
  go_enter Try.func37, Try.ntmps37
  go_wp2
  go_ret
  exact ⟨_, rfl, VRow.nil _ _, Below.refl _ _⟩
set_option maxHeartbeats 4000000 in
set_option maxRecDepth 100000 in
theorem concat_any (S : Nat) (A : Option Addr) (c : Nat) (l : List Pv) (B : Option Addr) (d : Nat) (m : List Pv) (w : World) (hS : w.heap[S]? = some (.cells #[.slice A l.length c, .slice B m.length d] 22 (0, 0)))
    (hA : Vals w A c l) (hB : Vals w B d m) (hn : l.length ≤ 1000000) (hm : m.length ≤ 1000000) :
    Calls Try.prog 21 #[.slice (some ⟨S, 0, none⟩) 2 2] w fun e w' => ∃ v, e = .returned v ∧ VRow w' w.heap.size v (l ++ m) ∧ Below w.heap.size w w' := by
  obtain ⟨f1, _⟩ := blk_facts hS
  have c0 : w.cell? ⟨S, 0, none⟩ = some (.slice A l.length c) := f1 0
  have c1 : w.cell? ⟨S, 1, none⟩ = some (.slice B m.length d) := f1 1
  have hSz := (Array.getElem?_eq_some_iff.1 hS).1
  have HS := Lib.hid hS
  have HA := Lib.hid hA
  have HB := Lib.hid hB
  clear f1 hS hA hB
  have q1 : decide ((0 : Int) < 2) = true := rfl
  have q2 : decide ((1 : Int) < 2) = true := rfl
  have q3 : decide ((2 : Int) < 2) = false := rfl
  have q4 : decide ((l.length : Int) + (m.length : Int) < 0) = false := decide_eq_false (by omega)
  have q5 : decide ((l.length : Int) < 0) = false := decide_eq_false (by omega)
  have HG := Lib.hid (show Calls Try.prog 37 #[.slice none 0 0, .int .i64 ((l.length : Int) + (m.length : Int))] w fun e w' => ∃ u, e = .returned u ∧ VRow w' w.heap.size u [] ∧ Below w.heap.size w w' by
    rw [← Int.natCast_add]
    by_cases h0 : l.length + m.length = 0
    · rw [h0]; exact grow_zero w
    · exact grow_nil (l.length + m.length) w (by omega) (by omega))
  go_enter Try.func21, Try.ntmps21
  go_wp2_with fail
  refine wp_loop_rounds 3 ?_
  rw [rounds_succ]; go_wp2_with fail
  rw [rounds_succ]; go_wp2_with fail
  rw [rounds_succ]; go_wp2_with fail
  refine HG.out.mono ?_
  rintro e w1 ⟨u, rfl, hown, hb1⟩
  have hS1 := (hb1.block S hSz).trans HS.out
  obtain ⟨f1, _⟩ := blk_facts hS1
  have e0 : w1.cell? ⟨S, 0, none⟩ = some (.slice A l.length c) := f1 0
  have e1 : w1.cell? ⟨S, 1, none⟩ = some (.slice B m.length d) := f1 1
  have HS1 := Lib.hid hS1
  have HO := Lib.hid hown
  have HB1 := Lib.hid hb1
  have hs1 := hb1.size
  clear f1 hS1 hown hb1 c0 c1 HG
  go_wp2_with fail
  refine wp_loop_rounds 3 ?_
  rw [rounds_succ]
  go_wp2_with (at_builtin; refine wpList_appV rfl _ _ rfl w.heap.size u [] rfl HO.out _ l rfl (HA.out.src HB1.out) (by simp; omega) hs1 ?_; intro v2 w2 hr2 hp2)
  have HB2 := Lib.hid (HB1.out.trans (hp2.below hs1 (fun k hk => HO.out.base_le hk)))
  have hS2 := (HB2.out.block S hSz).trans HS.out
  obtain ⟨f1, _⟩ := blk_facts hS2
  have g0 : w2.cell? ⟨S, 0, none⟩ = some (.slice A l.length c) := f1 0
  have g1 : w2.cell? ⟨S, 1, none⟩ = some (.slice B m.length d) := f1 1
  have HO2 := Lib.hid (show VRow w2 w.heap.size v2 l from hr2)
  have hs2 := HB2.out.size
  clear f1 hS2 hr2 hp2 e0 e1
  go_wp2_with fail
  rw [rounds_succ]
  go_wp2_with (at_builtin; refine wpList_appV rfl _ _ rfl w.heap.size v2 l rfl HO2.out _ m rfl (HB.out.src HB2.out) (by omega) hs2 ?_; intro v3 w3 hr3 hp3)
  have HB3 := Lib.hid (HB2.out.trans (hp3.below hs2 (fun k hk => HO2.out.base_le hk)))
  have HO3 := Lib.hid hr3
  clear hr3 hp3 g0 g1
  go_wp2_with fail
  rw [rounds_succ]
  go_wp2
  go_ret
  exact ⟨_, rfl, HO3.out, HB3.out⟩
end Go.Proofs.Ytekcfjfkbiciaaa
