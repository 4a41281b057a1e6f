/- Of any two rows of values the call of PoolsortAny returns true: the order and number of what is wanted changes neither whether there is a pool nor its constants, and their bytes are the document's; each argument reads as it did. No condition. -/
import Derived.Test.YtimheacdaafodaaRows
import Derived.Test.YtimheacdaafodaaAnyLaw
import Derived.Test.YtimheacdaafodaaView
import Derived.ProofKit
import Derived.OpenShut
import Derived.SizedLaws
import Derived.Lay
import Derived.Deep.DeepHandedRow
import Derived.Lib.LaidTab
import Derived.ChangeMaps5
namespace Go.Proofs.Ytimheacdaafodaa.any
open Go.ChangeMaps Go.ChangeShapes Go.WideShapes Go.ChangeAt Go.RowKit

theorem own : ownKnob Try.prog.godebug = none := by kernel_rfl

set_option maxRecDepth 100000 in
theorem contract (H : Type) (enc : TypeId × Value → H) (W : World) (base : Nat) (args : Array Value) (ds gs : List (DataW H)) (before : List MemPlace)
    (hval : ∀ (j : Nat) t v, Try.f5.params[j]? = some t → args[j]? = some v → Value.okWide Try.prog W .any base t v)
    (hW : DataW.Whole enc Try.prog Try.f5.params.toList Rows.poolsortAnySpec.vars false W args.toList ds gs before)
    (hz : (DataW.weightsEach Try.prog (Try.f5.params.toList ++ Rows.poolsortAnySpec.plain.varTypes Try.prog) (ds ++ gs)).all (· ≤ reachBytes) = true) :
    Calls Try.prog 5 args W fun e W' => ∃ v, e = .returned v ∧ Rows.poolsortAnySpec.post enc Try.prog Try.f5 false true false false W args v W' := by
  have hW' := hW
  obtain ⟨p, q, hA0, hV, rfl, hfz, hnd⟩ := hW
  have hA : DataW.TrodAll enc Try.prog W 0 (fun _ => true) true Try.f5.params.toList args.toList ds p := hA0
  rw [Try.params5] at hA hval
  obtain ⟨v0, vs0, d0, ds0, p0, q0, hargs0, rfl, rfl, h0, r0⟩ := trodAll_cons hA
  obtain ⟨v1, vs1, d1, ds1, p1, q1, rfl, rfl, rfl, h1, r1⟩ := trodAll_cons r0
  obtain ⟨rfl, rfl, rfl⟩ := trodAll_nil r1
  obtain rfl : args = #[v0, v1] := by cases args; simp_all
  obtain ⟨rfl, rfl⟩ := trodVars_none hV
  have hw0 : ∀ n ∈ d0.weights Try.prog 22, n ≤ reachBytes := fun n hn => by
    have := List.all_eq_true.1 hz n (DataW.weights_mem_each (j := 0) (t := 22) (d := d0) (by rw [Try.params5]; rfl) rfl n hn)
    simpa using this
  have hw1 : ∀ n ∈ d1.weights Try.prog 22, n ≤ reachBytes := fun n hn => by
    have := List.all_eq_true.1 hz n (DataW.weights_mem_each (j := 1) (t := 22) (d := d1) (by rw [Try.params5]; rfl) rfl n hn)
    simpa using this
  obtain ⟨a0, len0, cap0, rfl⟩ := okWide_slice Try.underlying22 (hval 0 22 v0 rfl rfl)
  obtain ⟨a1, len1, cap1, rfl⟩ := okWide_slice Try.underlying22 (hval 1 22 v1 rfl rfl)
  obtain ⟨fuel0, hf0⟩ := h0
  obtain ⟨fuel1, hf1⟩ := h1
  obtain ⟨A, c, low, e0, hx0, hl0, hn0, ht0⟩ := view_vals hf0 hw0
  obtain ⟨B, d, all, e1, hx1, hl1, hn1, ht1⟩ := view_vals hf1 hw1
  have e3 : a0 = A ∧ len0 = low.length ∧ cap0 = c := by simpa [Value.cells] using e0
  obtain ⟨rfl, rfl, rfl⟩ := e3
  have e3 : a1 = B ∧ len1 = all.length ∧ cap1 = d := by simpa [Value.cells] using e1
  obtain ⟨rfl, rfl, rfl⟩ := e3
  clear hA0
  simp only [List.append_nil] at hW'
  have hlt : ∀ x ∈ p0 ++ p1, x.block < W.heap.size := fun x hx => by simpa using hW'.lt x hx
  refine (show Calls Try.prog 5 #[.slice a0 low.length cap0, .slice a1 all.length cap1] W _ from ?_)
  have hcall := anylaw_any a0 a1 cap0 cap1 low all W hx0 hx1 hn0 hl0 hl1 (fun x hx => (List.mem_append.1 hx).elim (ht0 x) (ht1 x))
  refine hcall.mono fun e W' ⟨he, hb⟩ => ?_
  subst he
  refine ⟨_, rfl, _, _, _, [], p0 ++ (p1 ++ []), [], hW', trodAll_cons_mk (shut_bool Try.underlying4 _) trodAll_mk0, ?_, rfl, hb.frame _, fun h => by cases h⟩
  exact trodAll_cons_mk (Below.trod laidOutP (by kernel_rfl) (of_decide_eq_true (by kernel_rfl)) ⟨fuel0, hf0⟩ hb (fun x hx => hlt x (by simp [hx])))
    (trodAll_cons_mk (Below.trod laidOutP (by kernel_rfl) (of_decide_eq_true (by kernel_rfl)) ⟨fuel1, hf1⟩ hb (fun x hx => hlt x (by simp [hx])))
      trodAll_mk0)

noncomputable def laidWorld (os : Os) : World := World.laidAll Try.prog os Rows.poolsortAnyRow.laid
abbrev zero : Array Value := #[.slice none 0 0, .slice none 0 0]
theorem laid_met (os : Os) : laidMet Try.prog Rows.poolsortAnyRow.laid ((laidWorld os).forCall (fun _ _ => 0) ⟨#[], zero, []⟩).memory :=
  laidMet_laidAll zero (by kernel_rfl) (by kernel_rfl)
theorem reads (os : Os) {H : Type} (enc : TypeId × Value → H) : ∃ places, DataW.whole enc Try.prog ((laidWorld os).forCall (fun _ _ => 0) ⟨#[], zero, []⟩).memory Try.f5.params.toList Rows.poolsortAnySpec.vars false zero.toList 8 = some ([.nil, .nil], [], places) :=
  ⟨[], by kernel_rfl⟩

set_option maxRecDepth 100000 in
theorem lifted (os : Os) (started : os.Started) (H : Type) (enc : TypeId × Value → H) (F : Stop.Interp) :
    ReturnsInHanded {} Try.checked os 5 .any ((OpenSpec.ofChange Rows.poolsortAnySpec).preRow enc Try.prog Try.f5 Rows.poolsortAnyRow.domain false Rows.poolsortAnyRow.laid) (((OpenSpec.ofChange Rows.poolsortAnySpec).at F).post enc Try.prog Try.f5 false true false false) := by
  obtain ⟨places, hx⟩ := reads os enc
  refine returnsInHanded_of_row (C := Try.checked) (s := OpenSpec.ofChange Rows.poolsortAnySpec) own started (by kernel_rfl) Try.func5
    (witness_row_at (enc := enc) (C := Try.checked) false (laidWorld os) zero rfl (by kernel_rfl) (by kernel_rfl) (by kernel_rfl)
      (OpenSpec.preRow_of_cond 8 hx (by kernel_rfl) (fun k hk => by cases hk) (by kernel_rfl) (laid_met os))) ?_
  intro W base args ds gs before hval hW _ _ hz _ _ _
  exact contract H enc W base args ds gs before hval hW hz

theorem said : Rows.PoolsortAnySaid :=
  OpenClaim.holds_of_cond 5 Try.f5 rfl rfl rfl rfl rfl rfl rfl ⟨rfl, rfl, rfl, rfl, rfl⟩ rfl rfl rfl rfl rfl (by kernel_rfl) Try.func5 (by kernel_rfl)
    (of_decide_eq_true (by kernel_rfl)) (by unfold Func.isWrapper; first | (rw [if_pos (by decide +kernel)]; kernel_rfl) | (rw [if_neg (by decide +kernel)]; exact ⟨rfl, rfl⟩))
    (fun os started H enc _ F => by rw [OpenClaim.pre_eq_preRow]; exact lifted os started H enc F)
end Go.Proofs.Ytimheacdaafodaa.any
