/- Of any row of values, any value, tag and number the call of ConstsTables returns true: the table has all that the values need, each once, in order, as the document says; each argument reads as it did. No condition. -/
import Derived.Test.YtekcfjfkbiciaaaRows
import Derived.Test.YtekcfjfkbiciaaaTabI
import Derived.Test.YtekcfjfkbiciaaaView
import Derived.ProofKit
import Derived.OpenShut
import Derived.SizedLaws
import Derived.Lay
import Derived.Deep.DeepHandedRow
import Derived.Lib.LaidTab
import Derived.ChangeMaps5
namespace Go.Proofs.Ytekcfjfkbiciaaa.tables
open Go.ChangeMaps Go.ChangeShapes Go.WideShapes Go.ChangeAt Go.RowKit

theorem own : ownKnob Try.prog.godebug = none := by kernel_rfl

set_option maxRecDepth 100000 in
theorem contract (H : Type) (enc : TypeId × Value → H) (W : World) (base : Nat) (args : Array Value) (ds gs : List (DataW H)) (before : List MemPlace)
    (hval : ∀ (j : Nat) t v, Try.f3.params[j]? = some t → args[j]? = some v → Value.okWide Try.prog W .any base t v)
    (hW : DataW.Whole enc Try.prog Try.f3.params.toList Rows.constsTablesSpec.vars false W args.toList ds gs before)
    (hz : (DataW.weightsEach Try.prog (Try.f3.params.toList ++ Rows.constsTablesSpec.plain.varTypes Try.prog) (ds ++ gs)).all (· ≤ reachBytes) = true) :
    Calls Try.prog 3 args W fun e W' => ∃ v, e = .returned v ∧ Rows.constsTablesSpec.post enc Try.prog Try.f3 false true false false W args v W' := by
  have hW' := hW
  obtain ⟨p, q, hA0, hV, rfl, hfz, hnd⟩ := hW
  have hA : DataW.TrodAll enc Try.prog W 0 (fun _ => true) true Try.f3.params.toList args.toList ds p := hA0
  rw [Try.params3] at hA hval
  obtain ⟨v0, vs0, d0, ds0, p0, q0, hargs0, rfl, rfl, h0, r0⟩ := trodAll_cons hA
  obtain ⟨v1, vs1, d1, ds1, p1, q1, rfl, rfl, rfl, h1, r1⟩ := trodAll_cons r0
  obtain ⟨v2, vs2, d2, ds2, p2, q2, rfl, rfl, rfl, h2, r2⟩ := trodAll_cons r1
  obtain ⟨v3, vs3, d3, ds3, p3, q3, rfl, rfl, rfl, h3, r3⟩ := trodAll_cons r2
  obtain ⟨rfl, rfl, rfl⟩ := trodAll_nil r3
  obtain rfl : args = #[v0, v1, v2, v3] := by cases args; simp_all
  obtain ⟨rfl, rfl⟩ := trodVars_none hV
  have hw0 : ∀ n ∈ d0.weights Try.prog 22, n ≤ reachBytes := fun n hn => by
    have := List.all_eq_true.1 hz n (DataW.weights_mem_each (j := 0) (t := 22) (d := d0) (by rw [Try.params3]; rfl) rfl n hn)
    simpa using this
  have hw1 : ∀ n ∈ d1.weights Try.prog 25, n ≤ reachBytes := fun n hn => by
    have := List.all_eq_true.1 hz n (DataW.weights_mem_each (j := 1) (t := 25) (d := d1) (by rw [Try.params3]; rfl) rfl n hn)
    simpa using this
  obtain ⟨a0, len0, cap0, rfl⟩ := okWide_slice Try.underlying22 (hval 0 22 v0 rfl rfl)
  obtain ⟨cs2, rfl, hsz2⟩ := okWide_struct Try.underlying25 (hval 1 25 v1 rfl rfl)
  obtain ⟨x2, rfl, rfl, rfl, wx2⟩ := open_int Try.underlying3 (hval 2 3 v2 rfl rfl) h2
  obtain ⟨x3, rfl, rfl, rfl, wx3⟩ := open_int Try.underlying3 (hval 3 3 v3 rfl rfl) h3
  obtain ⟨fuel0, hf0⟩ := h0
  obtain ⟨fuel1, hf1⟩ := h1
  obtain ⟨A, c, low, e0, hx0, hl0, hn0, ht0⟩ := view_vals hf0 hw0
  obtain ⟨v, hv, e2⟩ := view_val hf1 hw1
  have e3 : a0 = A ∧ len0 = low.length ∧ cap0 = c := by simpa [Value.cells] using e0
  obtain ⟨rfl, rfl, rfl⟩ := e3
  have e3 : (.agg cs2 : Value) = vv v := by
    unfold vv
    have : cs2.toList = [.int .i64 v.tag, .string (bs v.text), .int .u64 v.bits, .string (bs v.cls), .string (bs v.name), .string (bs v.desc)] := by simpa [Value.cells] using e2
    cases cs2
    simp at this
    subst this
    rfl
  clear hA0
  simp only [List.append_nil] at hW'
  have hlt : ∀ x ∈ p0 ++ p1, x.block < W.heap.size := fun x hx => by
    have := hW'.lt x
    simp only [List.append_nil, List.mem_append] at this hx
    exact this (by rcases hx with h | h <;> simp [h])
  refine (show Calls Try.prog 3 #[.slice a0 low.length cap0, .agg cs2, .int .i64 x2, .int .i64 x3] W _ from ?_)
  have hcall := law_any a0 cap0 low v x2 x3 W hx0 hn0 hl0 ht0 hv
  rw [← e3] at hcall
  refine hcall.mono fun e W' ⟨he, hb⟩ => ?_
  subst he
  refine ⟨_, rfl, _, _, _, [], p0 ++ (p1 ++ []), [], hW', trodAll_cons_mk (shut_bool Try.underlying4 _) trodAll_mk0, ?_, rfl, hb.frame _, fun h => by cases h⟩
  exact trodAll_cons_mk (Below.trod laidOutP (by kernel_rfl) (of_decide_eq_true (by kernel_rfl)) ⟨fuel0, hf0⟩ hb (fun x hx => hlt x (by simp [hx])))
    (trodAll_cons_mk (Below.trod laidOutP (by kernel_rfl) (of_decide_eq_true (by kernel_rfl)) ⟨fuel1, hf1⟩ hb (fun x hx => hlt x (by simp [hx])))
      (trodAll_cons_mk (shut_int Try.underlying3 wx2) (trodAll_cons_mk (shut_int Try.underlying3 wx3) trodAll_mk0)))

noncomputable def laidWorld (os : Os) : World := World.laidAll Try.prog os Rows.constsTablesRow.laid
abbrev zero : Array Value := #[.slice none 0 0, .agg #[.int .i64 0, .string ⟨#[]⟩, .int .u64 0, .string ⟨#[]⟩, .string ⟨#[]⟩, .string ⟨#[]⟩], .int .i64 0, .int .i64 0]
theorem laid_met (os : Os) : laidMet Try.prog Rows.constsTablesRow.laid ((laidWorld os).forCall (fun _ _ => 0) ⟨#[], zero, []⟩).memory :=
  laidMet_laidAll zero (by kernel_rfl) (by kernel_rfl)
theorem reads (os : Os) {H : Type} (enc : TypeId × Value → H) : ∃ places, DataW.whole enc Try.prog ((laidWorld os).forCall (fun _ _ => 0) ⟨#[], zero, []⟩).memory Try.f3.params.toList Rows.constsTablesSpec.vars false zero.toList 8 = some ([.nil, .agg [.lit (.int .i64 0), .lit (.string []), .lit (.int .u64 0), .lit (.string []), .lit (.string []), .lit (.string [])], .lit (.int .i64 0), .lit (.int .i64 0)], [], places) :=
  ⟨[], by kernel_rfl⟩

set_option maxRecDepth 100000 in
theorem lifted (os : Os) (started : os.Started) (H : Type) (enc : TypeId × Value → H) (F : Stop.Interp) :
    ReturnsInHanded {} Try.checked os 3 .any ((OpenSpec.ofChange Rows.constsTablesSpec).preRow enc Try.prog Try.f3 Rows.constsTablesRow.domain false Rows.constsTablesRow.laid) (((OpenSpec.ofChange Rows.constsTablesSpec).at F).post enc Try.prog Try.f3 false true false false) := by
  obtain ⟨places, hx⟩ := reads os enc
  refine returnsInHanded_of_row (C := Try.checked) (s := OpenSpec.ofChange Rows.constsTablesSpec) own started (by kernel_rfl) Try.func3
    (witness_row_at (enc := enc) (C := Try.checked) false (laidWorld os) zero rfl (by kernel_rfl) (by kernel_rfl) (by kernel_rfl)
      (OpenSpec.preRow_of_cond 8 hx (by kernel_rfl) (fun k hk => by cases hk) (by kernel_rfl) (laid_met os))) ?_
  intro W base args ds gs before hval hW _ _ hz _ _ _
  exact contract H enc W base args ds gs before hval hW hz

theorem said : Rows.ConstsTablesSaid :=
  OpenClaim.holds_of_cond 3 Try.f3 rfl rfl rfl rfl rfl rfl rfl ⟨rfl, rfl, rfl, rfl, rfl⟩ rfl rfl rfl rfl rfl (by kernel_rfl) Try.func3 (by kernel_rfl)
    (of_decide_eq_true (by kernel_rfl)) (by unfold Func.isWrapper; first | (rw [if_pos (by decide +kernel)]; kernel_rfl) | (rw [if_neg (by decide +kernel)]; exact ⟨rfl, rfl⟩))
    (fun os started H enc _ F => by rw [OpenClaim.pre_eq_preRow]; exact lifted os started H enc F)
end Go.Proofs.Ytekcfjfkbiciaaa.tables
