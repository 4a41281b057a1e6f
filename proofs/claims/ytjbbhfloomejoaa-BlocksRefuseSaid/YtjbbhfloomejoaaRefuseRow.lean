/- Of any tokens, any one that is none, and any number the call of BlocksRefuse returns true; each argument reads as it did. No condition. Printed by mk_refrow.py. -/
import Derived.Test.YtjbbhfloomejoaaRows
import Derived.Test.YtjbbhfloomejoaaRefu
import Derived.Test.YtjbbhfloomejoaaTokV
import Derived.ProofKit
import Derived.OpenShut
import Derived.SizedLaws
import Derived.Lay
import Derived.Deep.DeepHandedRow
import Derived.Lib.LaidTab
import Derived.ChangeMaps5
namespace Go.Proofs.Ytjbbhfloomejoaa.refuse
open Go.ChangeMaps Go.ChangeShapes Go.WideShapes Go.ChangeAt Go.RowKit

theorem own : ownKnob Try.prog.godebug = none := by kernel_rfl

set_option maxRecDepth 100000 in
theorem contract (H : Type) (enc : TypeId × Value → H) (W : World) (base : Nat) (args : Array Value) (ds gs : List (DataW H)) (before : List MemPlace)
    (hval : ∀ (j : Nat) t v, Try.f5.params[j]? = some t → args[j]? = some v → Value.okWide Try.prog W .any base t v)
    (hW : DataW.Whole enc Try.prog Try.f5.params.toList Rows.blocksRefuseSpec.vars false W args.toList ds gs before)
    (hz : (DataW.weightsEach Try.prog (Try.f5.params.toList ++ Rows.blocksRefuseSpec.plain.varTypes Try.prog) (ds ++ gs)).all (· ≤ reachBytes) = true) :
    Calls Try.prog 5 args W fun e W' => ∃ v, e = .returned v ∧ Rows.blocksRefuseSpec.post enc Try.prog Try.f5 false true false false W args v W' := by
  have hW' := hW
  obtain ⟨p, q, hA0, hV, rfl, hfz, hnd⟩ := hW
  have hA : DataW.TrodAll enc Try.prog W 0 (fun _ => true) true Try.f5.params.toList args.toList ds p := hA0
  rw [Try.params5] at hA hval
  obtain ⟨v0, vs0, d0, ds0, p0, q0, hargs0, rfl, rfl, h0, r0⟩ := trodAll_cons hA
  obtain ⟨v1, vs1, d1, ds1, p1, q1, rfl, rfl, rfl, h1, r1⟩ := trodAll_cons r0
  obtain ⟨v2, vs2, d2, ds2, p2, q2, rfl, rfl, rfl, h2, r2⟩ := trodAll_cons r1
  obtain ⟨rfl, rfl, rfl⟩ := trodAll_nil r2
  obtain rfl : args = #[v0, v1, v2] := by cases args; simp_all
  obtain ⟨rfl, rfl⟩ := trodVars_none hV
  have hw0 : ∀ n ∈ d0.weights Try.prog 22, n ≤ reachBytes := fun n hn => by
    have := List.all_eq_true.1 hz n (DataW.weights_mem_each (j := 0) (t := 22) (d := d0) (by rw [Try.params5]; rfl) rfl n hn)
    simpa using this
  obtain ⟨a0, len0, cap0, rfl⟩ := okWide_slice Try.underlying22 (hval 0 22 v0 rfl rfl)
  obtain ⟨cs1, rfl, hsz1⟩ := okWide_struct Try.underlying43 (hval 1 43 v1 rfl rfl)
  obtain ⟨m, rfl, rfl, rfl, wm⟩ := open_int Try.underlying5 (hval 2 5 v2 rfl rfl) h2
  obtain ⟨fuel0, hf0⟩ := h0
  obtain ⟨fuel1, hf1⟩ := h1
  obtain ⟨A, c, l, e0, hx0, hl0, hn0, ht0⟩ := view_toks hf0 hw0
  obtain ⟨t, ht, e1⟩ := view_tok hf1
  have e3 : a0 = A ∧ len0 = l.length ∧ cap0 = c := by simpa [Value.cells] using e0
  obtain ⟨rfl, rfl, rfl⟩ := e3
  have e3 : (.agg cs1 : Value) = tv t := by
    unfold tv
    have : cs1.toList = [.int .u8 (t.lit.toNat : Int), .int .i64 t.len, .int .i64 t.dist] := by simpa [Value.cells] using e1
    cases cs1
    simp at this
    subst this
    rfl
  have rm : 0 ≤ m ∧ m ≤ 255 := bounds_u8 wm
  have em : (((UInt8.ofNat m.toNat).toNat : Nat) : Int) = m := by rw [u8_toNat]; omega
  clear hA0
  simp only [List.append_nil] at hW'
  have hlt : ∀ x ∈ p0 ++ p1, x.block < W.heap.size := fun x hx => by simpa using hW'.lt x (by simpa using hx)
  refine (show Calls Try.prog 5 #[.slice a0 l.length cap0, .agg cs1, .int .u8 m] W _ from ?_)
  have hcall := refuse_any a0 cap0 l t (UInt8.ofNat m.toNat) W hx0 ht0 hl0 ht
  rw [← e3, em] at hcall
  refine hcall.mono fun e W' ⟨he, hb⟩ => ?_
  subst he
  refine ⟨_, rfl, _, _, _, [], p0 ++ (p1 ++ ([] ++ [])), [], hW', trodAll_cons_mk (shut_bool Try.underlying4 _) trodAll_mk0, ?_, rfl, hb.frame _, fun h => by cases h⟩
  exact trodAll_cons_mk (Below.trod laidOutP (by kernel_rfl) (of_decide_eq_true (by kernel_rfl)) ⟨fuel0, hf0⟩ hb (fun x hx => hlt x (by simp [hx])))
    (trodAll_cons_mk (Below.trod laidOutP (by kernel_rfl) (of_decide_eq_true (by kernel_rfl)) ⟨fuel1, hf1⟩ hb (fun x hx => hlt x (by simp [hx])))
      (trodAll_cons_mk (shut_int Try.underlying5 wm) trodAll_mk0))

noncomputable def laidWorld (os : Os) : World := World.laidAll Try.prog os Rows.blocksRefuseRow.laid
abbrev zero : Array Value := #[.slice none 0 0, .agg #[.int .u8 0, .int .i64 0, .int .i64 0], .int .u8 0]
theorem laid_met (os : Os) : laidMet Try.prog Rows.blocksRefuseRow.laid ((laidWorld os).forCall (fun _ _ => 0) ⟨#[], zero, []⟩).memory :=
  laidMet_laidAll zero (by kernel_rfl) (by kernel_rfl)
theorem reads (os : Os) {H : Type} (enc : TypeId × Value → H) : ∃ places, DataW.whole enc Try.prog ((laidWorld os).forCall (fun _ _ => 0) ⟨#[], zero, []⟩).memory Try.f5.params.toList Rows.blocksRefuseSpec.vars false zero.toList 8 = some ([.nil, .agg [.lit (.int .u8 0), .lit (.int .i64 0), .lit (.int .i64 0)], .lit (.int .u8 0)], [], places) :=
  ⟨[], by kernel_rfl⟩

set_option maxRecDepth 100000 in
theorem lifted (os : Os) (started : os.Started) (H : Type) (enc : TypeId × Value → H) (F : Stop.Interp) :
    ReturnsInHanded {} Try.checked os 5 .any ((OpenSpec.ofChange Rows.blocksRefuseSpec).preRow enc Try.prog Try.f5 Rows.blocksRefuseRow.domain false Rows.blocksRefuseRow.laid) (((OpenSpec.ofChange Rows.blocksRefuseSpec).at F).post enc Try.prog Try.f5 false true false false) := by
  obtain ⟨places, hx⟩ := reads os enc
  refine returnsInHanded_of_row (C := Try.checked) (s := OpenSpec.ofChange Rows.blocksRefuseSpec) own started (by kernel_rfl) Try.func5
    (witness_row_at (enc := enc) (C := Try.checked) false (laidWorld os) zero rfl (by kernel_rfl) (by kernel_rfl) (by kernel_rfl)
      (OpenSpec.preRow_of_cond 8 hx (by kernel_rfl) (fun k hk => by cases hk) (by kernel_rfl) (laid_met os))) ?_
  intro W base args ds gs before hval hW _ _ hz _ _ _
  exact contract H enc W base args ds gs before hval hW hz

theorem said : Rows.BlocksRefuseSaid :=
  OpenClaim.holds_of_cond 5 Try.f5 rfl rfl rfl rfl rfl rfl rfl ⟨rfl, rfl, rfl, rfl, rfl⟩ rfl rfl rfl rfl rfl (by kernel_rfl) Try.func5 (by kernel_rfl)
    (of_decide_eq_true (by kernel_rfl)) (by unfold Func.isWrapper; first | (rw [if_pos (by decide +kernel)]; kernel_rfl) | (rw [if_neg (by decide +kernel)]; exact ⟨rfl, rfl⟩))
    (fun os started H enc _ F => by rw [OpenClaim.pre_eq_preRow]; exact lifted os started H enc F)
end Go.Proofs.Ytjbbhfloomejoaa.refuse

