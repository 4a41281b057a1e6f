/- Of any two moments the call of MomentTells returns true: its parts, whether it may be, its print, and whether it is ahead of the other, are the document's. The listed tables are tied to the program's text. No other condition. -/
import Derived.Test.YtbcanoknddpmeaaDoorCards
import Derived.Test.YtbcanoknddpmeaaDoorTie
import Derived.Test.YtbcanoknddpmeaaDoorWalksM
import Derived.ProofKit
import Derived.OpenShut
import Derived.Lay
import Derived.Deep.DeepHandedRow
import Derived.Lib.LaidTab
import Derived.Lib.SmallJoins
namespace Go.Proofs.YtbcanoknddpmeaaDoor.tells
open Go.Joins Go.ChangeShapes Go.WideShapes Go.ChangeAt Go.RowKit

theorem own : ownKnob Tryd.prog.godebug = none := by kernel_rfl
theorem g0Type : (Tryd.prog.globals[0]?).map (·.type) = some 67 := by kernel_rfl
theorem cells67 : Tryd.prog.cellsOf 67 = 20 := by kernel_rfl
theorem cells60 : Tryd.prog.cellsOf 60 = 1 := by kernel_rfl
theorem table {W : World} (h : laidMetH Tryd.prog Rows.momentTellsRow.laid W) : TabP W := by
  have h1 : laidMet Tryd.prog Rows.momentTellsRow.laid W := h
  have h2 := laidMet.filter (fun x => x.1 == "internal/strconv.uint64pow10") h1
  have e : Rows.momentTellsRow.laid.filter (fun x => x.1 == "internal/strconv.uint64pow10") = [("internal/strconv.uint64pow10", Lib.tabData .u64 Lib.pow10Tab)] := rfl
  rw [e] at h2
  exact Lib.tabIs_of_head (rest := []) gPow g0Type Tryd.underlying67 Tryd.underlying60 cells60 cells67 h2

theorem cellsM : Tryd.prog.cellsOf 25 = 2 := by kernel_rfl
theorem u16_wf {n : Int} (h : (Lit.int .u16 n).wf = true) : 0 ≤ n ∧ n ≤ 65535 := by
  have h1 : IntKind.u16.min ≤ n ∧ n ≤ IntKind.u16.max := by simpa [Lit.wf] using h
  have h2 : IntKind.u16.min = 0 := rfl
  have h3 : IntKind.u16.max = 65535 := rfl
  omega
theorem momentReads {H : Type} {enc : TypeId × Value → H} {W : World} {base : Nat} {sp : Nat → Bool} {held : Bool} {d c : Int} (wd : (Lit.int .u16 d).wf = true) (wc : (Lit.int .u16 c).wf = true) :
    DataW.Trod enc Tryd.prog W base sp held 25 (.agg #[.int .u16 d, .int .u16 c]) (.agg [.lit (.int .u16 d), .lit (.int .u16 c)]) [] :=
  shut_agg2 (y0 := (.lit (.int .u16 d), [])) (y1 := (.lit (.int .u16 c), [])) Tryd.underlying25 (by kernel_rfl) cellsM ⟨1, by simp [DataW.trod, Tryd.underlying23, wd]⟩ ⟨1, by simp [DataW.trod, Tryd.underlying23, wc]⟩

theorem contract (H : Type) (enc : TypeId × Value → H) (W : World) (base : Nat) (args : Array Value) (ds gs : List (DataW H)) (before : List MemPlace)
    (hval : ∀ (j : Nat) t v, Tryd.f5.params[j]? = some t → args[j]? = some v → Value.okWide Tryd.prog W .any base t v)
    (hW : DataW.Whole enc Tryd.prog Tryd.f5.params.toList Rows.momentTellsSpec.vars false W args.toList ds gs before) (hL : laidMetH Tryd.prog Rows.momentTellsRow.laid W) :
    Calls Tryd.prog 5 args W fun e W' => ∃ v, e = .returned v ∧ Rows.momentTellsSpec.post enc Tryd.prog Tryd.f5 false true false false W args v W' := by
  have hW' := hW
  obtain ⟨p, q, hA0, hV, rfl, hfz, hnd⟩ := hW
  have hA : DataW.TrodAll enc Tryd.prog W 0 (fun _ => true) true Tryd.f5.params.toList args.toList ds p := hA0
  rw [Tryd.params5] at hA hval
  obtain ⟨v0, vs0, d0, ds0, p0, q0, hargs, rfl, rfl, h0, r0⟩ := trodAll_cons hA
  obtain ⟨v1, vs1, d1, ds1, p1, q1, rfl, rfl, rfl, h1, r1⟩ := trodAll_cons r0
  obtain ⟨rfl, rfl, rfl⟩ := trodAll_nil r1
  obtain rfl : args = #[v0, v1] := by cases args; simp_all
  obtain ⟨rfl, rfl⟩ := trodVars_none hV
  obtain ⟨a0, b0, y0, z0, m0, rfl, rfl, rfl, ha0, hb0⟩ := open_agg2 Tryd.underlying25 (by kernel_rfl) cellsM (hval 0 25 v0 rfl rfl) h0
  obtain ⟨a1, b1, y1, z1, m1, rfl, rfl, rfl, ha1, hb1⟩ := open_agg2 Tryd.underlying25 (by kernel_rfl) cellsM (hval 1 25 v1 rfl rfl) h1
  obtain ⟨d, e0, rfl, wd⟩ := DataW.trod_int Tryd.underlying23 ha0
  obtain ⟨c, e1, rfl, wc⟩ := DataW.trod_int Tryd.underlying23 hb0
  obtain ⟨a, e2, rfl, wa⟩ := DataW.trod_int Tryd.underlying23 ha1
  obtain ⟨b, e3, rfl, wb⟩ := DataW.trod_int Tryd.underlying23 hb1
  simp at e0 e1 e2 e3
  subst e0 e1 e2 e3
  clear hA0
  simp only [List.append_nil] at hW'
  refine (lawTells d c a b W (u16_wf wd) (u16_wf wc) (table hL)).mono fun e W' ⟨he, hb⟩ => ?_
  subst he
  refine ⟨_, rfl, _, _, _, [], [], [], hW', trodAll_cons_mk (shut_bool Tryd.underlying4 _) trodAll_mk0, ?_, rfl, hb.frame _, fun h => by cases h⟩
  exact trodAll_cons_mk (momentReads wd wc) (trodAll_cons_mk (momentReads wa wb) trodAll_mk0)

noncomputable def laidWorld (os : Os) : World := World.laidAll Tryd.prog os Rows.momentTellsRow.laid
abbrev zero : Array Value := #[.agg #[.int .u16 0, .int .u16 0], .agg #[.int .u16 0, .int .u16 0]]
theorem laid_met (os : Os) : laidMet Tryd.prog Rows.momentTellsRow.laid ((laidWorld os).forCall (fun _ _ => 0) ⟨#[], zero, []⟩).memory :=
  laidMet_laidAll zero (by kernel_rfl) (by kernel_rfl)
theorem reads (os : Os) {H : Type} (enc : TypeId × Value → H) : ∃ places, DataW.whole enc Tryd.prog ((laidWorld os).forCall (fun _ _ => 0) ⟨#[], zero, []⟩).memory Tryd.f5.params.toList Rows.momentTellsSpec.vars false zero.toList 8 = some ([.agg [.lit (.int .u16 0), .lit (.int .u16 0)], .agg [.lit (.int .u16 0), .lit (.int .u16 0)]], [], places) :=
  ⟨[], by kernel_rfl⟩

set_option maxRecDepth 100000 in
theorem lifted (os : Os) (started : os.Started) (H : Type) (enc : TypeId × Value → H) (F : Stop.Interp) :
    ReturnsInHanded {} Tryd.checked os 5 .any ((OpenSpec.ofChange Rows.momentTellsSpec).preRow enc Tryd.prog Tryd.f5 Rows.momentTellsRow.domain false Rows.momentTellsRow.laid) (((OpenSpec.ofChange Rows.momentTellsSpec).at F).post enc Tryd.prog Tryd.f5 false true false false) := by
  obtain ⟨places, hx⟩ := reads os enc
  refine returnsInHanded_of_row (C := Tryd.checked) (s := OpenSpec.ofChange Rows.momentTellsSpec) own started (by kernel_rfl) Tryd.func5
    (witness_row_at (enc := enc) (C := Tryd.checked) false (laidWorld os) zero rfl (by kernel_rfl) (by kernel_rfl) (by kernel_rfl)
      (OpenSpec.preRow_of_cond 8 hx (by kernel_rfl) (fun k hk => by cases hk) (by kernel_rfl) (laid_met os))) ?_
  intro W base args ds gs before hval hW _ _ _ hL _ _
  exact contract H enc W base args ds gs before hval hW hL

theorem said : Rows.MomentTellsSaid :=
  OpenClaim.holds_of_cond 5 Tryd.f5 rfl rfl rfl rfl rfl rfl rfl ⟨rfl, rfl, rfl, rfl, rfl⟩ rfl rfl rfl rfl rfl (by kernel_rfl) Tryd.func5 (by kernel_rfl)
    (of_decide_eq_true (by kernel_rfl)) (by unfold Func.isWrapper; first | (rw [if_pos (by decide +kernel)]; kernel_rfl) | (rw [if_neg (by decide +kernel)]; exact ⟨rfl, rfl⟩))
    (fun os started H enc _ F => by rw [OpenClaim.pre_eq_preRow]; exact lifted os started H enc F)

theorem plain (f : FuncId) (fn : Func) (hf : Tryd.pinned.checked.prog.funcNamed "packsaddle/packsaddlelaw11.MomentTells" = some f) (hfn : Tryd.pinned.checked.prog.funcs[f]? = some fn) :
    false = Tryd.pinned.checked.prog.looks [] ∧ ∀ (j : Nat) t, fn.params[j]? = some t → Tryd.pinned.checked.prog.wantsStandIn t = false := by
  obtain rfl : f = 5 := Option.some.inj ((show Tryd.prog.funcNamed "packsaddle/packsaddlelaw11.MomentTells" = some 5 by kernel_rfl).symm.trans hf) |>.symm
  obtain rfl : fn = Tryd.f5 := (Option.some.inj (Tryd.func5.symm.trans hfn)).symm
  refine ⟨by kernel_rfl, fun j t ht => ?_⟩
  rw [Tryd.params5] at ht
  have hmem := Array.mem_of_getElem? ht
  simp only [List.mem_toArray, List.mem_cons, List.not_mem_nil, or_false, or_self] at hmem
  subst hmem
  exact (show Tryd.prog.wantsStandIn 25 = false by kernel_rfl)

theorem card : Rows.MomentTellsCardSaid :=
  Claim7.holds_tied_plain_at .later [] _ _ _ _ said (fun _ h => by cases h) (by kernel_rfl) (fun _ h => by cases h) momentTells_row_tie rfl ⟨rfl, rfl⟩ (by kernel_rfl) rfl plain (by kernel_rfl)
end Go.Proofs.YtbcanoknddpmeaaDoor.tells
