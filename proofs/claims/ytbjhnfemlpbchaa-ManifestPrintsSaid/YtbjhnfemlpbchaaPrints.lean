/- Of any manifest the call of ManifestPrints returns true: its text is the document's, or why it has none, and it is read as it was; the argument reads as it did. No condition. -/
import Derived.Test.YtbjhnfemlpbchaaRows
import Derived.Test.YtbjhnfemlpbchaaWalksZ
import Derived.Test.YtbjhnfemlpbchaaView
import Derived.Lay
import Derived.Deep.DeepHandedRow
import Derived.Lib.LaidTab
import Derived.Lib.SmallJoins
import Derived.ChangeMaps5
namespace Go.Proofs.Ytbjhnfemlpbchaa.prints
open Go.ChangeMaps Go.ChangeShapes Go.WideShapes Go.ChangeAt Go.RowKit Go.Deep Go.Joins

theorem own : ownKnob Try.prog.godebug = none := by kernel_rfl
theorem cellsMan : Try.prog.cellsOf 27 = 2 := by kernel_rfl
section
variable {H : Type} {enc : TypeId × Value → H} {W : World} {base : Nat} {sp : Nat → Bool} {held : Bool}
theorem view_nest {fuel : Nat} {cs : List Value} {x : DataW H × List MemPlace} (h : DataW.trod enc Try.prog W base sp held fuel 25 cs = some x) (hw : ∀ n ∈ x.1.weights Try.prog 25, n ≤ reachBytes) :
    ∃ A c xs, cs = [.slice A (List.length xs) c] ∧ PNest W A c xs ∧ xs.length * 24 ≤ reachBytes ∧ ∀ s ∈ xs, s.length * 32 ≤ reachBytes ∧ ∀ p ∈ s, p.1.length ≤ reachBytes ∧ p.2.length ≤ reachBytes := by
  rcases open_slice1 Try.underlying25 cellsPairs h with ⟨rfl, rfl⟩ | ⟨a, len, cap, m, n, V, D, Pl, rfl, _, hl, _, hm, rfl, hx⟩
  · exact ⟨none, 0, [], rfl, PNest.nil _ _ _, by simp, fun p hp => by cases hp⟩
  · have hlm : len ≤ m := by rw [hm]; split <;> omega
    obtain ⟨S, hS⟩ := choose_lt (α := List Pr) (n := len) (p := fun i s => (∃ B d, V i = .slice B s.length d ∧ Prs W B d s) ∧ s.length * 32 ≤ reachBytes ∧ ∀ p ∈ s, p.1.length ≤ reachBytes ∧ p.2.length ≤ reachBytes) (fun i hi => by
      obtain ⟨_, h1⟩ := hx i (by omega)
      obtain ⟨B, d, s, e, hp, h2, h3⟩ := view_pairs h1 (fun n hn => hw n (by
        simp only [DataW.weights, Try.underlying25, List.mem_cons, List.mem_append]
        exact .inr (.inl (weights_all (List.mem_map.2 ⟨i, List.mem_range.2 hi, rfl⟩) n hn))))
      simp only [List.cons.injEq, and_true] at e
      exact ⟨s, ⟨B, d, e, hp⟩, h2, h3⟩)
    have hll : ((List.range len).map S).length = len := by simp
    have hat : ∀ (j : Nat) s, ((List.range len).map S)[j]? = some s → j < len ∧ s = S j := fun j s hs => by
      have hj := (List.getElem?_eq_some_iff.1 hs).1
      rw [hll] at hj
      refine ⟨hj, ?_⟩
      simp [hj] at hs
      exact hs.symm
    refine ⟨some a, cap, (List.range len).map S, by rw [hll], ⟨by rw [hll]; exact hl, fun h0 => ?_⟩, ?_, fun s hs => ?_⟩
    · rw [hll] at h0
      obtain ⟨g, o, rfl, hg⟩ := addr_none (hx 0 (by omega)).1
      refine ⟨g, o, rfl, hg, fun j s hs => ?_⟩
      obtain ⟨hj, rfl⟩ := hat j s hs
      obtain ⟨c0, _⟩ := hx j (by omega)
      obtain ⟨⟨B, d, e, hp⟩, _⟩ := hS j hj
      rw [addr_add] at c0
      exact ⟨B, d, by rw [c0, e], hp⟩
    · rw [hll]
      have := hw ((((List.range len).map D).length + ((List.range (m - len)).map fun j => D (len + j)).length) * Try.prog.bytesOf 24) (by simp only [DataW.weights, Try.underlying25]; exact List.mem_cons_self ..)
      rw [bytesPairs] at this
      simp only [List.length_map, List.length_range] at this
      omega
    · obtain ⟨j, hj, rfl⟩ := List.mem_iff_getElem.1 hs
      obtain ⟨hj2, e⟩ := hat j _ (List.getElem?_eq_getElem hj)
      rw [e]
      exact (hS j hj2).2
end

set_option maxRecDepth 100000 in
theorem contract (H : Type) (enc : TypeId × Value → H) (W : World) (base : Nat) (args : Array Value) (ds gs : List (DataW H)) (before : List MemPlace)
    (hval : ∀ (j : Nat) t v, Try.f4.params[j]? = some t → args[j]? = some v → Value.okWide Try.prog W .any base t v)
    (hW : DataW.Whole enc Try.prog Try.f4.params.toList Rows.manifestPrintsSpec.vars false W args.toList ds gs before)
    (hz : (DataW.weightsEach Try.prog (Try.f4.params.toList ++ Rows.manifestPrintsSpec.plain.varTypes Try.prog) (ds ++ gs)).all (· ≤ reachBytes) = true) (hS : W.ShapedOpen Try.prog) :
    Calls Try.prog 4 args W fun e W' => ∃ v, e = .returned v ∧ Rows.manifestPrintsSpec.post enc Try.prog Try.f4 false true false false W args v W' := by
  have hW' := hW
  obtain ⟨p, q, hA0, hV, rfl, hfz, hnd⟩ := hW
  have hA : DataW.TrodAll enc Try.prog W 0 (fun _ => true) true Try.f4.params.toList args.toList ds p := hA0
  rw [Try.params4] at hA hval
  obtain ⟨v0, vs0, d0, ds0, p0, q0, hargs, rfl, rfl, h0, r0⟩ := trodAll_cons hA
  obtain ⟨rfl, rfl, rfl⟩ := trodAll_nil r0
  obtain rfl : args = #[v0] := by cases args; simp_all
  obtain ⟨rfl, rfl⟩ := trodVars_none hV
  obtain ⟨a0, b0, y0, z0, m0, rfl, rfl, rfl, ha0, hb0⟩ := open_agg2 Try.underlying27 (by kernel_rfl) cellsMan (hval 0 27 v0 rfl rfl) h0
  have hw : ∀ n ∈ (DataW.agg [y0.1, z0.1]).weights Try.prog 27, n ≤ reachBytes := fun n hn => by
    have := List.all_eq_true.1 hz n (DataW.weights_mem_each (j := 0) (t := 27) (d := DataW.agg [y0.1, z0.1]) (by rw [Try.params4]; rfl) rfl n hn)
    simpa using this
  have hw0 : ∀ n ∈ y0.1.weights Try.prog 24, n ≤ reachBytes := fun n hn => hw n (by simp only [DataW.weights, Try.underlying27]; simp [DataW.weightsEach, hn])
  have hw1 : ∀ n ∈ z0.1.weights Try.prog 25, n ≤ reachBytes := fun n hn => hw n (by simp only [DataW.weights, Try.underlying27]; simp [DataW.weightsEach, hn])
  obtain ⟨A, c, main, e0, hx0, hl0, hp0⟩ := view_pairs ha0 hw0
  obtain ⟨B, d, parts, e1, hx1, hl1, hp1⟩ := view_nest hb0 hw1
  simp only [List.cons.injEq, and_true] at e0 e1
  subst e0 e1
  clear hA0
  simp only [List.append_nil] at hW'
  have hlt : ∀ x ∈ y0.2 ++ z0.2, x.block < W.heap.size := fun x hx => by have := hW'.lt x (by simpa using hx); exact this
  have hr := reachBytes_lt
  have hr2 : reachBytes + 24 ≤ 140737488355328 := by decide
  refine (prints_any A c main B d parts W hx0 hx1 (maxP_of hS) (by omega) (fun s hs => by
    rcases List.mem_cons.1 hs with rfl | hs
    · exact ⟨by omega, fun p hp => by have := hp0 p hp; omega⟩
    · obtain ⟨k1, k2⟩ := hp1 s hs
      exact ⟨by omega, fun p hp => by have := k2 p hp; omega⟩)).mono fun e W' ⟨he, hb⟩ => ?_
  subst he
  refine ⟨_, rfl, _, _, _, [], (y0.2 ++ z0.2) ++ [], [], hW', trodAll_cons_mk (shut_bool Try.underlying4 _) trodAll_mk0, ?_, rfl, hb.frame _, fun h => by cases h⟩
  exact trodAll_cons_mk (Below.trod laidOutP (by kernel_rfl) (of_decide_eq_true (by kernel_rfl)) h0 hb hlt) trodAll_mk0

noncomputable def laidWorld (os : Os) : World := World.laidAll Try.prog os Rows.manifestPrintsRow.laid
abbrev zero : Array Value := #[.agg #[.slice none 0 0, .slice none 0 0]]
theorem laid_met (os : Os) : laidMet Try.prog Rows.manifestPrintsRow.laid ((laidWorld os).forCall (fun _ _ => 0) ⟨#[], zero, []⟩).memory :=
  laidMet_laidAll zero (by kernel_rfl) (by kernel_rfl)
theorem reads (os : Os) {H : Type} (enc : TypeId × Value → H) : ∃ places, DataW.whole enc Try.prog ((laidWorld os).forCall (fun _ _ => 0) ⟨#[], zero, []⟩).memory Try.f4.params.toList Rows.manifestPrintsSpec.vars false zero.toList 8 = some ([.agg [.nil, .nil]], [], places) :=
  ⟨[], by kernel_rfl⟩

set_option maxRecDepth 100000 in
theorem lifted (os : Os) (started : os.Started) (H : Type) (enc : TypeId × Value → H) (F : Stop.Interp) :
    ReturnsInHanded {} Try.checked os 4 .any ((OpenSpec.ofChange Rows.manifestPrintsSpec).preRow enc Try.prog Try.f4 Rows.manifestPrintsRow.domain false Rows.manifestPrintsRow.laid) (((OpenSpec.ofChange Rows.manifestPrintsSpec).at F).post enc Try.prog Try.f4 false true false false) := by
  obtain ⟨places, hx⟩ := reads os enc
  refine returnsInHanded_of_row (C := Try.checked) (s := OpenSpec.ofChange Rows.manifestPrintsSpec) own started (by kernel_rfl) Try.func4
    (witness_row_at (enc := enc) (C := Try.checked) false (laidWorld os) zero rfl (by kernel_rfl) (by kernel_rfl) (by kernel_rfl)
      (OpenSpec.preRow_of_cond 8 hx (by kernel_rfl) (fun k hk => by cases hk) (by kernel_rfl) (laid_met os))) ?_
  intro W base args ds gs before hval hW _ _ hz _ hS _
  exact contract H enc W base args ds gs before hval hW hz hS

theorem said : Rows.ManifestPrintsSaid :=
  OpenClaim.holds_of_cond 4 Try.f4 rfl rfl rfl rfl rfl rfl rfl ⟨rfl, rfl, rfl, rfl, rfl⟩ rfl rfl rfl rfl rfl (by kernel_rfl) Try.func4 (by kernel_rfl)
    (of_decide_eq_true (by kernel_rfl)) (by unfold Func.isWrapper; first | (rw [if_pos (by decide +kernel)]; kernel_rfl) | (rw [if_neg (by decide +kernel)]; exact ⟨rfl, rfl⟩))
    (fun os started H enc _ F => by rw [OpenClaim.pre_eq_preRow]; exact lifted os started H enc F)
end Go.Proofs.Ytbjhnfemlpbchaa.prints
