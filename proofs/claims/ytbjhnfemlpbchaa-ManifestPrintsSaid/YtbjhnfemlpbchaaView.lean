/- What came in: rows of headers, and rows of these. -/
import Derived.Test.YtbjhnfemlpbchaaNest
import Derived.ProofKit
import Derived.OpenShut
import Derived.Deep.SlicePairs
import Derived.SizedLaws
import Derived.ChangeArms
namespace Go.Proofs.Ytbjhnfemlpbchaa
open Go.ChangeShapes Go.WideShapes Go.ChangeAt Go.RowKit Go.Deep Go.Deep

theorem laidOutP : laidOutB Try.prog = true := by kernel_rfl
theorem cellsPair : Try.prog.cellsOf 44 = 2 := by kernel_rfl
theorem cellsPairs : Try.prog.cellsOf 24 = 1 := by kernel_rfl
theorem cellsStr : Try.prog.cellsOf 9 = 1 := by kernel_rfl
theorem bytesPair : Try.prog.bytesOf 44 = 32 := by kernel_rfl
theorem bytesPairs : Try.prog.bytesOf 24 = 24 := by kernel_rfl
def strOf : Value → List UInt8
  | .string s => s.data.toList
  | _ => []
theorem weights_all {H : Type} {P : Program} {e : TypeId} : ∀ {ds : List (DataW H)} {d : DataW H}, d ∈ ds → ∀ n ∈ d.weights P e, n ∈ DataW.weightsAll P e ds
  | d0 :: ds, d, h, n, hn => by
    simp only [DataW.weightsAll, List.mem_append]
    rcases List.mem_cons.1 h with rfl | h
    · exact .inl hn
    · exact .inr (weights_all h n hn)
section
variable {H : Type} {enc : TypeId × Value → H} {W : World} {base : Nat} {sp : Nat → Bool} {held : Bool}
theorem addr_none {a : Addr} {v : Value} (h : W.cell? (a.add 0) = some v) : ∃ g o, a = ⟨g, o, none⟩ ∧ g < W.heap.size := by
  obtain ⟨g, o, s⟩ := a
  have hs : s = none := by simpa [Addr.add] using World.cell?_spot h
  subst hs
  exact ⟨g, o, rfl, by simpa [Addr.add] using World.block_lt_of_cell? W _ h⟩
theorem view_pairs {fuel : Nat} {cs : List Value} {x : DataW H × List MemPlace} (h : DataW.trod enc Try.prog W base sp held fuel 24 cs = some x) (hw : ∀ n ∈ x.1.weights Try.prog 24, n ≤ reachBytes) :
    ∃ A c xs, cs = [.slice A (List.length xs) c] ∧ Prs W A c xs ∧ xs.length * 32 ≤ reachBytes ∧ ∀ p ∈ xs, p.1.length ≤ reachBytes ∧ p.2.length ≤ reachBytes := by
  rcases open_slice_pairs Try.underlying24 Try.underlying44 cellsPair rfl rfl cellsStr cellsStr h with ⟨rfl, rfl⟩ | ⟨a, len, cap, m, n, V0, V1, D0, D1, P0, P1, rfl, _, hl, _, hm, rfl, hx⟩
  · exact ⟨none, 0, [], rfl, Prs.nil _ _ _, by simp, fun p hp => by cases hp⟩
  · have hlm : len ≤ m := by rw [hm]; split <;> omega
    have hstr : ∀ i, i < m → ∃ s0 s1 : ByteArray, V0 i = .string s0 ∧ V1 i = .string s1 ∧ D0 i = .lit (.string s0.data.toList) ∧ D1 i = .lit (.string s1.data.toList) := fun i hi => by
      obtain ⟨_, _, h0, h1⟩ := hx i hi
      obtain ⟨s0, e0, f0, _⟩ := DataW.trod_string Try.underlying9 h0
      obtain ⟨s1, e1, f1, _⟩ := DataW.trod_string Try.underlying9 h1
      simp only [Prod.mk.injEq] at f0 f1
      simp only [List.cons.injEq, and_true] at e0 e1
      exact ⟨s0, s1, e0, e1, f0.1, f1.1⟩
    have hll : ((List.range len).map fun i => (strOf (V0 i), strOf (V1 i))).length = len := by simp
    have hat : ∀ (j : Nat) p, ((List.range len).map fun i => (strOf (V0 i), strOf (V1 i)))[j]? = some p → j < len ∧ p = (strOf (V0 j), strOf (V1 j)) := fun j p hp => by
      have hj := (List.getElem?_eq_some_iff.1 hp).1
      rw [hll] at hj
      refine ⟨hj, ?_⟩
      simp [hj] at hp
      exact hp.symm
    refine ⟨some a, cap, (List.range len).map fun i => (strOf (V0 i), strOf (V1 i)), by rw [hll], ⟨by rw [hll]; exact hl, fun h0 => ?_⟩, ?_, fun p hp => ?_⟩
    · rw [hll] at h0
      obtain ⟨g, o, rfl, hg⟩ := addr_none (by have := (hx 0 (by omega)).1; rwa [Nat.zero_mul] at this)
      refine ⟨g, o, rfl, hg, fun j p hp => ?_⟩
      obtain ⟨hj, rfl⟩ := hat j p hp
      obtain ⟨c0, c1, _, _⟩ := hx j (by omega)
      obtain ⟨s0, s1, e0, e1, _, _⟩ := hstr j (by omega)
      rw [addr_add] at c0 c1
      rw [c0, Nat.add_assoc, c1, e0, e1]
      exact ⟨rfl, rfl⟩
    · rw [hll]
      have := hw ((((List.range len).map fun i => DataW.agg [D0 i, D1 i]).length + ((List.range (m - len)).map fun j => DataW.agg [D0 (len + j), D1 (len + j)]).length) * Try.prog.bytesOf 44) (by simp only [DataW.weights, Try.underlying24]; exact List.mem_cons_self ..)
      rw [bytesPair] at this
      simp only [List.length_map, List.length_range] at this
      omega
    · obtain ⟨j, hj, rfl⟩ := List.mem_iff_getElem.1 hp
      obtain ⟨hj2, e⟩ := hat j _ (List.getElem?_eq_getElem hj)
      rw [e]
      obtain ⟨s0, s1, e0, e1, f0, f1⟩ := hstr j (by omega)
      have hmem : ∀ n, n ∈ (DataW.agg [D0 j, D1 j]).weights Try.prog 44 → n ≤ reachBytes := fun n hn => hw n (by
        simp only [DataW.weights, Try.underlying24, List.mem_cons, List.mem_append]
        exact .inr (.inl (weights_all (List.mem_map.2 ⟨j, List.mem_range.2 hj2, rfl⟩) n hn)))
      rw [f0, f1] at hmem
      rw [e0, e1]
      constructor
      · exact hmem _ (by simp only [DataW.weights, Try.underlying44]; simp [DataW.weightsEach, DataW.weights, strOf])
      · exact hmem _ (by simp only [DataW.weights, Try.underlying44]; simp [DataW.weightsEach, DataW.weights, strOf])
end
end Go.Proofs.Ytbjhnfemlpbchaa
