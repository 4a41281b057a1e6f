/- Joined texts: View. -/
import Derived.Test.YtbdkoagagcemcaaPk1
import Derived.Test.YtbdkoagagcemcaaPk3
import Derived.ProofKit
import Derived.OpenShut
/- What came in: a row of ints, a row of bytes. -/
namespace Go.Proofs.Ytbdkoagagcemcaa
open Go.ChangeShapes Go.WideShapes Go.ChangeAt Go.RowKit

theorem cellsInt : Try.prog.cellsOf 3 = 1 := by kernel_rfl
theorem laidOutP : laidOutB Try.prog = true := by kernel_rfl
set_option maxRecDepth 100000 in
theorem view {H : Type} {enc : TypeId × Value → H} {W : World} {base : Nat} {v : Value} {d : DataW H} {p : List MemPlace} (hv : Value.okWide Try.prog W .any base 22 v) (h : DataW.Trod enc Try.prog W 0 (fun _ => true) true 22 v d p) :
    ∃ A c Z, v = .slice A (List.length Z) c ∧ Ints W A c Z ∧ ∀ x ∈ Z, I64 x := by
  obtain ⟨a0, len, cap, rfl⟩ := okWide_slice Try.underlying22 hv
  obtain ⟨fuel, hf⟩ := h
  rcases open_ints Try.underlying22 Try.underlying3 cellsInt hf with ⟨hcs, hx⟩ | ⟨a, len', cap', zs, hcs, _, hl, hm, hz, hx, hcell, hwz⟩
  · simp [Value.cells] at hcs
    obtain ⟨rfl, rfl, rfl⟩ := hcs
    exact ⟨none, 0, [], rfl, Ints.nil _ _ _, fun x hx => by simp at hx⟩
  · simp [Value.cells] at hcs
    obtain ⟨rfl, rfl, rfl⟩ := hcs
    simp only [if_true] at hz
    have hlen : (zs.take len).length = len := by rw [List.length_take]; omega
    refine ⟨some a, cap, zs.take len, by rw [hlen], ⟨by rw [hlen]; exact hl, fun hp => ?_⟩, fun x hx => bounds_i64 (hwz x (List.mem_of_mem_take hx))⟩
    rw [hlen] at hp
    obtain ⟨g, o, s⟩ := a
    have h0 := hcell 0 (by omega)
    have hs : s = none := by simpa [Addr.add] using World.cell?_spot h0
    subst hs
    refine ⟨g, o, rfl, by simpa [Addr.add] using World.block_lt_of_cell? W _ h0, fun j x hx => ?_⟩
    obtain ⟨h1, h2⟩ := List.getElem?_eq_some_iff.1 hx
    have hj : j < zs.length := by rw [hlen] at h1; omega
    have h3 := hcell j hj
    have e : Addr.add ⟨g, o, none⟩ j = ⟨g, o + j, none⟩ := by unfold Addr.add; split <;> simp_all
    rw [e] at h3
    rw [h3]
    have e2 : zs.getD j 0 = x := by rw [← h2]; simp [List.getD, hj]
    rw [e2]
theorem cellsByte : Try.prog.cellsOf 5 = 1 := by kernel_rfl
set_option maxRecDepth 100000 in
theorem viewB {H : Type} {enc : TypeId × Value → H} {W : World} {base : Nat} {v : Value} {d : DataW H} {p : List MemPlace} (hv : Value.okWide Try.prog W .any base 23 v) (h : DataW.Trod enc Try.prog W 0 (fun _ => true) true 23 v d p) :
    ∃ A c l, v = .slice A (List.length l) c ∧ BAt W A c l ∧ (A = none → c = 0) := by
  obtain ⟨a0, len, cap, rfl⟩ := okWide_slice Try.underlying23 hv
  obtain ⟨fuel, hf⟩ := h
  rcases open_ints Try.underlying23 Try.underlying5 cellsByte hf with ⟨hcs, hx⟩ | ⟨a, len', cap', zs, hcs, _, hl, hm, hz, hx, hcell, hwz⟩
  · simp [Value.cells] at hcs
    obtain ⟨rfl, rfl, rfl⟩ := hcs
    exact ⟨none, 0, [], rfl, ⟨Nat.le_refl _, fun h => by simp at h⟩, fun _ => rfl⟩
  · simp [Value.cells] at hcs
    obtain ⟨rfl, rfl, rfl⟩ := hcs
    simp only [if_true] at hz
    have hlen : ((zs.take len).map fun n => UInt8.ofNat n.toNat).length = len := by simp; omega
    refine ⟨some a, cap, (zs.take len).map fun n => UInt8.ofNat n.toNat, by rw [hlen], ⟨by rw [hlen]; exact hl, fun hp => ?_⟩, fun e => by cases e⟩
    rw [hlen] at hp
    obtain ⟨g, o, s⟩ := a
    have h0 := hcell 0 (by omega)
    have hs : s = none := by simpa [Addr.add] using World.cell?_spot h0
    subst hs
    refine ⟨g, o, rfl, by simpa [Addr.add] using World.block_lt_of_cell? W _ h0, fun j x hx => ?_⟩
    obtain ⟨h1, h2⟩ := List.getElem?_eq_some_iff.1 hx
    have hj : j < zs.length := by rw [hlen] at h1; omega
    have h3 := hcell j hj
    rw [Addr.add_lit] at h3
    rw [h3]
    have hb := range_u8 hwz j
    simp only [List.getElem_map, List.getElem_take] at h2
    have e : zs.getD j 0 = zs[j]'hj := by simp [List.getD, List.getElem?_eq_getElem hj]
    have e' : zs[j]?.getD 0 = zs[j]'hj := by simp [List.getElem?_eq_getElem hj]
    rw [e'] at hb
    rw [e]
    rw [← h2]
    congr 2
    simp only [UInt8.toNat_ofNat']
    omega
end Go.Proofs.Ytbdkoagagcemcaa
