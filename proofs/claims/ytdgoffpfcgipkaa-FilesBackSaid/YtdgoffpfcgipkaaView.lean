/- What came in: rows of files. -/
import Derived.Test.YtdgoffpfcgipkaaFile
import Derived.ProofKit
import Derived.OpenShut
import Derived.Deep.SlicePairs
import Derived.SizedLaws
import Derived.ChangeArms
namespace Go.Proofs.Ytdgoffpfcgipkaa
open Go.ChangeShapes Go.WideShapes Go.ChangeAt Go.RowKit Go.Deep

theorem laidOutV : laidOutB Try.prog = true := by kernel_rfl
theorem cellsFile : Try.prog.cellsOf 37 = 5 := by kernel_rfl
theorem cellsMoment : Try.prog.cellsOf 35 = 2 := by kernel_rfl
theorem cellsStrV : Try.prog.cellsOf 9 = 1 := by kernel_rfl
theorem cellsU16 : Try.prog.cellsOf 33 = 1 := by kernel_rfl
theorem cellsBoolV : Try.prog.cellsOf 4 = 1 := by kernel_rfl
theorem cellsByteV : Try.prog.cellsOf 5 = 1 := by kernel_rfl
theorem cellsBytesV : Try.prog.cellsOf 27 = 1 := by kernel_rfl
theorem bytesFile : Try.prog.bytesOf 37 = 48 := by kernel_rfl
section
variable {H : Type} {enc : TypeId × Value → H} {W : World} {base : Nat} {sp : Nat → Bool} {held : Bool}
theorem view_bytes {fuel : Nat} {cs : List Value} {x : DataW H × List MemPlace} (h : DataW.trod enc Try.prog W base sp held fuel 27 cs = some x) : ∃ A c l, cs = [.slice A (List.length l) c] ∧ BAt W A c l := by
  rcases open_ints Try.underlying27 Try.underlying5 cellsByteV h with ⟨rfl, hx⟩ | ⟨a, len, cap, zs, rfl, _, hl, hm, hz, hx, hcell, hwz⟩
  · exact ⟨none, 0, [], rfl, Nat.le_refl _, fun h => by simp at h⟩
  · have hz2 : len ≤ zs.length := by rw [hz]; split <;> omega
    have hlen : ((zs.take len).map fun n => UInt8.ofNat n.toNat).length = len := by simp; omega
    refine ⟨some a, cap, (zs.take len).map fun n => UInt8.ofNat n.toNat, by rw [hlen], by rw [hlen]; exact hl, fun hp => ?_⟩
    rw [hlen] at hp
    obtain ⟨g, o, s⟩ := a
    have h0 := hcell 0 (by omega)
    have hs : s = none := by simpa [Addr.add] using World.cell?_spot h0
    subst hs
    refine ⟨g, o, rfl, by simpa [Addr.add] using World.block_lt_of_cell? W _ h0, fun j x hx => ?_⟩
    obtain ⟨h1, h2⟩ := List.getElem?_eq_some_iff.1 hx
    have hj : j < zs.length := by rw [hlen] at h1; omega
    have h3 := hcell j hj
    rw [Addr.add_lit] at h3
    rw [h3]
    have hb := range_u8 hwz j
    simp only [List.getElem_map, List.getElem_take] at h2
    have e : zs.getD j 0 = zs[j]'hj := by simp [List.getD, List.getElem?_eq_getElem hj]
    have e' : zs[j]?.getD 0 = zs[j]'hj := by simp [List.getElem?_eq_getElem hj]
    rw [e'] at hb
    rw [e]
    rw [← h2]
    congr 2
    simp only [UInt8.toNat_ofNat']
    omega
/-- A file that is read. -/
theorem view_file {fuel : Nat} {cs : List Value} {x : DataW H × List MemPlace} (h : DataW.trod enc Try.prog W base sp held fuel 37 cs = some x) : ∃ f : Fi, f.ok ∧ ∃ B d, BAt W B d f.data ∧ cs = fc f B d := by
  obtain ⟨xs, n, _, _, hlen, hlen2, hf⟩ := DataW.trod_struct Try.underlying37 h
  rw [cellsFile] at hlen
  match cs, hlen with
  | [a0, a1, a2, a3, a4], _ =>
    have g0 := hf 0 _ rfl
    have g1 := hf 1 _ rfl
    have g2 := hf 2 _ rfl
    have g3 := hf 3 _ rfl
    match xs, hlen2 with
    | [x0, x1, x2, x3], _ =>
    simp [cellsStrV, cellsMoment, cellsBoolV, cellsBytesV] at g0 g1 g2 g3
    obtain ⟨s, e0, _, _⟩ := DataW.trod_string Try.underlying9 g0
    obtain ⟨ys, m, _, _, hl2, hm2, hg⟩ := DataW.trod_struct Try.underlying35 g1
    have k0 := hg 0 _ rfl
    have k1 := hg 1 _ rfl
    match ys, hm2 with
    | [y0, y1], _ =>
    simp [cellsU16] at k0 k1
    obtain ⟨d, e1, _, w1⟩ := DataW.trod_int Try.underlying33 k0
    obtain ⟨t, e2, _, w2⟩ := DataW.trod_int Try.underlying33 k1
    obtain ⟨b, e3, _⟩ := DataW.trod_bool Try.underlying4 g2
    obtain ⟨B, c, l, e4, hb⟩ := view_bytes g3
    simp only [List.cons.injEq, and_true] at e0 e1 e2 e3 e4
    have r1 := bounds_u16 w1
    have r2 := bounds_u16 w2
    refine ⟨⟨s.data.toList, d.toNat, t.toNat, b, l⟩, ⟨by show d.toNat < 65536; omega, by show t.toNat < 65536; omega⟩, B, c, hb, ?_⟩
    have es : bs s.data.toList = s := by cases s; simp [bs]
    have ed : ((d.toNat : Nat) : Int) = d := by omega
    have et : ((t.toNat : Nat) : Int) = t := by omega
    simp only [fc, es, ed, et]
    rw [e0, e1, e2, e3, e4]
instance : Inhabited Fi := ⟨⟨[], 0, 0, false, []⟩⟩
theorem view_files {fuel : Nat} {cs : List Value} {x : DataW H × List MemPlace} (h : DataW.trod enc Try.prog W base sp held fuel 22 cs = some x) (hw : ∀ n ∈ x.1.weights Try.prog 22, n ≤ reachBytes) :
    ∃ A c xs, cs = [.slice A (List.length xs) c] ∧ FilesAt W A c xs ∧ xs.length * 48 ≤ reachBytes := by
  rcases open_slice Try.underlying22 h with ⟨rfl, rfl⟩ | ⟨a, len, cap, m, n, D, Pl, rfl, _, hl, _, hm, rfl, hx⟩
  · exact ⟨none, 0, [], rfl, FilesAt.nil _ _ _, by simp⟩
  · have hlm : len ≤ m := by rw [hm]; split <;> omega
    rw [cellsFile] at hx
    obtain ⟨S, hS⟩ := choose_lt (α := Fi) (n := len) (p := fun i f => f.ok ∧ ∃ B d, BAt W B d f.data ∧ W.cells? base (a.add (i * 5)) 5 = some (fc f B d)) (fun i hi => by
      obtain ⟨cs', h1, h2⟩ := hx i (by omega)
      obtain ⟨f, hf, B, d, hb, rfl⟩ := view_file h2
      exact ⟨f, hf, B, d, hb, h1⟩)
    have hll : ((List.range len).map S).length = len := by simp
    have hat : ∀ (j : Nat) f, ((List.range len).map S)[j]? = some f → j < len ∧ f = S j := fun j f hf => by
      have hj := (List.getElem?_eq_some_iff.1 hf).1
      rw [hll] at hj
      refine ⟨hj, ?_⟩
      simp [hj] at hf
      exact hf.symm
    refine ⟨some a, cap, (List.range len).map S, by rw [hll], ⟨by rw [hll]; exact hl, fun h0 => ?_⟩, ?_⟩
    · rw [hll] at h0
      obtain ⟨_, B, d, _, h1⟩ := hS 0 h0
      obtain ⟨_, _, hc⟩ := World.cells?_some h1
      have h2 := hc 0 (by omega)
      rw [Nat.zero_mul] at h2
      obtain ⟨g, o, s⟩ := a
      have hs : s = none := by simpa [Addr.add] using World.cell?_spot h2
      subst hs
      refine ⟨g, o, rfl, by simpa [Addr.add] using World.block_lt_of_cell? W _ h2, fun j f hf => ?_⟩
      obtain ⟨hj, rfl⟩ := hat j f hf
      obtain ⟨k0, B, d, k1, k2⟩ := hS j hj
      refine ⟨k0, B, d, k1, fun i u hu => ?_⟩
      obtain ⟨_, _, hc⟩ := World.cells?_some k2
      have hi : i < 5 := (List.getElem?_eq_some_iff.1 hu).1
      have := hc i hi
      rw [addr_add, addr_add] at this
      rw [this]
      exact hu
    · rw [hll]
      have := hw ((((List.range len).map D).length + ((List.range (m - len)).map fun j => D (len + j)).length) * Try.prog.bytesOf 37) (by simp only [DataW.weights, Try.underlying22]; exact List.mem_cons_self ..)
      rw [bytesFile] at this
      simp only [List.length_map, List.length_range] at this
      omega
end
end Go.Proofs.Ytdgoffpfcgipkaa
