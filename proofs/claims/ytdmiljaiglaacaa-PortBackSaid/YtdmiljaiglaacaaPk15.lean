/- Joined texts: View, PortT. -/
import Derived.Test.YtdmiljaiglaacaaPk2
import Derived.ProofKit
import Derived.OpenShut
import Derived.Deep.Slices
import Derived.SizedLaws
import Derived.ChangeArms
import Derived.Test.YtdmiljaiglaacaaPk12
/- What came in: a value, and rows of values. -/
namespace Go.Proofs.Ytdmiljaiglaacaa
open Go.ChangeShapes Go.WideShapes Go.ChangeAt Go.RowKit Go.Deep

theorem laidOutP : laidOutB Try.prog = true := by kernel_rfl
theorem cellsVal : Try.prog.cellsOf 28 = 6 := by kernel_rfl
theorem cellsStr : Try.prog.cellsOf 9 = 1 := by kernel_rfl
theorem cellsInt : Try.prog.cellsOf 3 = 1 := by kernel_rfl
theorem cellsU64 : Try.prog.cellsOf 26 = 1 := by kernel_rfl
theorem bytesVal : Try.prog.bytesOf 28 = 80 := by kernel_rfl
theorem weights_all {H : Type} {P : Program} {e : TypeId} : ∀ {ds : List (DataW H)} {d : DataW H}, d ∈ ds → ∀ n ∈ d.weights P e, n ∈ DataW.weightsAll P e ds
  | d0 :: ds, d, h, n, hn => by
    simp only [DataW.weightsAll, List.mem_append]
    rcases List.mem_cons.1 h with rfl | h
    · exact .inl hn
    · exact .inr (weights_all h n hn)
section
variable {H : Type} {enc : TypeId × Value → H} {W : World} {base : Nat} {sp : Nat → Bool} {held : Bool}
set_option maxRecDepth 100000 in
theorem view_val {fuel : Nat} {cs : List Value} {x : DataW H × List MemPlace} (h : DataW.trod enc Try.prog W base sp held fuel 28 cs = some x) (hw : ∀ n ∈ x.1.weights Try.prog 28, n ≤ reachBytes) :
    ∃ v : Pv, v.fits ∧ cs = [.int .i64 v.tag, .string (bs v.text), .int .u64 v.bits, .string (bs v.cls), .string (bs v.name), .string (bs v.desc)] := by
  obtain ⟨xs, n, _, hx, hlen, hlen2, hf⟩ := DataW.trod_struct Try.underlying28 h
  rw [cellsVal] at hlen
  match cs, hlen with
  | [a0, a1, a2, a3, a4, a5], _ =>
    have g0 := hf 0 _ rfl
    have g1 := hf 1 _ rfl
    have g2 := hf 2 _ rfl
    have g3 := hf 3 _ rfl
    have g4 := hf 4 _ rfl
    have g5 := hf 5 _ rfl
    match xs, hlen2, hx with
    | [x0, x1, x2, x3, x4, x5], _, hx =>
    simp [cellsStr, cellsInt, cellsU64] at g0 g1 g2 g3 g4 g5
    obtain ⟨t, e0, f0, w0⟩ := DataW.trod_int Try.underlying3 g0
    obtain ⟨s1, e1, f1, _⟩ := DataW.trod_string Try.underlying9 g1
    obtain ⟨b, e2, f2, w2⟩ := DataW.trod_int Try.underlying26 g2
    obtain ⟨s3, e3, f3, _⟩ := DataW.trod_string Try.underlying9 g3
    obtain ⟨s4, e4, f4, _⟩ := DataW.trod_string Try.underlying9 g4
    obtain ⟨s5, e5, f5, _⟩ := DataW.trod_string Try.underlying9 g5
    subst f0 f1 f2 f3 f4 f5
    simp only [List.cons.injEq, and_true] at e0 e1 e2 e3 e4 e5
    subst hx
    have r0 := bounds_i64 w0
    have r2 := bounds_u64 w2
    have hr2 : reachBytes + 24 ≤ 140737488355328 := by decide
    simp only [DataW.weights, Try.underlying28] at hw
    simp [DataW.weightsEach, DataW.weights] at hw
    have es : ∀ s : ByteArray, bs s.data.toList = s := fun s => by cases s; simp [bs]
    have eb : ((b.toNat : Nat) : Int) = b := by omega
    refine ⟨⟨t, s1.data.toList, b.toNat, s3.data.toList, s4.data.toList, s5.data.toList⟩, ⟨r0, by show b.toNat < _; omega, ?_, ?_, ?_, ?_⟩, ?_⟩
    · show s1.data.toList.length ≤ _; rw [Array.length_toList]; exact Nat.le_trans hw.1 (by omega)
    · show s3.data.toList.length ≤ _; rw [Array.length_toList]; exact Nat.le_trans hw.2.1 (by omega)
    · show s4.data.toList.length ≤ _; rw [Array.length_toList]; exact Nat.le_trans hw.2.2.1 (by omega)
    · show s5.data.toList.length ≤ _; rw [Array.length_toList]; exact Nat.le_trans hw.2.2.2 (by omega)
    · simp only [es, eb]
      rw [e0, e1, e2, e3, e4, e5]
theorem choose_lt' {n : Nat} {p : Nat → Pv → Prop} (h : ∀ i, i < n → ∃ x, p i x) : ∃ f : Nat → Pv, ∀ i, i < n → p i (f i) :=
  ⟨fun i => if hi : i < n then Classical.choose (h i hi) else Pv.zero, fun i hi => by
    simp only [hi, dite_true]
    exact Classical.choose_spec (h i hi)⟩
theorem view_vals {fuel : Nat} {cs : List Value} {x : DataW H × List MemPlace} (h : DataW.trod enc Try.prog W base sp held fuel 25 cs = some x) (hw : ∀ n ∈ x.1.weights Try.prog 25, n ≤ reachBytes) :
    ∃ A c xs, cs = [.slice A (List.length xs) c] ∧ Vals W A c xs ∧ xs.length ≤ 140737488355328 ∧ (A = none → c = 0) ∧ ∀ v ∈ xs, v.fits := by
  rcases open_slice Try.underlying25 h with ⟨rfl, rfl⟩ | ⟨a, len, cap, m, n, D, Pl, rfl, _, hl, _, hm, rfl, hx⟩
  · exact ⟨none, 0, [], rfl, Vals.nil _ _ _, by simp, fun _ => rfl, fun v hv => by cases hv⟩
  · have hlm : len ≤ m := by rw [hm]; split <;> omega
    rw [cellsVal] at hx
    obtain ⟨S, hS⟩ := choose_lt' (n := len) (p := fun i v => v.fits ∧ W.cells? base (a.add (i * 6)) 6 = some [.int .i64 v.tag, .string (bs v.text), .int .u64 v.bits, .string (bs v.cls), .string (bs v.name), .string (bs v.desc)]) (fun i hi => by
      obtain ⟨cs', h1, h2⟩ := hx i (by omega)
      obtain ⟨v, hv, rfl⟩ := view_val h2 (fun n hn => hw n (by
        simp only [DataW.weights, Try.underlying25, List.mem_cons, List.mem_append]
        exact .inr (.inl (weights_all (List.mem_map.2 ⟨i, List.mem_range.2 hi, rfl⟩) n hn))))
      exact ⟨v, hv, h1⟩)
    have hll : ((List.range len).map S).length = len := by simp
    have hat : ∀ (j : Nat) f, ((List.range len).map S)[j]? = some f → j < len ∧ f = S j := fun j f hf => by
      have hj := (List.getElem?_eq_some_iff.1 hf).1
      rw [hll] at hj
      refine ⟨hj, ?_⟩
      simp [hj] at hf
      exact hf.symm
    have hr2 : reachBytes + 24 ≤ 140737488355328 := by decide
    refine ⟨some a, cap, (List.range len).map S, by rw [hll], ⟨by rw [hll]; exact hl, fun h0 => ?_⟩, ?_, (fun e => by cases e), fun v hv => ?_⟩
    · rw [hll] at h0
      obtain ⟨_, h1⟩ := hS 0 h0
      obtain ⟨_, _, hc⟩ := World.cells?_some h1
      have h2 := hc 0 (by omega)
      rw [Nat.zero_mul] at h2
      obtain ⟨g, o, s⟩ := a
      have hs : s = none := by simpa [Addr.add] using World.cell?_spot h2
      subst hs
      refine ⟨g, o, rfl, by simpa [Addr.add] using World.block_lt_of_cell? W _ h2, fun j f hf => ?_⟩
      obtain ⟨hj, rfl⟩ := hat j f hf
      obtain ⟨_, k2⟩ := hS j hj
      obtain ⟨_, _, hc⟩ := World.cells?_some k2
      have c0 := hc 0 (by omega)
      have c1 := hc 1 (by omega)
      have c2 := hc 2 (by omega)
      have c3 := hc 3 (by omega)
      have c4 := hc 4 (by omega)
      have c5 := hc 5 (by omega)
      rw [addr_add, addr_add] at c0 c1 c2 c3 c4 c5
      exact ⟨c0, c1, c2, c3, c4, c5⟩
    · rw [hll]
      have := hw ((((List.range len).map D).length + ((List.range (m - len)).map fun j => D (len + j)).length) * Try.prog.bytesOf 28) (by simp only [DataW.weights, Try.underlying25]; exact List.mem_cons_self ..)
      rw [bytesVal] at this
      simp only [List.length_map, List.length_range] at this
      omega
    · obtain ⟨j, hj, rfl⟩ := List.mem_iff_getElem.1 hv
      obtain ⟨hj2, e⟩ := hat j _ (List.getElem?_eq_getElem hj)
      rw [e]
      exact (hS j hj2).1
end
end Go.Proofs.Ytdmiljaiglaacaa

/- What came in: a thing, and rows of things. -/
namespace Go.Proofs.Ytdmiljaiglaacaa
open Go.ChangeShapes Go.WideShapes Go.ChangeAt Go.RowKit Go.Deep

theorem cellsThing : Try.prog.cellsOf 30 = 10 := by kernel_rfl
theorem cellsU8 : Try.prog.cellsOf 5 = 1 := by kernel_rfl
theorem bytesThing : Try.prog.bytesOf 30 = 120 := by kernel_rfl
section
variable {H : Type} {enc : TypeId × Value → H} {W : World} {base : Nat} {sp : Nat → Bool} {held : Bool}
set_option maxRecDepth 100000 in
theorem view_thing {fuel : Nat} {cs : List Value} {x : DataW H × List MemPlace} (h : DataW.trod enc Try.prog W base sp held fuel 30 cs = some x) (hw : ∀ n ∈ x.1.weights Try.prog 30, n ≤ reachBytes) :
    ∃ t : Th, t.fits ∧ cs = (tcells t).toList := by
  obtain ⟨xs, n, _, hx, hlen, hlen2, hf⟩ := DataW.trod_struct Try.underlying30 h
  rw [cellsThing] at hlen
  match cs, hlen with
  | [a0, a1, a2, a3, a4, a5, a6, a7, a8, a9], _ =>
    have g0 := hf 0 _ rfl
    have g1 := hf 1 _ rfl
    have g2 := hf 2 _ rfl
    have g3 := hf 3 _ rfl
    have g4 := hf 4 _ rfl
    match xs, hlen2, hx with
    | [x0, x1, x2, x3, x4], _, hx =>
    simp [cellsStr, cellsInt, cellsU8, cellsVal] at g0 g1 g2 g3 g4
    obtain ⟨k, e0, f0, w0⟩ := DataW.trod_int Try.underlying5 g0
    obtain ⟨r, e1, f1, w1⟩ := DataW.trod_int Try.underlying3 g1
    obtain ⟨m, e2, f2, w2⟩ := DataW.trod_int Try.underlying3 g2
    obtain ⟨s, e3, f3, _⟩ := DataW.trod_string Try.underlying9 g3
    subst f0 f1 f2 f3
    simp only [List.cons.injEq, and_true] at e0 e1 e2 e3
    subst hx
    have r0 := bounds_u8 w0
    have r1 := bounds_i64 w1
    have r2 := bounds_i64 w2
    simp only [DataW.weights, Try.underlying30] at hw
    simp [DataW.weightsEach, DataW.weights] at hw
    obtain ⟨v, hv, e4⟩ := view_val g4 hw.2
    simp only [List.cons.injEq, and_true] at e4
    obtain ⟨e4, e5, e6, e7, e8, e9⟩ := e4
    have hr2 : reachBytes + 24 ≤ 140737488355328 := by decide
    have es : bs s.data.toList = s := by cases s; simp [bs]
    have eb : ((k.toNat : Nat) : Int) = k := by omega
    refine ⟨⟨k.toNat, r, m, s.data.toList, v⟩, ⟨by show k.toNat < 256; omega, r1, r2, ?_, hv⟩, ?_⟩
    · show s.data.toList.length ≤ _; rw [Array.length_toList]; exact Nat.le_trans hw.1 (by omega)
    · unfold tcells
      simp only [es, eb]
      rw [e0, e1, e2, e3, e4, e5, e6, e7, e8, e9]
theorem choose_ltT {n : Nat} {p : Nat → Th → Prop} (h : ∀ i, i < n → ∃ x, p i x) : ∃ f : Nat → Th, ∀ i, i < n → p i (f i) :=
  ⟨fun i => if hi : i < n then Classical.choose (h i hi) else Th.zero, fun i hi => by
    simp only [hi, dite_true]
    exact Classical.choose_spec (h i hi)⟩
theorem view_things {fuel : Nat} {cs : List Value} {x : DataW H × List MemPlace} (h : DataW.trod enc Try.prog W base sp held fuel 22 cs = some x) (hw : ∀ n ∈ x.1.weights Try.prog 22, n ≤ reachBytes) :
    ∃ A c xs, cs = [.slice A (List.length xs) c] ∧ Ths W A c xs ∧ xs.length ≤ 140737488355328 ∧ ∀ v ∈ xs, v.fits := by
  rcases open_slice Try.underlying22 h with ⟨rfl, rfl⟩ | ⟨a, len, cap, m, n, D, Pl, rfl, _, hl, _, hm, rfl, hx⟩
  · exact ⟨none, 0, [], rfl, Ths.nil _ _ _, by simp, fun v hv => by cases hv⟩
  · have hlm : len ≤ m := by rw [hm]; split <;> omega
    rw [cellsThing] at hx
    obtain ⟨S, hS⟩ := choose_ltT (n := len) (p := fun i v => v.fits ∧ W.cells? base (a.add (i * 10)) 10 = some (tcells v).toList) (fun i hi => by
      obtain ⟨cs', h1, h2⟩ := hx i (by omega)
      obtain ⟨v, hv, rfl⟩ := view_thing h2 (fun n hn => hw n (by
        simp only [DataW.weights, Try.underlying22, List.mem_cons, List.mem_append]
        exact .inr (.inl (weights_all (List.mem_map.2 ⟨i, List.mem_range.2 hi, rfl⟩) n hn))))
      exact ⟨v, hv, h1⟩)
    have hll : ((List.range len).map S).length = len := by simp
    have hat : ∀ (j : Nat) f, ((List.range len).map S)[j]? = some f → j < len ∧ f = S j := fun j f hf => by
      have hj := (List.getElem?_eq_some_iff.1 hf).1
      rw [hll] at hj
      refine ⟨hj, ?_⟩
      simp [hj] at hf
      exact hf.symm
    have hr2 : reachBytes + 24 ≤ 140737488355328 := by decide
    refine ⟨some a, cap, (List.range len).map S, by rw [hll], ⟨by rw [hll]; exact hl, fun h0 => ?_⟩, ?_, fun v hv => ?_⟩
    · rw [hll] at h0
      obtain ⟨_, h1⟩ := hS 0 h0
      obtain ⟨_, _, hc⟩ := World.cells?_some h1
      have h2 := hc 0 (by omega)
      rw [Nat.zero_mul] at h2
      obtain ⟨g, o, s⟩ := a
      have hs : s = none := by simpa [Addr.add] using World.cell?_spot h2
      subst hs
      refine ⟨g, o, rfl, by simpa [Addr.add] using World.block_lt_of_cell? W _ h2, fun j f hf => ?_⟩
      obtain ⟨hj, rfl⟩ := hat j f hf
      obtain ⟨_, k2⟩ := hS j hj
      obtain ⟨_, _, hc⟩ := World.cells?_some k2
      have c0 := hc 0 (by omega)
      have c1 := hc 1 (by omega)
      have c2 := hc 2 (by omega)
      have c3 := hc 3 (by omega)
      have c4 := hc 4 (by omega)
      have c5 := hc 5 (by omega)
      have c6 := hc 6 (by omega)
      have c7 := hc 7 (by omega)
      have c8 := hc 8 (by omega)
      have c9 := hc 9 (by omega)
      rw [addr_add, addr_add] at c0 c1 c2 c3 c4 c5 c6 c7 c8 c9
      exact ⟨⟨c0, c1, c2, c3⟩, c4, c5, c6, c7, c8, c9⟩
    · rw [hll]
      have := hw ((((List.range len).map D).length + ((List.range (m - len)).map fun j => D (len + j)).length) * Try.prog.bytesOf 30) (by simp only [DataW.weights, Try.underlying22]; exact List.mem_cons_self ..)
      rw [bytesThing] at this
      simp only [List.length_map, List.length_range] at this
      omega
    · obtain ⟨j, hj, rfl⟩ := List.mem_iff_getElem.1 hv
      obtain ⟨hj2, e⟩ := hat j _ (List.getElem?_eq_getElem hj)
      rw [e]
      exact (hS j hj2).1
end
end Go.Proofs.Ytdmiljaiglaacaa
