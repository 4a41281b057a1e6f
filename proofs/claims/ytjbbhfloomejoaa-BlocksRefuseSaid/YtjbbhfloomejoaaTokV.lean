/- What came in: a token, and rows of tokens. -/
import Derived.Test.YtjbbhfloomejoaaTok
import Derived.ProofKit
import Derived.OpenShut
import Derived.Deep.Slices
import Derived.SizedLaws
import Derived.ChangeArms
namespace Go.Proofs.Ytjbbhfloomejoaa
open Go.ChangeShapes Go.WideShapes Go.ChangeAt Go.RowKit Go.Deep

theorem laidOutP : laidOutB Try.prog = true := by kernel_rfl
theorem cellsTok : Try.prog.cellsOf 43 = 3 := by kernel_rfl
theorem cellsInt : Try.prog.cellsOf 3 = 1 := by kernel_rfl
theorem cellsByte : Try.prog.cellsOf 5 = 1 := by kernel_rfl
theorem bytesTok : Try.prog.bytesOf 43 = 24 := by kernel_rfl
section
variable {H : Type} {enc : TypeId × Value → H} {W : World} {base : Nat} {sp : Nat → Bool} {held : Bool}
set_option maxRecDepth 100000 in
theorem view_tok {fuel : Nat} {cs : List Value} {x : DataW H × List MemPlace} (h : DataW.trod enc Try.prog W base sp held fuel 43 cs = some x) :
    ∃ t : Tk, t.fits ∧ cs = [.int .u8 (t.lit.toNat : Int), .int .i64 t.len, .int .i64 t.dist] := by
  obtain ⟨xs, n, _, hx, hlen, hlen2, hf⟩ := DataW.trod_struct Try.underlying43 h
  rw [cellsTok] at hlen
  match cs, hlen with
  | [a0, a1, a2], _ =>
    have g0 := hf 0 _ rfl
    have g1 := hf 1 _ rfl
    have g2 := hf 2 _ rfl
    match xs, hlen2, hx with
    | [x0, x1, x2], _, hx =>
    simp [cellsByte, cellsInt] at g0 g1 g2
    obtain ⟨b, e0, f0, w0⟩ := DataW.trod_int Try.underlying5 g0
    obtain ⟨n1, e1, f1, w1⟩ := DataW.trod_int Try.underlying3 g1
    obtain ⟨n2, e2, f2, w2⟩ := DataW.trod_int Try.underlying3 g2
    subst f0 f1 f2
    simp only [List.cons.injEq, and_true] at e0 e1 e2
    have r1 := bounds_i64 w1
    have r2 := bounds_i64 w2
    have r0 : 0 ≤ b ∧ b ≤ 255 := bounds_u8 w0
    have eb : (((UInt8.ofNat b.toNat).toNat : Nat) : Int) = b := by rw [u8_toNat]; omega
    refine ⟨⟨UInt8.ofNat b.toNat, n1, n2⟩, ⟨r1, r2⟩, ?_⟩
    rw [eb, e0, e1, e2]
theorem choose_tk {n : Nat} {p : Nat → Tk → Prop} (h : ∀ i, i < n → ∃ x, p i x) : ∃ f : Nat → Tk, ∀ i, i < n → p i (f i) :=
  ⟨fun i => if hi : i < n then Classical.choose (h i hi) else ⟨0, 0, 0⟩, fun i hi => by
    simp only [hi, dite_true]
    exact Classical.choose_spec (h i hi)⟩
theorem view_toks {fuel : Nat} {cs : List Value} {x : DataW H × List MemPlace} (h : DataW.trod enc Try.prog W base sp held fuel 22 cs = some x) (hw : ∀ n ∈ x.1.weights Try.prog 22, n ≤ reachBytes) :
    ∃ A c xs, cs = [.slice A (List.length xs) c] ∧ Toks W A c xs ∧ xs.length ≤ 140737488355328 ∧ (A = none → c = 0) ∧ ∀ v ∈ xs, v.fits := by
  rcases open_slice Try.underlying22 h with ⟨rfl, rfl⟩ | ⟨a, len, cap, m, n, D, Pl, rfl, _, hl, _, hm, rfl, hx⟩
  · exact ⟨none, 0, [], rfl, Toks.nil _ _ _, by simp, fun _ => rfl, fun v hv => by cases hv⟩
  · have hlm : len ≤ m := by rw [hm]; split <;> omega
    rw [cellsTok] at hx
    obtain ⟨S, hS⟩ := choose_tk (n := len) (p := fun i v => v.fits ∧ W.cells? base (a.add (i * 3)) 3 = some [.int .u8 (v.lit.toNat : Int), .int .i64 v.len, .int .i64 v.dist]) (fun i hi => by
      obtain ⟨cs', h1, h2⟩ := hx i (by omega)
      obtain ⟨v, hv, rfl⟩ := view_tok h2
      exact ⟨v, hv, h1⟩)
    have hll : ((List.range len).map S).length = len := by simp
    have hat : ∀ (j : Nat) f, ((List.range len).map S)[j]? = some f → j < len ∧ f = S j := fun j f hf => by
      have hj := (List.getElem?_eq_some_iff.1 hf).1
      rw [hll] at hj
      refine ⟨hj, ?_⟩
      simp [hj] at hf
      exact hf.symm
    have hr2 : reachBytes + 24 ≤ 140737488355328 := by decide
    refine ⟨some a, cap, (List.range len).map S, by rw [hll], ⟨by rw [hll]; exact hl, fun h0 => ?_⟩, ?_, (fun e => by cases e), fun v hv => ?_⟩
    · rw [hll] at h0
      obtain ⟨_, h1⟩ := hS 0 h0
      obtain ⟨_, _, hc⟩ := World.cells?_some h1
      have h2 := hc 0 (by omega)
      rw [Nat.zero_mul] at h2
      obtain ⟨g, o, s⟩ := a
      have hs : s = none := by simpa [Addr.add] using World.cell?_spot h2
      subst hs
      refine ⟨g, o, rfl, by simpa [Addr.add] using World.block_lt_of_cell? W _ h2, fun j f hf => ?_⟩
      obtain ⟨hj, rfl⟩ := hat j f hf
      obtain ⟨_, k2⟩ := hS j hj
      obtain ⟨_, _, hc⟩ := World.cells?_some k2
      have c0 := hc 0 (by omega)
      have c1 := hc 1 (by omega)
      have c2 := hc 2 (by omega)
      rw [off_addr, off_addr] at c0 c1 c2
      exact ⟨c0, c1, c2⟩
    · rw [hll]
      have := hw ((((List.range len).map D).length + ((List.range (m - len)).map fun j => D (len + j)).length) * Try.prog.bytesOf 43) (by simp only [DataW.weights, Try.underlying22]; exact List.mem_cons_self ..)
      rw [bytesTok] at this
      simp only [List.length_map, List.length_range] at this
      omega
    · obtain ⟨j, hj, rfl⟩ := List.mem_iff_getElem.1 hv
      obtain ⟨hj2, e⟩ := hat j _ (List.getElem?_eq_getElem hj)
      rw [e]
      exact (hS j hj2).1
end
end Go.Proofs.Ytjbbhfloomejoaa
