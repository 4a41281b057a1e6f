/- Sets of texts, as maps that the call makes; and a section. -/
import Derived.Test.YtbjhnfemlpbchaaWalksI
import Derived.Test.YtbjhnfemlpbchaaWalksH
import Derived.Maps.OwnSet
namespace Go.Proofs.Ytbjhnfemlpbchaa
open Go.RowKit Go.Maps

theorem lawS : Keyed Try.prog 9 := string_keyed Try.underlying9
theorem zeroB (w : World) : (zeroValue 4).run Try.prog w = .ok (.bool false) w := by kernel_rfl
theorem keyS {x : List UInt8} (h : x.length ≤ 1000000000) : keyOf Try.prog 9 (.string (bs x)) = some (.string x) := WideMaps.keyOf_string_mk Try.underlying9 (by rw [bs_size]; unfold maxLen; omega)
theorem plainB_inv {v : Value} {z : DataW Unit × List MemPlace} (h : plainElem (H := Unit) Try.prog 4 v = some z) : ∃ x, v = .bool x ∧ z = (.lit (.bool x), []) := by
  unfold plainElem at h
  rw [Try.underlying4] at h
  cases v <;> simp at h
  exact ⟨_, rfl, h.symm⟩
noncomputable abbrev RB := plainElem (H := Unit) Try.prog 4
def SSet (w : World) (b : Nat) (ks : List (List UInt8)) : Prop := ∃ D : DataW Unit, w.ownsMap Try.prog 9 RB b ks.length D ∧ ∀ k, D.atKey (.string k) (.lit (.bool false)) = .lit (.bool (ks.contains k))
theorem SSet.made (w : World) : SSet (w.alloc (.map #[] 0)) w.heap.size [] := ⟨.map [], World.ownsMap_made _ _ _ _, fun _ => rfl⟩
theorem SSet.keep {w w' : World} {b : Nat} {ks : List (List UInt8)} (h : SSet w b ks) (k : Below w.heap.size w w') : SSet w' b ks := by
  obtain ⟨D, h1, h2⟩ := h
  exact ⟨D, h1.kept (grownBy_below k none) (by simp), h2⟩
theorem SSet.kept {w w' : World} {b : Nat} {ks : List (List UInt8)} {o : Option Nat} (h : SSet w b ks) (k : w.grownBy w' o) (hne : some b ≠ o) : SSet w' b ks := by
  obtain ⟨D, h1, h2⟩ := h
  exact ⟨D, h1.kept k hne, h2⟩
theorem SSet.lt {w : World} {b : Nat} {ks : List (List UInt8)} (h : SSet w b ks) : b < w.heap.size := by
  obtain ⟨D, h1, _⟩ := h
  exact h1.lt
theorem SSet.setCell {w : World} {b : Nat} {ks : List (List UInt8)} (h : SSet w b ks) {a : Addr} (ha : b ≠ a.block) (u : Value) : SSet (w.setCell a u) b ks := by
  obtain ⟨D, h1, h2⟩ := h
  exact ⟨D, h1.setCell ha u, h2⟩
/-- A block that holds cells is no set. -/
theorem SSet.ne {w : World} {b g : Nat} {ks : List (List UInt8)} {c : Array Value} {t : TypeId} {fr : Nat × Nat} (h : SSet w b ks) (hg : w.heap[g]? = some (.cells c t fr)) : b ≠ g := by
  rintro rfl
  obtain ⟨D, ⟨es, clock, hb, _⟩, _⟩ := h
  rw [hg] at hb
  cases hb
theorem SSet.look {w : World} {b : Nat} {ks : List (List UInt8)} (h : SSet w b ks) {k : List UInt8} (hk : k.length ≤ 1000000000) : (Instr.lookup 56 (.map (some b)) (.string (bs k)) false).run Try.prog w = .ok (.bool (ks.contains k)) w := by
  obtain ⟨D, h1, h2⟩ := h
  obtain ⟨v, ps, hr, hv⟩ := h1.lookup lawS Try.underlying56 (zeroB w) (plainElem_bool Try.underlying4 false) (keyS hk)
  obtain ⟨x, rfl, hz⟩ := plainB_inv hv
  rw [h2 k] at hz
  injection hz with hz _
  injection hz with hz
  injection hz with hz
  rw [hr, hz]
theorem SSet.put {w w1 : World} {b n : Nat} {D : DataW Unit} {ks : List (List UInt8)} {x : List UInt8} (hown : w.ownsMap Try.prog 9 RB b ks.length D) (h2 : ∀ k, D.atKey (.string k) (.lit (.bool false)) = .lit (.bool (ks.contains k)))
    (h1 : w1.ownsMap Try.prog 9 RB b n (D.put (.string x) (.lit (.bool true)))) (hn : n = ks.length + 1) : SSet w1 b (ks ++ [x]) := by
  refine ⟨_, by rw [List.length_append]; rw [hn] at h1; exact h1, fun k => ?_⟩
  by_cases e : k = x
  · subst e
    rw [atKey_put_same (k := .string k) hown.isMap (show WideAt.IsKeyLit (.string k) from trivial)]
    simp
  · rw [atKey_put_other (fun h => e (by injection h)), h2 k]
    congr 2
    rw [Bool.eq_iff_iff]
    simp [e]

/-- A section that takes headers: these are taken. -/
def SecAt (w : World) (base s : Nat) (main : Bool) (ps : List Pr) (m : Nat) (v : Value) : Prop :=
  w.heap[s]? = some (.cells #[.string (bs (Ma.first main)), .map (some m), v] 58 (0, 0)) ∧ SSet w m (ps.map fun p => Ma.small p.1) ∧ PRow w base v ps ∧ base ≤ s ∧ base ≤ m
theorem SecAt.keep {w w' : World} {base s : Nat} {main : Bool} {ps : List Pr} {m : Nat} {v : Value} (h : SecAt w base s main ps m v) (k : Below w.heap.size w w') : SecAt w' base s main ps m v := by
  obtain ⟨h1, h2, h3, h4, h5⟩ := h
  exact ⟨(k.block s (Array.getElem?_eq_some_iff.1 h1).1).trans h1, h2.keep k, h3.grow k, h4, h5⟩
def Sec (w : World) (base s : Nat) (main : Bool) (ps : List Pr) : Prop := ∃ m v, SecAt w base s main ps m v
theorem Sec.keep {w w' : World} {base s : Nat} {main : Bool} {ps : List Pr} (h : Sec w base s main ps) (k : Below w.heap.size w w') : Sec w' base s main ps := by
  obtain ⟨m, v, h1, h2, h3, h4, h5⟩ := h
  exact ⟨m, v, (k.block s (Array.getElem?_eq_some_iff.1 h1).1).trans h1, h2.keep k, h3.grow k, h4, h5⟩
theorem Sec.lt {w : World} {base s : Nat} {main : Bool} {ps : List Pr} (h : Sec w base s main ps) : s < w.heap.size := by
  obtain ⟨m, v, h1, _⟩ := h
  exact (Array.getElem?_eq_some_iff.1 h1).1
end Go.Proofs.Ytbjhnfemlpbchaa
