/- Rows of strings, as lists of bytes. No program. -/
import Derived.Test.YtjbbhfloomejoaaAppend
import Derived.Lib.Join
namespace Go.Proofs.Ytjbbhfloomejoaa
open Go.RowKit

/-- The cells of a list of texts. -/
def sc (xs : List (List UInt8)) : List Value := xs.map fun x => Value.string (bs x)
theorem sc_length (xs : List (List UInt8)) : (sc xs).length = xs.length := List.length_map ..
theorem sc_append (xs ys : List (List UInt8)) : sc (xs ++ ys) = sc xs ++ sc ys := List.map_append ..
theorem sc_get {xs : List (List UInt8)} {j : Nat} {x : List UInt8} (h : xs[j]? = some x) : (sc xs)[j]? = some (.string (bs x)) := by simp [sc, h]
def SRow (w : World) (base : Nat) (e : TypeId) (v : Value) (xs : List (List UInt8)) : Prop := w.ownsRow base e 1 v xs.length (sc xs)
theorem SRow.grow {w w1 : World} {base : Nat} {e : TypeId} {v : Value} {xs : List (List UInt8)} (h : SRow w base e v xs) (k : Below w.heap.size w w1) : SRow w1 base e v xs := own_below h k
theorem SRow.app {w : World} {base : Nat} {e : TypeId} {v : Value} {xs ys : List (List UInt8)} {n : Nat} (h : w.ownsRow base e 1 v n (sc xs ++ sc ys)) (hn : n = xs.length + ys.length) : SRow w base e v (xs ++ ys) := by
  unfold SRow
  rw [List.length_append, sc_append, ← hn]
  exact h
theorem SRow.nil (w : World) (base : Nat) (e : TypeId) : SRow w base e (.slice none 0 0) [] := World.ownsRow_nil w base e 1
/-- What a row of texts is: the nil row, or a block with these texts ahead. -/
theorem SRow.cases {w : World} {base : Nat} {e : TypeId} {v : Value} {xs : List (List UInt8)} (h : SRow w base e v xs) :
    (v = .slice none 0 0 ∧ xs = []) ∨ ∃ g cap, v = .slice (some ⟨g, 0, none⟩) xs.length cap ∧ base ≤ g ∧ g < w.heap.size ∧ xs.length ≤ cap ∧ ∀ (j : Nat) x, xs[j]? = some x → w.cell? ⟨g, j, none⟩ = some (.string (bs x)) := by
  have hc := fun (g : Nat) (hg : v.ownBlock = some g) => World.ownsRow.cells h hg
  rcases h.2 with ⟨rfl, hn⟩ | ⟨g, cap, cur, rfl, h1, h2, h3, _⟩
  · exact .inl ⟨rfl, List.eq_nil_of_length_eq_zero hn⟩
  · refine .inr ⟨g, cap, rfl, h1, (Array.getElem?_eq_some_iff.1 h2).1, h3, fun j x hx => ?_⟩
    have := hc g rfl j _ (sc_get hx)
    have e : Addr.add ⟨g, 0, none⟩ j = ⟨g, j, none⟩ := by unfold Addr.add; split <;> simp_all
    rwa [e] at this
end Go.Proofs.Ytjbbhfloomejoaa
