/- Rows of headers: pairs of texts that are read, and rows of the call's own. -/
import Derived.Test.YtbjhnfemlpbchaaStrs
import Derived.Test.YtbjhnfemlpbchaaProg
import Derived.Lib.Hide
import Derived.Laws.OwnMore
namespace Go.Proofs.Ytbjhnfemlpbchaa
open Go.RowKit

abbrev Pr := List UInt8 × List UInt8
/-- A pair as it lies in cells. -/
def pv (p : Pr) : Value := .agg #[.string (bs p.1), .string (bs p.2)]
def pc : List Pr → List Value
  | [] => []
  | p :: xs => .string (bs p.1) :: .string (bs p.2) :: pc xs
theorem pc_length : ∀ xs : List Pr, (pc xs).length = xs.length * 2
  | [] => rfl
  | p :: xs => by simp only [pc, List.length_cons, pc_length xs]; omega
theorem pc_append : ∀ xs ys : List Pr, pc (xs ++ ys) = pc xs ++ pc ys
  | [], ys => rfl
  | p :: xs, ys => by simp only [List.cons_append, pc, pc_append xs ys]
theorem pc_get : ∀ {xs : List Pr} {j : Nat} {p : Pr}, xs[j]? = some p → (pc xs)[j * 2]? = some (.string (bs p.1)) ∧ (pc xs)[j * 2 + 1]? = some (.string (bs p.2))
  | [], j, p, h => by simp at h
  | q :: xs, 0, p, h => by
    simp at h
    subst h
    exact ⟨rfl, rfl⟩
  | q :: xs, j + 1, p, h => by
    have := pc_get (xs := xs) (j := j) (p := p) (by simpa using h)
    rw [show (j + 1) * 2 = j * 2 + 2 from by omega]
    simpa [pc] using this
theorem infoPair : (Try.prog.info? 44).map (fun i => (i.zero, i.size, i.bytes)) = some (some (.agg #[.string ⟨#[]⟩, .string ⟨#[]⟩]), 2, 32) := by kernel_rfl
/-- A row that reads as these pairs. -/
def Prs (w : World) (A : Option Addr) (c : Nat) (xs : List Pr) : Prop :=
  xs.length ≤ c ∧ (0 < xs.length → ∃ g o, A = some ⟨g, o, none⟩ ∧ g < w.heap.size ∧ ∀ (j : Nat) p, xs[j]? = some p → w.cell? ⟨g, o + j * 2, none⟩ = some (.string (bs p.1)) ∧ w.cell? ⟨g, o + j * 2 + 1, none⟩ = some (.string (bs p.2)))
theorem Prs.keep {w w' : World} {A : Option Addr} {c : Nat} {xs : List Pr} (h : Prs w A c xs) {B : Nat} (k : Below B w w') (hB : ∀ g o, A = some ⟨g, o, none⟩ → 0 < xs.length → g < B) : Prs w' A c xs :=
  ⟨h.1, fun hp => by
    obtain ⟨g, o, e, hg, hc⟩ := h.2 hp
    have hgB := hB g o e hp
    exact ⟨g, o, e, Nat.lt_of_lt_of_le hg k.size, fun j x hx => ⟨(k.cell (p := ⟨g, _, none⟩) hgB).trans (hc j x hx).1, (k.cell (p := ⟨g, _, none⟩) hgB).trans (hc j x hx).2⟩⟩⟩
theorem Prs.grow {w w' : World} {A : Option Addr} {c : Nat} {xs : List Pr} (h : Prs w A c xs) (k : Below w.heap.size w w') : Prs w' A c xs :=
  h.keep k fun g o e hp => by
    obtain ⟨g', o', e', hg, _⟩ := h.2 hp
    rw [e] at e'
    cases e'
    exact hg
theorem Prs.nil (w : World) (A : Option Addr) (c : Nat) : Prs w A c [] := ⟨Nat.zero_le _, fun h => by simp at h⟩
/-- The place at i. -/
theorem Prs.at_ {w : World} {A : Option Addr} {c : Nat} {xs : List Pr} (h : Prs w A c xs) {i : Nat} (hi : i < xs.length) : ∃ g o p, A = some ⟨g, o, none⟩ ∧ g < w.heap.size ∧ xs[i]? = some p ∧ w.cell? ⟨g, o + i * 2, none⟩ = some (.string (bs p.1)) ∧ w.cell? ⟨g, o + i * 2 + 1, none⟩ = some (.string (bs p.2)) := by
  obtain ⟨g, o, e, hg, hc⟩ := h.2 (by omega)
  exact ⟨g, o, _, e, hg, List.getElem?_eq_getElem hi, hc i _ (List.getElem?_eq_getElem hi)⟩
def PRow (w : World) (base : Nat) (v : Value) (xs : List Pr) : Prop := w.ownsRow base 44 2 v xs.length (pc xs)
theorem PRow.grow {w w1 : World} {base : Nat} {v : Value} {xs : List Pr} (h : PRow w base v xs) (k : Below w.heap.size w w1) : PRow w1 base v xs := own_below h k
theorem PRow.nil (w : World) (base : Nat) : PRow w base (.slice none 0 0) [] := World.ownsRow_nil w base 44 2
theorem PRow.app {w : World} {base : Nat} {v : Value} {xs ys : List Pr} {n : Nat} (h : w.ownsRow base 44 2 v n (pc xs ++ pc ys)) (hn : n = xs.length + ys.length) : PRow w base v (xs ++ ys) := by
  unfold PRow
  rw [List.length_append, pc_append, ← hn]
  exact h
theorem addr_add (g o j : Nat) : Addr.add ⟨g, o, none⟩ j = ⟨g, o + j, none⟩ := by unfold Addr.add; split <;> simp_all
theorem PRow.reads {w : World} {base : Nat} {v : Value} {xs : List Pr} (h : PRow w base v xs) : ∃ A c, v = .slice A xs.length c ∧ Prs w A c xs ∧ (∀ g o, A = some ⟨g, o, none⟩ → base ≤ g ∧ o = 0) := by
  have hc := fun (g : Nat) (hg : v.ownBlock = some g) => World.ownsRow.cells h hg
  rcases h.2 with ⟨rfl, hn⟩ | ⟨g, cap, cur, rfl, h1, h2, h3, _⟩
  · obtain rfl : xs = [] := List.eq_nil_of_length_eq_zero hn
    exact ⟨none, 0, rfl, Prs.nil _ _ _, fun g o e => by cases e⟩
  · refine ⟨_, cap, rfl, ⟨h3, fun _ => ⟨g, 0, rfl, (Array.getElem?_eq_some_iff.1 h2).1, fun j x hx => ?_⟩⟩, fun g' o e => by cases e; exact ⟨h1, rfl⟩⟩
    have hp := pc_get hx
    have h4 := hc g rfl _ _ hp.1
    have h5 := hc g rfl _ _ hp.2
    rw [addr_add] at h4 h5
    exact ⟨h4, by rw [Nat.add_assoc]; exact h5⟩
theorem PRow.base_le {w : World} {base : Nat} {v : Value} {xs : List Pr} (h : PRow w base v xs) {k : Nat} (hk : v.ownBlock = some k) : base ≤ k := (World.ownsRow.lt h k hk).1
end Go.Proofs.Ytbjhnfemlpbchaa
