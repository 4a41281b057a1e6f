/- Rows of ints that are read, and rows of the call's own. -/
import Derived.Test.YtjbbhfloomejoaaAppend
import Derived.Test.YtjbbhfloomejoaaProg
import Derived.Lib.Hide
import Derived.Laws.AppendOwn
namespace Go.Proofs.Ytjbbhfloomejoaa
open Go.RowKit

def I64 (x : Int) : Prop := -9223372036854775808 ≤ x ∧ x ≤ 9223372036854775807
/-- The cells of a list of numbers. -/
def ic (xs : List Int) : List Value := xs.map (Value.int .i64)
theorem ic_length (xs : List Int) : (ic xs).length = xs.length := List.length_map ..
theorem ic_append (xs ys : List Int) : ic (xs ++ ys) = ic xs ++ ic ys := List.map_append ..
theorem ic_get {xs : List Int} {j : Nat} {x : Int} (h : xs[j]? = some x) : (ic xs)[j]? = some (.int .i64 x) := by simp [ic, h]
theorem infoInt : (Try.prog.info? 3).map (fun i => (i.zero, i.size, i.bytes)) = some (some (.int .i64 0), 1, 8) := by kernel_rfl
/-- A row that reads as these numbers. -/
def Ints (w : World) (A : Option Addr) (c : Nat) (xs : List Int) : Prop :=
  xs.length ≤ c ∧ (0 < xs.length → ∃ g o, A = some ⟨g, o, none⟩ ∧ g < w.heap.size ∧ ∀ (j : Nat) x, xs[j]? = some x → w.cell? ⟨g, o + j, none⟩ = some (.int .i64 x))
theorem Ints.grow {w w' : World} {A : Option Addr} {c : Nat} {xs : List Int} (h : Ints w A c xs) (k : Below w.heap.size w w') : Ints w' A c xs :=
  ⟨h.1, fun hp => by
    obtain ⟨g, o, e, hg, hc⟩ := h.2 hp
    exact ⟨g, o, e, Nat.lt_of_lt_of_le hg k.size, fun j x hx => (World.cell?_of_block (k.block g hg)).trans (hc j x hx)⟩⟩
theorem Ints.nil (w : World) (A : Option Addr) (c : Nat) : Ints w A c [] := ⟨Nat.zero_le _, fun h => by simp at h⟩
/-- The place at i. -/
theorem Ints.at_ {w : World} {A : Option Addr} {c : Nat} {xs : List Int} (h : Ints w A c xs) {i : Nat} (hi : i < xs.length) : ∃ g o x, A = some ⟨g, o, none⟩ ∧ g < w.heap.size ∧ xs[i]? = some x ∧ w.cell? ⟨g, o + i, none⟩ = some (.int .i64 x) := by
  obtain ⟨g, o, e, hg, hc⟩ := h.2 (by omega)
  exact ⟨g, o, _, e, hg, List.getElem?_eq_getElem hi, hc i _ (List.getElem?_eq_getElem hi)⟩
def IRow (w : World) (base : Nat) (v : Value) (xs : List Int) : Prop := w.ownsRow base 3 1 v xs.length (ic xs)
theorem IRow.grow {w w1 : World} {base : Nat} {v : Value} {xs : List Int} (h : IRow w base v xs) (k : Below w.heap.size w w1) : IRow w1 base v xs := own_below h k
theorem IRow.nil (w : World) (base : Nat) : IRow w base (.slice none 0 0) [] := World.ownsRow_nil w base 3 1
theorem IRow.app {w : World} {base : Nat} {v : Value} {xs ys : List Int} {n : Nat} (h : w.ownsRow base 3 1 v n (ic xs ++ ic ys)) (hn : n = xs.length + ys.length) : IRow w base v (xs ++ ys) := by
  unfold IRow
  rw [List.length_append, ic_append, ← hn]
  exact h
theorem IRow.reads {w : World} {base : Nat} {v : Value} {xs : List Int} (h : IRow w base v xs) : ∃ A c, v = .slice A xs.length c ∧ Ints w A c xs := by
  have hc := fun (g : Nat) (hg : v.ownBlock = some g) => World.ownsRow.cells h hg
  rcases h.2 with ⟨rfl, hn⟩ | ⟨g, cap, cur, rfl, h1, h2, h3, _⟩
  · obtain rfl : xs = [] := List.eq_nil_of_length_eq_zero hn
    exact ⟨none, 0, rfl, Ints.nil _ _ _⟩
  · refine ⟨_, cap, rfl, h3, fun _ => ⟨g, 0, rfl, (Array.getElem?_eq_some_iff.1 h2).1, fun j x hx => ?_⟩⟩
    have := hc g rfl j _ (ic_get hx)
    have e : Addr.add ⟨g, 0, none⟩ j = ⟨g, j, none⟩ := by unfold Addr.add; split <;> simp_all
    rw [Nat.zero_add]
    rwa [e] at this
theorem IRow.readsB {w : World} {base : Nat} {v : Value} {xs : List Int} (h : IRow w base v xs) : ∃ A c, v = .slice A xs.length c ∧ Ints w A c xs ∧ ∀ g o, A = some ⟨g, o, none⟩ → base ≤ g := by
  have hb := fun k hk => (World.ownsRow.lt h k hk).1
  obtain ⟨A, c, rfl, hi⟩ := h.reads
  exact ⟨A, c, rfl, hi, fun g o e => by subst e; exact hb g rfl⟩
/-- A row of the call's own lies behind its base: so the blocks ahead of it are as they were. -/
theorem IRow.base_le {w : World} {base : Nat} {v : Value} {xs : List Int} (h : IRow w base v xs) {k : Nat} (hk : v.ownBlock = some k) : base ≤ k := (World.ownsRow.lt h k hk).1
end Go.Proofs.Ytjbbhfloomejoaa
