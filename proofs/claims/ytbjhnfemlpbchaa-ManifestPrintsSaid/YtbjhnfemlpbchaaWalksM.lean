/- The walk of layer 14: unfold. -/
import Derived.Test.YtbjhnfemlpbchaaWalksL
import Derived.Test.YtbjhnfemlpbchaaPlainD
import Derived.Test.YtbjhnfemlpbchaaWalksE
import Derived.Maps.OwnIn
import Derived.Shelf.RegionOpen
namespace Go.Proofs.Ytbjhnfemlpbchaa
open Go.RowKit Go.Shelf
attribute [local go_sem] Oper.semAt_some

theorem TRow.kept {w w1 : World} {base : Nat} {v : Value} {xs : List (List UInt8)} {row : Option Nat} (h : TRow w base v xs) (g : w.grownBy w1 row) (hne : ∀ k, v.ownBlock = some k → row ≠ some k) : TRow w1 base v xs :=
  World.ownsRow.kept h g (by
    cases e : v.ownBlock with
    | none => exact .inl rfl
    | some k => exact .inr (fun e2 => hne k e e2.symm))
theorem TRow.cells {w : World} {base : Nat} {v : Value} {xs : List (List UInt8)} (h : TRow w base v xs) {g : Nat} (hg : v.ownBlock = some g) : base ≤ g ∧ ∃ cur, w.heap[g]? = some (.cells cur 9 (0, 0)) := by
  rcases h.2 with ⟨h, _⟩ | ⟨g', cap, cur, h, h1, hg', _⟩
  · rw [h] at hg; simp [Value.ownBlock] at hg
  · rw [h] at hg
    simp [Value.ownBlock] at hg
    subst hg
    exact ⟨h1, cur, hg'⟩
/-- Sections that are whole: a row of rows, none of which lies in 'no'. -/
def Outs (w : World) (base : Nat) (v : Value) (out : List (List (List UInt8))) (no : Option Nat) : Prop :=
  ∃ vals, w.ownsRow base 38 1 v out.length vals ∧ (∀ u ∈ vals, u.oneCell' = true) ∧ ∀ (j : Nat) u x, vals[j]? = some u → out[j]? = some x → TRow w base u x ∧ ∀ k, u.ownBlock = some k → no ≠ some k
theorem outs_own {w : World} {base : Nat} {v : Value} {out : List (List (List UInt8))} {no : Option Nat} (h : Outs w base v out no) {g : Nat} (hg : v.ownBlock = some g) : base ≤ g ∧ ∃ cur, w.heap[g]? = some (.cells cur 38 (0, 0)) := by
  obtain ⟨vals, h, _⟩ := h
  rcases h.2 with ⟨h, _⟩ | ⟨g', cap, cur, h, h1, hg', _⟩
  · rw [h] at hg; simp [Value.ownBlock] at hg
  · rw [h] at hg
    simp [Value.ownBlock] at hg
    subst hg
    exact ⟨h1, cur, hg'⟩
/-- They stay so while a block turns that is neither the row's own nor one of its rows'. -/
theorem Outs.kept {w w1 : World} {base : Nat} {v : Value} {out : List (List (List UInt8))} {no no' : Option Nat} {row : Option Nat} (h : Outs w base v out no) (g : w.grownBy w1 row)
    (h1 : ∀ k, v.ownBlock = some k → row ≠ some k) (h2 : ∀ k, row = some k → no = some k ∨ k < base ∨ ∀ cur, w.heap[k]? ≠ some (.cells cur 9 (0, 0))) (h3 : ∀ k, no' = some k → no = some k ∨ w.heap.size ≤ k) : Outs w1 base v out no' := by
  obtain ⟨vals, k1, k2, k3⟩ := h
  refine ⟨vals, k1.kept g (by
    cases e : v.ownBlock with
    | none => exact .inl rfl
    | some k => exact .inr (fun e2 => h1 k e e2.symm)), k2, fun j u x hu hx => ?_⟩
  obtain ⟨k4, k5⟩ := k3 j u x hu hx
  refine ⟨k4.kept g fun k hk hr => ?_, fun k hk hn => ?_⟩
  · obtain ⟨hb, cur, hc⟩ := k4.cells hk
    rcases h2 k hr with h | h | h
    · exact k5 k hk h
    · omega
    · exact h cur hc
  · rcases h3 k hn with h | h
    · exact k5 k hk h
    · obtain ⟨_, cur, hc⟩ := k4.cells hk
      have := (Array.getElem?_eq_some_iff.1 hc).1
      omega
theorem Outs.nil (w : World) (base : Nat) (no : Option Nat) : Outs w base (.slice none 0 0) [] no := ⟨[], World.ownsRow_nil w base 38 1, by simp, fun j u x hu => by simp at hu⟩

/-- Between two rounds. -/
def UnfI (w : World) (pre : List (List UInt8)) (W : World) : Prop :=
  ∃ out now vo vn, Ma.runl pre = (0, out, now) ∧ W.heap[w.heap.size]? = some (.cells #[.slice none 0 0] 48 (0, 0)) ∧ W.heap[w.heap.size + 1]? = some (.cells #[.int .i64 0] 28 (0, 0)) ∧
    W.heap[w.heap.size + 2]? = some (.cells #[vo] 48 (0, 0)) ∧ W.heap[w.heap.size + 3]? = some (.cells #[vn] 38 (0, 0)) ∧ Outs W (w.heap.size + 5) vo out vn.ownBlock ∧ TRow W (w.heap.size + 5) vn now ∧ Below w.heap.size w W ∧ w.heap.size + 5 ≤ W.heap.size
/-- A round has said what is wrong. -/
def UnfX (w : World) (pre : List (List UInt8)) (W : World) : Prop :=
  ∃ e : Nat, e ≠ 0 ∧ (Ma.runl pre).1 = e ∧ W.heap[w.heap.size]? = some (.cells #[.slice none 0 0] 48 (0, 0)) ∧ W.heap[w.heap.size + 1]? = some (.cells #[.int .i64 (e : Int)] 28 (0, 0)) ∧ Below w.heap.size w W

theorem calm_cells {X Y : World} {row : Option Nat} {B N k : Nat} {c : Array Value} {t : TypeId} {fr : Nat × Nat} (h : X.heap[k]? = some (.cells c t fr)) (hg : X.grownBy Y row) (hr : ∀ r, row = some r → r = B ∨ (N ≤ r ∧ ∃ o : Obj, X.heap[r]? = some o ∧ o.isCells = false)) (hk : k ≠ B) : Y.heap[k]? = some (.cells c t fr) :=
  (hg.block k (Array.getElem?_eq_some_iff.1 h).1 fun e => by
    rcases hr k e.symm with h1 | ⟨_, o, ho, hc⟩
    · exact hk h1
    · rw [h] at ho; cases ho; cases hc).trans h
theorem unfI_calm (w : World) : Calm (w.heap.size + 4) (w.heap.size + 5) (UnfI w) := by
  rintro pre X Y row ⟨out, now, vo, vn, h1, h2, h3, h4, h5, h6, h7, h8, h9⟩ hg hr
  refine ⟨out, now, vo, vn, h1, calm_cells h2 hg hr (by omega), calm_cells h3 hg hr (by omega), calm_cells h4 hg hr (by omega), calm_cells h5 hg hr (by omega), ?_, ?_, h8.grown hg h8.size (fun k e => ?_), Nat.le_trans h9 hg.size⟩
  · refine h6.kept hg (fun k hk e => ?_) (fun k e => ?_) (fun k e => .inl e)
    · obtain ⟨hb, cur, hc⟩ := outs_own h6 hk
      rcases hr k e with h | ⟨_, o, ho, hcc⟩
      · omega
      · rw [hc] at ho; cases ho; cases hcc
    · rcases hr k e with h | ⟨_, o, ho, hcc⟩
      · exact .inr (.inl (by omega))
      · exact .inr (.inr fun cur hc => by rw [hc] at ho; cases ho; cases hcc)
  · refine h7.kept hg fun k hk e => ?_
    obtain ⟨hb, cur, hc⟩ := h7.cells hk
    rcases hr k e with h | ⟨_, o, ho, hcc⟩
    · omega
    · rw [hc] at ho; cases ho; cases hcc
  · rcases hr k e with h | ⟨h, _⟩ <;> omega
end Go.Proofs.Ytbjhnfemlpbchaa
