/- A table: a box with thirteen rows of values and a map. -/
import Derived.Test.YtekcfjfkbiciaaaTabMap
import Derived.Test.YtekcfjfkbiciaaaTab
namespace Go.Proofs.Ytekcfjfkbiciaaa
open Go.RowKit Go.Maps

def TBox (w : World) (b : Nat) (us : Nat → Value) (m : Nat) : Prop := ∃ cs : Array Value, w.heap[b]? = some (.cells cs 58 (0, 0)) ∧ cs.size = 14 ∧ (∀ t, t < 13 → cs[t]? = some (us t)) ∧ cs[13]? = some (.map (some m))
section
variable {w w1 : World} {b m : Nat} {us : Nat → Value}
theorem TBox.lt (h : TBox w b us m) : b < w.heap.size := by
  obtain ⟨cs, h1, _⟩ := h
  exact (Array.getElem?_eq_some_iff.1 h1).1
theorem TBox.keep {B : Nat} (h : TBox w b us m) (k : Below B w w1) (hb : b < B) : TBox w1 b us m := by
  obtain ⟨cs, h1, h2⟩ := h
  exact ⟨cs, (k.block b hb).trans h1, h2⟩
theorem TBox.kept {o : Option Nat} (h : TBox w b us m) (k : w.grownBy w1 o) (hne : some b ≠ o) : TBox w1 b us m := by
  have hl := h.lt
  obtain ⟨cs, h1, h2⟩ := h
  exact ⟨cs, (k.block b hl hne).trans h1, h2⟩
theorem TBox.cell (h : TBox w b us m) {t : Nat} (ht : t < 13) : w.cell? ⟨b, t, none⟩ = some (us t) := by
  obtain ⟨cs, h1, _, h3, _⟩ := h
  exact ((blk_facts h1).1 t).trans (h3 t ht)
theorem TBox.map (h : TBox w b us m) : w.cell? ⟨b, 13, none⟩ = some (.map (some m)) := by
  obtain ⟨cs, h1, _, _, h4⟩ := h
  exact ((blk_facts h1).1 13).trans h4
theorem TBox.frozen (h : TBox w b us m) (t : Nat) : w.frozen? ⟨b, t, none⟩ = false := by
  obtain ⟨cs, h1, _⟩ := h
  exact (blk_facts h1).2 t
theorem TBox.set (h : TBox w b us m) {t : Nat} (ht : t < 13) (v : Value) : TBox (w.setCell ⟨b, t, none⟩ v) b (fun k => if k = t then v else us k) m := by
  obtain ⟨cs, h1, h2, h3, h4⟩ := h
  refine ⟨cs.setIfInBounds t v, ?_, by simpa using h2, fun k hk => ?_, ?_⟩
  · simp [World.setCell, Array.getElem?_modify, h1]
  · rw [Array.getElem?_setIfInBounds]
    by_cases e : k = t
    · subst e
      rw [if_pos rfl, if_pos (by omega)]
      dsimp only
      rw [if_pos rfl]
    · rw [if_neg (fun h => e h.symm)]
      dsimp only
      rw [if_neg e]
      exact h3 k hk
  · rw [Array.getElem?_setIfInBounds, if_neg (by omega)]
    exact h4
theorem TBox.turned (h : TBox w b us m) (t : Nat) (v : Value) : w.grownBy (w.setCell ⟨b, t, none⟩ v) (some b) := by
  obtain ⟨cs, h1, _⟩ := h
  rw [setCell_eq_setRow w b t cs 58 (0, 0) v h1]
  exact ⟨rfl, rfl, rfl, by simp, fun k _ hne => setRow_other w b k _ (fun hh => hne (by rw [hh]))⟩
/-- A row of values is not the box. -/
theorem TBox.apart {x : World} {base : Nat} {u : Value} {xs : List Pv} (h : TBox w b us m) (hr : VRow x base u xs) (hx : x.heap[b]? = w.heap[b]?) : some b ≠ u.ownBlock := by
  obtain ⟨cs, h1, _⟩ := h
  exact own_ne hr (hx.trans h1) (by decide)
end
/-- The table: its rows and its numbers. -/
structure TabS (x : World) (base b m n : Nat) (us : Nat → Value) (R : Nat → List Pv) (f : Pv → Int) (S : Pv → Bool) : Prop where
  box : TBox x b us m
  rows : ∀ t, t < 13 → VRow x base (us t) (R t)
  apart : ∀ s t, s < 13 → t < 13 → s ≠ t → ∀ k, (us s).ownBlock = some k → (us t).ownBlock ≠ some k
  num : VTab x m n f S
  hb : base ≤ b
  hm : base ≤ m
section
variable {x y : World} {base b m n : Nat} {us : Nat → Value} {R : Nat → List Pv} {f : Pv → Int} {S : Pv → Bool}
theorem TabS.grow (h : TabS x base b m n us R f S) (k : Below x.heap.size x y) : TabS y base b m n us R f S :=
  ⟨h.box.keep k h.box.lt, fun t ht => (h.rows t ht).grow k, h.apart, h.num.grow k, h.hb, h.hm⟩
theorem TabS.mne (h : TabS x base b m n us R f S) : m ≠ b := by
  obtain ⟨cs, h1, _⟩ := h.box
  exact h.num.ne h1
/-- The map turns: one value more. -/
theorem TabS.nums (h : TabS x base b m n us R f S) {f' : Pv → Int} {S' : Pv → Bool} {n' : Nat} (hn : VTab y m n' f' S') (hg : x.grownBy y (some m)) : TabS y base b m n' us R f' S' := by
  refine ⟨h.box.kept hg (fun e => h.mne (Option.some.inj e).symm), fun t ht => (h.rows t ht).kept hg (fun k hk e => ?_), h.apart, hn, h.hb, h.hm⟩
  cases e
  obtain ⟨D, ⟨es, clock, hb, _⟩, _⟩ := h.num
  rcases (h.rows t ht).2 with ⟨e1, _⟩ | ⟨g, cap, cur, e1, _, hg2, _⟩
  · rw [e1] at hk; cases hk
  · rw [e1] at hk
    cases hk
    rw [hb] at hg2
    cases hg2
/-- A row turns, and is stored anew. -/
theorem TabS.put (h : TabS x base b m n us R f S) {t : Nat} (ht : t < 13) {v : Value} {xs : List Pv} (hr : VRow y base v (R t ++ xs)) (hp : Hop x y (us t).ownBlock v.ownBlock) :
    TabS (y.setCell ⟨b, t, none⟩ v) base b m n (fun k => if k = t then v else us k) (fun k => if k = t then R t ++ xs else R k) f S := by
  have hbr : some b ≠ (us t).ownBlock := h.box.apart (h.rows t ht) rfl
  have hby : TBox y b us m := h.box.kept hp.1 hbr
  have hbv : some b ≠ v.ownBlock := hby.apart hr rfl
  have hlt : ∀ s, s < 13 → ∀ k, (us s).ownBlock = some k → k < x.heap.size := fun s hs k hk => (World.ownsRow.lt (h.rows s hs) k hk).2
  have hmr : some m ≠ (us t).ownBlock := fun e => by
    obtain ⟨D, ⟨es, clock, hb, _⟩, _⟩ := h.num
    rcases (h.rows t ht).2 with ⟨e1, _⟩ | ⟨g, cap, cur, e1, _, hg2, _⟩
    · rw [e1] at e; cases e
    · rw [e1] at e
      cases e
      rw [hb] at hg2
      cases hg2
  refine ⟨hby.set ht v, fun s hs => ?_, fun s s' hs hs' hne k hk e => ?_, ?_, h.hb, h.hm⟩
  · by_cases e : s = t
    · subst e
      rw [if_pos rfl, if_pos rfl]
      exact hr.kept (hby.turned s v) (fun k hk e => by cases e; exact hbv hk.symm)
    · rw [if_neg e, if_neg e]
      have h1 : VRow y base (us s) (R s) := (h.rows s hs).kept hp.1 (fun k hk e2 => h.apart s t hs ht e k hk e2)
      exact h1.kept (hby.turned t v) (fun k hk e2 => by
        cases e2
        exact h.box.apart (h.rows s hs) rfl hk.symm)
  · have new : ∀ s, s < 13 → s ≠ t → ∀ k, v.ownBlock = some k → (us s).ownBlock ≠ some k := fun s hs hst k hk e => by
      rcases hp.2 with h2 | ⟨g, hg, h2⟩
      · exact h.apart s t hs ht hst k e (h2 ▸ hk)
      · rw [h2] at hk
        cases hk
        have := hlt s hs _ e
        omega
    by_cases e1 : s = t
    · by_cases e2 : s' = t
      · exact hne (e1.trans e2.symm)
      · rw [if_pos e1] at hk
        rw [if_neg e2] at e
        exact new s' hs' e2 k hk e
    · by_cases e2 : s' = t
      · rw [if_neg e1] at hk
        rw [if_pos e2] at e
        exact new s hs e1 k e hk
      · rw [if_neg e1] at hk
        rw [if_neg e2] at e
        exact h.apart s s' hs hs' hne k hk e
  · exact (h.num.kept hp.1 hmr).kept (hby.turned t v) (fun e => h.mne (Option.some.inj e))
end
end Go.Proofs.Ytekcfjfkbiciaaa
