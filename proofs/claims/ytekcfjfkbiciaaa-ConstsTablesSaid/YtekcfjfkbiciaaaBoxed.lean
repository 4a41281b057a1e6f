/- A range over a function whose loop variable is boxed anew each round (a struct), with no early end: what the caller owes. No program. -/
import Derived.RangeFuncNested
import Derived.RangeFuncBound
import Derived.RangeFuncCalls
import Derived.RangeFuncLeaves
import Derived.RangeFuncGives
import Derived.Test.YtekcfjfkbiciaaaAppend
namespace Go.Proofs.Ytekcfjfkbiciaaa
open Go.RowKit
section
variable {P : Program} {α : Type}

/-- How a round is left. -/
def boxedEnds (I : List α → World → Prop) (xs : List α) (Z : World) : Exit → Act → World → Prop
  | .normal, _, Y => KeepsOthers Z Y ∧ I xs Y
  | _, _, _ => False
/-- What is said of the world stays so while blocks that hold no cells, laid behind N, turn. -/
def CalmB (N : Nat) (I : List α → World → Prop) : Prop :=
  ∀ s X Y row, I s X → X.grownBy Y row → (∀ r, row = some r → N ≤ r ∧ ∃ o : Obj, X.heap[r]? = some o ∧ o.isCells = false) → I s Y
theorem CalmB.turn {N : Nat} {I : List α → World → Prop} (h : CalmB N I) {s : List α} {X : World} {l : Nat} {o : Obj} (o' : Obj) (hs : I s X) (hN : N ≤ l) (hl : X.heap[l]? = some o) (ho : o.isCells = false) : I s (X.putObj l o') :=
  h s X _ (some l) hs (grownBy_putObj' X l o') fun r e => by cases e; exact ⟨hN, o, hl, ho⟩
theorem walk_not_cells {o : Obj} (h : o.isWalk = true) : o.isCells = false := by cases o <;> simp_all [Obj.isWalk, Obj.isCells]

theorem wpIn_rangeBoxed {g : Operand} {ps : Array Tmp} {assign body : Code} {Q : Exit → Act → World → Prop} {a : Act} {w : World}
    {gf : Nat} {lb : Array Value} (hg : a.eval g = .func (.func gf) #[] lb) (eg : ∀ args w, (callFunc gf args).run P w = .ok (.enter gf args) w)
    {enc : α → Value} {S : List α → Prop} {N : Nat} {w0 : World} (hseq : SeqGives Fence.wide 2 P gf lb enc S N w0) (hb0 : Below w0.heap.size w0 w) (hps : ps.size = 1)
    (I : List α → World → Prop) (hI : CalmB w.heap.size I) (h0 : I [] w) (A : α → Nat → Act) (ob : α → Obj)
    (hassign : ∀ (l : Nat) (x : α) (X : World) (K : Act → World → Prop), K (A x X.heap.size) (X.alloc (ob x)) →
      assign.wpIn (Fence.wide.inRound l) 1 P (Exit.then K (fun _ _ _ => False)) { tmps := (ps.zip #[enc x]).foldl (fun t (p, v) => t.setIfInBounds p v) a.tmps, defers := [] } X)
    (hbody : ∀ (l B : Nat) (pre : List α) (x : α) (Z : World), I pre Z → pre.length < N → w.heap.size ≤ B → Z.heap[B]? = some (ob x) →
      body.wpIn (Fence.wide.inRound l) 1 P (boxedEnds I (pre ++ [x]) Z) (A x B) Z)
    (hdone : ∀ (D : Nat) (xs : List α) (X : World), w.heap.size ≤ D → S xs → I xs X → X.heap[D]? = some (.deferred (some [])) → Q .normal { a with defers := { target := .collected D, args := #[] } :: a.defers } X) :
    (Code.rangeFunc g ps assign body).wpIn Fence.wide 3 P Q a w := by
  refine wpIn_rangeFunc fun fn hfn => ?_
  let rc : LoopState → Option Code → Loop := fun st pe => { state := st, pending := pe, fn, tmps := a.tmps, params := ps, assign, body, defers := w.heap.size }
  have hsz1 : ((w.alloc (.deferred (some []))).alloc (.loop (rc .ready none))).heap.size = w.heap.size + 2 := by simp
  have hrecd : ((w.alloc (.deferred (some []))).alloc (.loop (rc .ready none))).heap[w.heap.size + 1]? = some (.loop (rc .ready none)) := by
    have := World.alloc_heap_new (w.alloc (.deferred (some []))) (.loop (rc .ready none)); rwa [World.size_alloc] at this
  have hdef : ((w.alloc (.deferred (some []))).alloc (.loop (rc .ready none))).heap[w.heap.size]? = some (.deferred (some [])) :=
    (Below.heap_alloc _ _ _ (by simp)).trans (World.alloc_heap_new w _)
  have hb1 : Below w0.heap.size w0 ((w.alloc (.deferred (some []))).alloc (.loop (rc .ready none))) :=
    (hb0.alloc hb0.size _).alloc (by have := hb0.size; simp; omega) _
  have hI1 : I [] ((w.alloc (.deferred (some []))).alloc (.loop (rc .ready none))) :=
    hI [] _ _ none (hI [] _ _ none h0 (World.grownBy_alloc w _ none) (fun r e => by cases e)) (World.grownBy_alloc _ _ none) (fun r e => by cases e)
  have hent : (Instr.enterLoop fn a.tmps ps assign body none).run P w = .ok (w.heap.size + 1, [{ target := .collected w.heap.size, args := #[] }]) ((w.alloc (.deferred (some []))).alloc (.loop (rc .ready none))) :=
    run_enterLoop_outer (P := P) (w := w) fn a.tmps ps assign body
  generalize (w.alloc (.deferred (some []))).alloc (.loop (rc .ready none)) = W1 at hsz1 hrecd hdef hb1 hI1 hent
  refine ⟨w.heap.size + 1, [{ target := .collected w.heap.size, args := #[] }], W1, { target := .fn (.func gf) lb, args := #[.func (.yield (w.heap.size + 1)) #[] #[]] }, W1, gf,
    #[.func (.yield (w.heap.size + 1)) #[] #[]] ++ lb, W1, hent, ?_, fun f' _ => trivial, ?_, fun h => absurd h (by simp [Fence.wide]), ?_⟩
  · simp only [resolve, hg]
    simp [go_sem]
  · simp [invoke, go_sem, eg]
  refine (hseq (w.heap.size + 1)
    (fun pre X => I pre X ∧ X.heap[w.heap.size + 1]? = some (.loop (rc .ready none)) ∧ X.heap[w.heap.size]? = some (.deferred (some [])))
    W1 hb1
    (fun s X Y row h hgr hrow => by
      have kk : ∀ {k : Nat} {o : Obj}, X.heap[k]? = some o → k < W1.heap.size → Y.heap[k]? = some o := fun hk hlt => (hgr.block _ (Array.getElem?_eq_some_iff.1 hk).1 (fun e => by
        have := (hrow _ e.symm).1
        omega)).trans hk
      exact ⟨hI s X Y row h.1 hgr (fun r e => by
        obtain ⟨h1, o, h2, h3⟩ := hrow r e
        exact ⟨by omega, o, h2, walk_not_cells h3⟩), kk h.2.1 (by omega), kk h.2.2 (by omega)⟩)
    ?_ ⟨hI1, hrecd, hdef⟩).mono ?_
  · -- one round
    rintro pre x X ⟨hi, hl, hk⟩ hpx
    have hlt := (Array.getElem?_eq_some_iff.1 hl).1
    have hbs : w.heap.size + 1 < X.heap.size := hlt
    have hga : X.grownBy (X.alloc (ob x)) none := World.grownBy_alloc X _ none
    have hi' : I pre (X.alloc (ob x)) := hI pre _ _ none hi hga (fun r e => by cases e)
    have hl' : (X.alloc (ob x)).heap[w.heap.size + 1]? = some (.loop (rc .ready none)) := (hga.block _ hlt (by simp)).trans hl
    have hk' : (X.alloc (ob x)).heap[w.heap.size]? = some (.deferred (some [])) := (hga.block _ (Array.getElem?_eq_some_iff.1 hk).1 (by simp)).trans hk
    have ho' : (X.alloc (ob x)).heap[X.heap.size]? = some (ob x) := World.alloc_heap_new X _
    refine ⟨fn, _, assign, body, run_yield (P := P) (args := #[enc x]) hl (by simp [rc, hps]), roundIn_of_wpIn hfn (hassign _ x X _ ⟨_, run_beginRound hl' rfl, ?_⟩)⟩
    have hlt' := (Array.getElem?_eq_some_iff.1 hl').1
    have b1 : ((X.alloc (ob x)).putObj (w.heap.size + 1) (.loop (rc .busy none))).heap[w.heap.size + 1]? = some (.loop (rc .busy none)) := World.putObj_heap_same hlt'
    have b2 : ((X.alloc (ob x)).putObj (w.heap.size + 1) (.loop (rc .busy none))).heap[w.heap.size]? = some (.deferred (some [])) := (World.putObj_heap_other (by omega)).trans hk'
    have b3 : ((X.alloc (ob x)).putObj (w.heap.size + 1) (.loop (rc .busy none))).heap[X.heap.size]? = some (ob x) := (World.putObj_heap_other (by omega)).trans ho'
    refine wpIn_mono (hbody _ X.heap.size pre x _ (hI.turn _ hi' (by omega) hl' rfl) hpx (by omega) b3) ?_
    rintro e a3 Y hp
    cases e with
    | normal =>
      obtain ⟨k1, k3⟩ := hp
      have l3 := k1.same _ _ b1 rfl
      have d3 := k1.same _ _ b2 rfl
      have l4 := World.putObj_heap_same (w := Y) (o := .loop (rc .ready none)) (Array.getElem?_eq_some_iff.1 l3).1
      refine ⟨_, _, run_endRound (P := P) none l3, rfl, ⟨hI.turn _ k3 (by omega) l3 rfl, l4, (World.putObj_heap_other (by omega)).trans d3⟩, ?_⟩
      refine ⟨?_, fun k o hk2 ho2 => ?_⟩
      · have h1 := k1.size
        have h2 := hga.size
        simp only [World.putObj_size] at h1 ⊢
        omega
      · by_cases e : k = w.heap.size + 1
        · subst e
          rw [hl] at hk2
          cases hk2
          exact l4
        · have h1 : (X.alloc (ob x)).heap[k]? = some o := (hga.block _ (Array.getElem?_eq_some_iff.1 hk2).1 (by simp)).trans hk2
          have h2 : ((X.alloc (ob x)).putObj (w.heap.size + 1) (.loop (rc .busy none))).heap[k]? = some o := (World.putObj_heap_other (by omega)).trans h1
          exact (World.putObj_heap_other (by omega)).trans (k1.same _ _ h2 (walk_not_cells ho2))
    | ret => exact hp.elim
    | exit id => exact hp.elim
    | goto t => exact hp.elim
    | panic c => exact hp.elim
    | outgrown => exact hp.elim
  · -- behind the iterator
    rintro e X ⟨⟨v, rfl⟩, xs, hS, hi, hl, hk⟩
    exact ⟨none, _, run_endLoop (P := P) hl (by simp [rc]), hdone _ _ _ (Nat.le_refl _) hS (hI.turn _ hi (by omega) hl rfl) ((World.putObj_heap_other (by omega)).trans hk)⟩
end
end Go.Proofs.Ytekcfjfkbiciaaa
