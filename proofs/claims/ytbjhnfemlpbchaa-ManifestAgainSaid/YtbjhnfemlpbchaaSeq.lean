/- A range over a function whose state lies in a cell of its own (strings.Lines): what the caller owes. No program. -/
import Derived.RangeFuncNested
import Derived.RangeFuncBound
import Derived.RangeFuncCalls
import Derived.RangeFuncLeaves
import Derived.Test.YtbjhnfemlpbchaaAppend
namespace Go.Proofs.Ytbjhnfemlpbchaa
open Go.RowKit
section
variable {P : Program}

/-- What the iterator does to the caller's world: new blocks, and its own cell's block B turned. -/
def Abide {β : Type} (B : Nat) (J : β → World → Prop) : Prop := ∀ s X Y, J s X → X.grownBy Y (some B) → J s Y
/-- The iterator: g's body, called with the loop l's yield, hands on the texts of 'all' in order, or a first part of them where a round has said no. B: the block of its cell. -/
def Hands (P : Program) (g : Nat) (lb : Array Value) (B : Nat) (encs : List UInt8 → Array Value) (all : List (List UInt8)) (W0 : World) : Prop :=
  ∀ (l : Nat) (J Jx : List (List UInt8) → World → Prop) (W : World), W.heap[B]? = W0.heap[B]? → Abide B J → Abide B Jx →
    (∀ pre x X, J pre X → pre ++ [x] <+: all → YieldAt Fence.wide 1 P l (encs x) X fun e Y =>
      (e = .returned (.bool true) ∧ J (pre ++ [x]) Y ∧ Y.heap[B]? = X.heap[B]?) ∨ (e = .returned (.bool false) ∧ Jx (pre ++ [x]) Y)) →
    J [] W →
    CallsIn Fence.wide 2 P g (#[.func (.yield l) #[] #[]] ++ lb) W fun e Y => (∃ v, e = .returned v) ∧ (J all Y ∨ ∃ pre, pre <+: all ∧ Jx pre Y)

/-- How a round may be left. -/
def roundEnds (B : Nat) (I : List (List UInt8) → World → Prop) (Ix : List (List UInt8) → World → Prop) (xs : List (List UInt8)) (X : World) : Exit → Act → World → Prop
  | .normal, _, Y => KeepsOthers X Y ∧ Y.heap[B]? = X.heap[B]? ∧ I xs Y
  | .ret, _, Y => KeepsOthers X Y ∧ Ix xs Y
  | _, _, _ => False
/-- What the caller says of its world stays so while the iterator's cell, or the loop's own blocks (behind 'N', no cells), turn. -/
def Calm (B N : Nat) (I : List (List UInt8) → World → Prop) : Prop :=
  ∀ s X Y row, I s X → X.grownBy Y row → (∀ r, row = some r → r = B ∨ (N ≤ r ∧ ∃ o : Obj, X.heap[r]? = some o ∧ o.isCells = false)) → I s Y

theorem Calm.turn {B N : Nat} {I : List (List UInt8) → World → Prop} (h : Calm B N I) {s : List (List UInt8)} {X : World} {l : Nat} {o : Obj} (o' : Obj) (hs : I s X) (hN : N ≤ l) (hl : X.heap[l]? = some o) (ho : o.isCells = false) : I s (X.putObj l o') :=
  h s X _ (some l) hs (grownBy_putObj' X l o') fun r e => by cases e; exact .inr ⟨hN, o, hl, ho⟩

theorem wpIn_rangeCell {g : Operand} {ps : Array Tmp} {assign body : Code} {Q : Exit → Act → World → Prop} {a : Act} {w : World}
    {gf : Nat} {lb : Array Value} (hg : a.eval g = .func (.func gf) #[] lb) (eg : ∀ args w, (callFunc gf args).run P w = .ok (.enter gf args) w)
    {B : Nat} (hBw : B < w.heap.size) {encs : List UInt8 → Array Value} {all : List (List UInt8)} (hseq : Hands P gf lb B encs all w) (hps : ∀ x, (encs x).size = ps.size)
    (I Ix : List (List UInt8) → World → Prop) (hI : Calm B w.heap.size I) (hIx : Calm B w.heap.size Ix) (h0 : I [] w) (a₁ : List UInt8 → Act)
    (hassign : ∀ (l : Nat) (x : List UInt8) (X : World) (K : Act → World → Prop), K (a₁ x) X →
      assign.wpIn (Fence.wide.inRound l) 1 P (Exit.then K (fun _ _ _ => False)) { tmps := (ps.zip (encs x)).foldl (fun t (p, v) => t.setIfInBounds p v) a.tmps, defers := [] } X)
    (hbody : ∀ (l : Nat) (pre : List (List UInt8)) (x : List UInt8) (X : World), I pre X → pre ++ [x] <+: all → body.wpIn (Fence.wide.inRound l) 1 P (roundEnds B I Ix (pre ++ [x]) X) (a₁ x) X)
    (hdone : ∀ (D : Nat) (X : World), w.heap.size ≤ D → I all X → X.heap[D]? = some (.deferred (some [])) → Q .normal { a with defers := { target := .collected D, args := #[] } :: a.defers } X)
    (hstop : ∀ (D : Nat) (pre : List (List UInt8)) (X : World), w.heap.size ≤ D → pre <+: all → Ix pre X → X.heap[D]? = some (.deferred (some [])) → Code.ret.wpIn Fence.wide 3 P Q { a with defers := { target := .collected D, args := #[] } :: a.defers } X) :
    (Code.rangeFunc g ps assign body).wpIn Fence.wide 3 P Q a w := by
  refine wpIn_rangeFunc fun fn hfn => ?_
  -- the loop's record, by its state and its pending jump
  let rc : LoopState → Option Code → Loop := fun st pe => { state := st, pending := pe, fn, tmps := a.tmps, params := ps, assign, body, defers := w.heap.size }
  have hsz1 : ((w.alloc (.deferred (some []))).alloc (.loop (rc .ready none))).heap.size = w.heap.size + 2 := by simp
  have hrecd : ((w.alloc (.deferred (some []))).alloc (.loop (rc .ready none))).heap[w.heap.size + 1]? = some (.loop (rc .ready none)) := by
    have := World.alloc_heap_new (w.alloc (.deferred (some []))) (.loop (rc .ready none)); rwa [World.size_alloc] at this
  have hdef : ((w.alloc (.deferred (some []))).alloc (.loop (rc .ready none))).heap[w.heap.size]? = some (.deferred (some [])) :=
    (Below.heap_alloc _ _ _ (by simp)).trans (World.alloc_heap_new w _)
  have hcellB : ((w.alloc (.deferred (some []))).alloc (.loop (rc .ready none))).heap[B]? = w.heap[B]? :=
    (Below.heap_alloc _ _ _ (by simp; omega)).trans (Below.heap_alloc _ _ _ hBw)
  have hI1 : I [] ((w.alloc (.deferred (some []))).alloc (.loop (rc .ready none))) :=
    hI [] _ _ none (hI [] _ _ none h0 (World.grownBy_alloc w _ none) (fun r e => by cases e)) (World.grownBy_alloc _ _ none) (fun r e => by cases e)
  have hent : (Instr.enterLoop fn a.tmps ps assign body none).run P w = .ok (w.heap.size + 1, [{ target := .collected w.heap.size, args := #[] }]) ((w.alloc (.deferred (some []))).alloc (.loop (rc .ready none))) :=
    run_enterLoop_outer (P := P) (w := w) fn a.tmps ps assign body
  generalize (w.alloc (.deferred (some []))).alloc (.loop (rc .ready none)) = W1 at hsz1 hrecd hdef hcellB hI1 hent
  refine ⟨w.heap.size + 1, [{ target := .collected w.heap.size, args := #[] }], W1, { target := .fn (.func gf) lb, args := #[.func (.yield (w.heap.size + 1)) #[] #[]] }, W1, gf,
    #[.func (.yield (w.heap.size + 1)) #[] #[]] ++ lb, W1, hent, ?_, fun f' _ => trivial, ?_, fun h => absurd h (by simp [Fence.wide]), ?_⟩
  · simp only [resolve, hg]
    simp [go_sem]
  · simp [invoke, go_sem, eg]
  -- what the iterator carries along: the caller's word and the two blocks of book-keeping
  have carry : ∀ {X Y : World} {k : Nat} {o : Obj}, X.heap[k]? = some o → w.heap.size ≤ k → X.grownBy Y (some B) → Y.heap[k]? = some o := fun h hk hg =>
    (hg.block _ (Array.getElem?_eq_some_iff.1 h).1 (fun e => by injection e with e; omega)).trans h
  refine (hseq (w.heap.size + 1)
    (fun pre X => I pre X ∧ X.heap[w.heap.size + 1]? = some (.loop (rc .ready none)) ∧ X.heap[w.heap.size]? = some (.deferred (some [])))
    (fun pre X => Ix pre X ∧ X.heap[w.heap.size + 1]? = some (.loop (rc .done (some .ret))) ∧ X.heap[w.heap.size]? = some (.deferred (some [])))
    W1 hcellB
    (fun s X Y h hg => ⟨hI s X Y _ h.1 hg (fun r e => by cases e; exact .inl rfl), carry h.2.1 (by omega) hg, carry h.2.2 (Nat.le_refl _) hg⟩)
    (fun s X Y h hg => ⟨hIx s X Y _ h.1 hg (fun r e => by cases e; exact .inl rfl), carry h.2.1 (by omega) hg, carry h.2.2 (Nat.le_refl _) hg⟩)
    ?_ ⟨hI1, hrecd, hdef⟩).mono ?_
  · -- one round
    rintro pre x X ⟨hi, hl, hk⟩ hpx
    have hlt := (Array.getElem?_eq_some_iff.1 hl).1
    refine ⟨fn, _, assign, body, run_yield (P := P) (args := encs x) hl (hps x), roundIn_of_wpIn hfn (hassign _ x X _ ⟨_, run_beginRound hl rfl, ?_⟩)⟩
    have b1 : (X.putObj (w.heap.size + 1) (.loop (rc .busy none))).heap[w.heap.size + 1]? = some (.loop (rc .busy none)) := World.putObj_heap_same hlt
    have b2 : (X.putObj (w.heap.size + 1) (.loop (rc .busy none))).heap[w.heap.size]? = some (.deferred (some [])) := (World.putObj_heap_other (by omega)).trans hk
    have b3 : (X.putObj (w.heap.size + 1) (.loop (rc .busy none))).heap[B]? = X.heap[B]? := World.putObj_heap_other (by omega)
    refine wpIn_mono (hbody _ pre x _ (hI.turn _ hi (by omega) hl rfl) hpx) ?_
    rintro e a3 Y hp
    cases e with
    | normal =>
      obtain ⟨k1, k2, k3⟩ := hp
      have l3 := k1.same _ _ b1 rfl
      have d3 := k1.same _ _ b2 rfl
      have l4 := World.putObj_heap_same (w := Y) (o := .loop (rc .ready none)) (Array.getElem?_eq_some_iff.1 l3).1
      refine ⟨_, _, run_endRound (P := P) none l3, .inl ⟨rfl, ⟨hI.turn _ k3 (by omega) l3 rfl, l4, (World.putObj_heap_other (by omega)).trans d3⟩, ?_⟩⟩
      exact (World.putObj_heap_other (by omega)).trans (k2.trans b3)
    | ret =>
      obtain ⟨k1, k3⟩ := hp
      have l3 := k1.same _ _ b1 rfl
      have d3 := k1.same _ _ b2 rfl
      have l4 := World.putObj_heap_same (w := Y) (o := .loop (rc .done (some .ret))) (Array.getElem?_eq_some_iff.1 l3).1
      exact ⟨_, _, run_endRound (P := P) (some .ret) l3, .inr ⟨rfl, hIx.turn _ k3 (by omega) l3 rfl, l4, (World.putObj_heap_other (by omega)).trans d3⟩⟩
    | exit id => exact hp.elim
    | goto t => exact hp.elim
    | panic c => exact hp.elim
    | outgrown => exact hp.elim
  · -- behind the iterator
    rintro e X ⟨⟨v, rfl⟩, ⟨hi, hl, hk⟩ | ⟨pre, hpre, hi, hl, hk⟩⟩
    · exact ⟨none, _, run_endLoop (P := P) hl (by simp [rc]), hdone _ _ (Nat.le_refl _) (hI.turn _ hi (by omega) hl rfl) ((World.putObj_heap_other (by omega)).trans hk)⟩
    · exact ⟨some .ret, _, run_endLoop (P := P) hl (by simp [rc]), hstop _ pre _ (Nat.le_refl _) hpre (hIx.turn _ hi (by omega) hl rfl) ((World.putObj_heap_other (by omega)).trans hk)⟩
end
end Go.Proofs.Ytbjhnfemlpbchaa
