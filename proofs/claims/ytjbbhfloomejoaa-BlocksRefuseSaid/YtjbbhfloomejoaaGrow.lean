/- Regions that draw their order and whose calls may make memory: one walk in the order of the text, at the class of worlds in which all that stood at the region's head is as it was. No program. -/
import Derived.WalkKit
import Derived.WalkSpells
import Derived.WalkLawsBesides
import Derived.BigQuiet
namespace Go.Proofs.Ytjbbhfloomejoaa
open Go.RowKit

/-- A world in which all blocks of 'w' are as they were. -/
def Gr (w : World) : Type := { w' : World // Below w.heap.size w w' }
instance Gr.some (w : World) : Nonempty (Gr w) := ⟨⟨w, Below.refl _ _⟩⟩
@[go_sem] theorem Gr.cell {w : World} (g : Gr w) (b o : Nat) (h : b < w.heap.size) : g.1.cell? ⟨b, o, none⟩ = w.cell? ⟨b, o, none⟩ := g.2.cell (p := ⟨b, o, none⟩) h
@[go_sem] theorem Gr.frozen {w : World} (g : Gr w) (b o : Nat) (h : b < w.heap.size) : g.1.frozen? ⟨b, o, none⟩ = w.frozen? ⟨b, o, none⟩ := g.2.frozen (p := ⟨b, o, none⟩) h
theorem Gr.size {w : World} (g : Gr w) : w.heap.size ≤ g.1.heap.size := g.2.size
theorem Gr.call {P : Program} {f : FuncId} {args : Array Value} {w : World} {g : Gr w} {v : Value}
    (h : Calls P f args g.1 fun e w' => e = .returned v ∧ Below g.1.heap.size g.1 w') :
    Calls P f args g.1 fun e w' => e = .returned v ∧ ∃ k : Gr w, w' = k.1 :=
  h.mono fun _ w' ⟨he, hb⟩ => ⟨he, ⟨w', g.2.trans (hb.mono g.size)⟩, rfl⟩
theorem Gr.same {P : Program} {f : FuncId} {args : Array Value} {w : World} {g : Gr w} {v : Value}
    (h : Calls P f args g.1 fun e w' => e = .returned v ∧ g.1 = w') :
    Calls P f args g.1 fun e w' => e = .returned v ∧ ∃ k : Gr w, w' = k.1 :=
  h.mono fun _ _ ⟨he, hb⟩ => ⟨he, g, hb.symm⟩
theorem Gr.drew {P : Program} {f : FuncId} {args : Array Value} {w : World} {g : Gr w} {v : Value}
    (h : Calls P f args g.1 fun e w' => e = .returned v ∧ ∃ n, w' = g.1.drewN n) :
    Calls P f args g.1 fun e w' => e = .returned v ∧ ∃ k : Gr w, w' = k.1 :=
  h.mono fun _ w' ⟨he, n, hb⟩ => ⟨he, ⟨w', by rw [hb]; exact below_drewN g.2 n⟩, rfl⟩
theorem wp_region_grow {P : Program} {id : Nat} {Q : Exit → Act → World → Prop} {a : Act} {w : World} {l : List Oper} (hm : P.follows .mixedOrders = true) (hB : Region.lexB .any l.toArray = true)
    (h : wpQuiet P l.toArray (fun w' => ∃ g : Gr w, w' = g.1) (fun a' => ∀ g : Gr w, Q .normal a' g.1) l a) : (Code.region id l.toArray true).wp P Q a w := by
  refine wp_region_quiet (C := fun w' => ∃ g : Gr w, w' = g.1) hm hB ⟨⟨w.drew, (Below.refl _ _).drew⟩, rfl⟩ ?_
  have e : (fun a' => ∀ w', (∃ g : Gr w, w' = g.1) → Q .normal a' w') = fun a' => ∀ g : Gr w, Q .normal a' g.1 := by
    funext a'; apply propext; exact ⟨fun H g => H _ ⟨g, rfl⟩, fun H w' ⟨g, hg⟩ => hg ▸ H g⟩
  rw [e]; simpa using h

theorem Below.after {B : Nat} {a w w' : World} (h : Below B a w) (k : Below w.heap.size w w') (hB : B ≤ w.heap.size) : Below B a w' := h.trans (k.mono hB)
theorem Below.after' {B : Nat} {a w w' : World} (h : Below B a w) (k : Below w.heap.size w w') (hB : B ≤ a.heap.size) : Below B a w' := h.trans (k.mono (Nat.le_trans hB h.size))
theorem Below.alloc' {B : Nat} {a w : World} (h : Below B a w) (hB : B ≤ a.heap.size) (o : Obj) : Below B a (w.alloc o) := h.alloc (Nat.le_trans hB h.size) o
/-- A store into the block that was laid behind 'w'. -/
theorem Below.setNew {B : Nat} {a w w1 : World} (h : Below B a w) (hB : B ≤ a.heap.size) (h1 : Below B a w1) (o : Nat) (u : Value) : Below B a (w1.setCell ⟨w.heap.size, o, none⟩ u) := h1.setCell (p := ⟨w.heap.size, o, none⟩) (Nat.le_trans hB h.size) u
theorem ret_int {k : IntKind} {a b : Int} (h : a = b) : Ending.returned (.int k a) = .returned (.int k b) := by rw [h]
theorem ret_bool {a b : Bool} (h : a = b) : Ending.returned (.bool a) = .returned (.bool b) := by rw [h]
theorem bcell {W w1 : World} (hb : Below W.heap.size W w1) : (∀ b o, b < W.heap.size → w1.cell? ⟨b, o, none⟩ = W.cell? ⟨b, o, none⟩) ∧ (∀ b o, b < W.heap.size → w1.frozen? ⟨b, o, none⟩ = W.frozen? ⟨b, o, none⟩) :=
  ⟨fun b o h => hb.cell (p := ⟨b, o, none⟩) h, fun b o h => hb.frozen (p := ⟨b, o, none⟩) h⟩
theorem calls_below {P : Program} {f : FuncId} {args : Array Value} {w : World} {v : Value} (h : Calls P f args w fun e w' => e = .returned v ∧ w = w') :
    Calls P f args w fun e w' => e = .returned v ∧ Below w.heap.size w w' := h.mono fun _ _ ⟨he, hb⟩ => ⟨he, hb ▸ Below.refl _ _⟩
end Go.Proofs.Ytjbbhfloomejoaa
