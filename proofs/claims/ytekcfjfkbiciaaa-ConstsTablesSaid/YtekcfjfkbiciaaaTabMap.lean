/- A map of values' numbers that is asked with 'is it there'. -/
import Derived.Test.YtekcfjfkbiciaaaMapV
namespace Go.Proofs.Ytekcfjfkbiciaaa
open Go.RowKit Go.Maps

def VTab (w : World) (b n : Nat) (f : Pv → Int) (S : Pv → Bool) : Prop :=
  ∃ D : DataW Unit, w.ownsMap Try.prog 25 RN b n D ∧ (∀ v : Pv, v.fitsK → D.atKey (kv v) (.lit (.int .i64 0)) = .lit (.int .i64 (f v))) ∧ ∀ v : Pv, v.fitsK → Maps.has D (kv v) = S v
theorem VTab.made (w : World) : VTab (w.alloc (.map #[] 0)) w.heap.size 0 (fun _ => 0) (fun _ => false) := ⟨.map [], World.ownsMap_made _ _ _ _, fun _ _ => rfl, fun _ _ => rfl⟩
section
variable {w w1 : World} {b n : Nat} {S : Pv → Bool} {f : Pv → Int} {o : Option Nat}
theorem VTab.kept (h : VTab w b n f S) (k : w.grownBy w1 o) (hne : some b ≠ o) : VTab w1 b n f S := by
  obtain ⟨D, h1, h2⟩ := h
  exact ⟨D, h1.kept k hne, h2⟩
theorem VTab.grow (h : VTab w b n f S) (k : Below w.heap.size w w1) : VTab w1 b n f S := h.kept (grownBy_below k none) (by simp)
theorem VTab.lt (h : VTab w b n f S) : b < w.heap.size := by
  obtain ⟨D, h1, _⟩ := h
  exact h1.lt
theorem VTab.ne {g : Nat} {c : Array Value} {t : TypeId} {fr : Nat × Nat} (h : VTab w b n f S) (hg : w.heap[g]? = some (.cells c t fr)) : b ≠ g := by
  rintro rfl
  obtain ⟨D, ⟨es, clock, hb, _⟩, _⟩ := h
  rw [hg] at hb
  cases hb
theorem VTab.same {f' : Pv → Int} {S' : Pv → Bool} (h : VTab w b n f S) (hf : ∀ v, f v = f' v) (hS : ∀ v, S v = S' v) : VTab w b n f' S' := by
  obtain rfl : f = f' := funext hf
  obtain rfl : S = S' := funext hS
  exact h
set_option maxRecDepth 100000 in
theorem VTab.look (h : VTab w b n f S) {v : Pv} (hv : v.fitsK) : (Instr.lookup 56 (.map (some b)) (vv v) true).run Try.prog w = .ok (.tuple #[.int .i64 (f v), .bool (S v)]) w := by
  obtain ⟨D, h1, h2, h3⟩ := h
  obtain ⟨u, ps, hr, hu⟩ := h1.look_ok lawV Try.underlying56 (zeroN w) (plainElem_int Try.underlying3 (by decide)) (keyV hv)
  obtain ⟨c, rfl, hc, _⟩ := plainElem_int_inv Try.underlying3 hu
  have hat := congrArg Prod.fst hc
  dsimp only at hat
  rw [h2 v hv] at hat
  injection hat with hat
  injection hat with _ hat
  rw [hr, h3 v hv, ← hat]
set_option maxRecDepth 100000 in
theorem VTab.look1 (h : VTab w b n f S) {v : Pv} (hv : v.fitsK) : (Instr.lookup 56 (.map (some b)) (vv v) false).run Try.prog w = .ok (.int .i64 (f v)) w := by
  obtain ⟨D, h1, h2, _⟩ := h
  exact VNum.look ⟨D, h1, h2⟩ hv
end
/-- At a walk's operation: a value is given a number. -/
theorem wpList_tabPut {w : World} {ops : Array Oper} {rest : List Oper} {o : Oper} {a : Act} {Q : Exit → Act → World → Prop} (hg : o.guard = none) (m x u : Operand) (hop : o.op = Op.mapUpdate 56 m x u) (b n : Nat) (f : Pv → Int) (S : Pv → Bool) (v : Pv) (y : Int)
    (hm : a.eval m = .map (some b)) (hown : VTab w b n f S) (hn : n < maxLen) (hv : v.fitsK) (hx : a.eval x = vv v) (hu : a.eval u = .int .i64 y) (hy : I64 y)
    (hK : ∀ w', VTab w' b (n + 1) (fun x => if x = v then y else f x) (fun x => decide (x = v) || S x) → w.grownBy w' (some b) → wpList Try.prog ops Q rest (a.put o.dst undef) w') : wpList Try.prog ops Q (o :: rest) a w := by
  obtain ⟨D, h1, h2, h3⟩ := hown
  refine wpList_mapUpdate_own w hg m x u 56 hop 25 3 lawV Try.underlying56 RN b n D hm h1 hn (vv v) (.int .i64 y) (kv v) hx hu (keyV hv) (.lit (.int .i64 y)) [] (plainElem_int Try.underlying3 (wfI.2 hy)) fun w' r1 r2 => hK w' ⟨_, r1, fun x hx => ?_, fun x hx => ?_⟩ r2
  · by_cases e : x = v
    · subst e; rw [atKey_put_same h1.isMap (isKeyV x)]; simp
    · rw [atKey_put_other (fun h => e (kv_inj hx hv h)), h2 x hx]; simp [e]
  · by_cases e : x = v
    · subst e; rw [has_put_same h1.isMap (isKeyV x)]; simp
    · rw [has_put_other (fun h => e (kv_inj hx hv h)), h3 x hx]; simp [e]
end Go.Proofs.Ytekcfjfkbiciaaa
