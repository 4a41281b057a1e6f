/- Maps of ints by ints that the call makes. -/
import Derived.Test.YteegpbdkalpeiaaWalksA
import Derived.Maps.OwnSet
namespace Go.Proofs.Yteegpbdkalpeiaa
open Go.RowKit Go.Maps

theorem lawI : Keyed Try.prog 3 := int_keyed Try.underlying3
theorem zeroI (w : World) : (zeroValue 3).run Try.prog w = .ok (.int .i64 0) w := by kernel_rfl
theorem keyI {x : Int} (h : I64 x) : keyOf Try.prog 3 (.int .i64 x) = some (.int .i64 x) := keyOf_int_mk Try.underlying3 (WalkArith.wf_i64 h)
noncomputable abbrev RI := plainElem (H := Unit) Try.prog 3
abbrev OMap (w : World) (b n : Nat) (D : DataW Unit) : Prop := w.ownsMap Try.prog 3 RI b n D
/-- What a map reads as: at each key a number; 0 just where it has none. -/
def MapIs (D : DataW Unit) (f : Int → Int) : Prop := (∀ k, D.atKey (.int .i64 k) (.lit (.int .i64 0)) = .lit (.int .i64 (f k))) ∧ ∀ k, Maps.has D (.int .i64 k) = decide (f k ≠ 0)
theorem MapIs.empty : MapIs (.map []) (fun _ => 0) := ⟨fun _ => rfl, fun _ => rfl⟩
theorem MapIs.put {D : DataW Unit} {f : Int → Int} (h : MapIs D f) (hD : IsMap D) (k v : Int) (hv : v ≠ 0) : MapIs (D.put (.int .i64 k) (.lit (.int .i64 v))) (fun x => if x = k then v else f x) := by
  refine ⟨fun x => ?_, fun x => ?_⟩
  · by_cases e : x = k
    · subst e; rw [atKey_put_same (k := .int .i64 x) hD (show WideAt.IsKeyLit (.int .i64 x) from trivial)]; simp
    · rw [atKey_put_other (fun h => e (by injection h)), h.1 x]; simp [e]
  · by_cases e : x = k
    · subst e; rw [has_put_same (k := .int .i64 x) hD (show WideAt.IsKeyLit (.int .i64 x) from trivial)]; simp [hv]
    · rw [has_put_other (fun h => e (by injection h)), h.2 x]; simp [e]
theorem MapIs.same {D : DataW Unit} {f g : Int → Int} (h : MapIs D f) (e : ∀ x, f x = g x) : MapIs D g := by
  have : f = g := funext e
  rw [← this]; exact h
/-- What a look-up comes to. -/
theorem look_run {w : World} {b n : Nat} {D : DataW Unit} {f : Int → Int} (h : OMap w b n D) (hm : MapIs D f) {k : Int} (hk : I64 k) : (Instr.lookup 35 (.map (some b)) (.int .i64 k) false).run Try.prog w = .ok (.int .i64 (f k)) w := by
  obtain ⟨c, hr, hat, _⟩ := h.lookup_int lawI Try.underlying35 Try.underlying3 (zeroI w) (keyI hk)
  rw [hm.1 k] at hat
  injection hat with hat
  injection hat with _ hat
  rw [hr, ← hat]
theorem OMap.keep {w w' : World} {b n : Nat} {D : DataW Unit} (h : OMap w b n D) (k : Below w.heap.size w w') : OMap w' b n D := h.kept (grownBy_below k none) (by simp)
end Go.Proofs.Yteegpbdkalpeiaa
