/- Layer 14 in plain words: names, values, small letters, folds. No program. -/
import Derived.Test.YtbjhnfemlpbchaaStr
namespace Go.Proofs.Ytbjhnfemlpbchaa
open Go.RowKit

def Ma.letter (c : UInt8) : Bool := (97 ≤ c.toNat && c.toNat ≤ 122) || (65 ≤ c.toNat && c.toNat ≤ 90) || (48 ≤ c.toNat && c.toNat ≤ 57)
/-- What may stand in a name at a place. -/
def Ma.signOk (first : Bool) (c : UInt8) : Bool := Ma.letter c || (!first && (c.toNat == 95 || c.toNat == 45))
def Ma.signs : Bool → List UInt8 → Bool
  | _, [] => true
  | f, c :: l => Ma.signOk f c && Ma.signs false l
def Ma.name (l : List UInt8) : Bool := Ma.signs true l && decide (1 ≤ l.length) && decide (l.length ≤ 70)
def Ma.badSign (c : UInt8) : Bool := c.toNat == 0 || c.toNat == 10 || c.toNat == 13
def Ma.value (l : List UInt8) : Bool := l.all fun c => !Ma.badSign c
def Ma.low (c : UInt8) : UInt8 := if 65 ≤ c.toNat ∧ c.toNat ≤ 90 then UInt8.ofNat (c.toNat + 32) else c
def Ma.small (l : List UInt8) : List UInt8 := l.map Ma.low
/-- The first i signs may be. -/
theorem Ma.signs_take (l : List UInt8) : ∀ i, Ma.signs true l = (Ma.signs true (l.take i) && Ma.signs (i == 0) (l.drop i)) := by
  have aux : ∀ (l : List UInt8) (i : Nat) (f : Bool), Ma.signs f l = (Ma.signs f (l.take i) && Ma.signs (f && (i == 0)) (l.drop i)) := by
    intro l
    induction l with
    | nil => intro i f; cases i <;> simp [Ma.signs]
    | cons c l ih =>
      intro i f
      cases i with
      | zero => simp [Ma.signs]
      | succ i =>
        have := ih i false
        simp only [Bool.false_and] at this
        simp [Ma.signs, this, Bool.and_assoc]
  intro i
  have := aux l i true
  simpa using this
theorem Ma.value_take {l : List UInt8} {i : Nat} {c : UInt8} (h : l[i]? = some c) : Ma.value (l.take (i + 1)) = (Ma.value (l.take i) && !Ma.badSign c) := by
  obtain ⟨h1, rfl⟩ := List.getElem?_eq_some_iff.1 h
  unfold Ma.value
  rw [List.take_succ_eq_append_getElem h1, List.all_append]
  simp
theorem Ma.value_bad {l : List UInt8} {i : Nat} {c : UInt8} (h : l[i]? = some c) (hb : Ma.badSign c = true) : Ma.value l = false := by
  unfold Ma.value
  rw [Bool.eq_false_iff]
  intro ha
  have := List.all_eq_true.1 ha c (List.mem_of_getElem? h)
  rw [hb] at this
  cases this
theorem Ma.small_snoc {l : List UInt8} {i : Nat} {c : UInt8} (h : l[i]? = some c) : Ma.small (l.take (i + 1)) = Ma.small (l.take i) ++ [Ma.low c] := by
  obtain ⟨h1, rfl⟩ := List.getElem?_eq_some_iff.1 h
  unfold Ma.small
  rw [List.take_succ_eq_append_getElem h1, List.map_append]
  rfl
end Go.Proofs.Ytbjhnfemlpbchaa
