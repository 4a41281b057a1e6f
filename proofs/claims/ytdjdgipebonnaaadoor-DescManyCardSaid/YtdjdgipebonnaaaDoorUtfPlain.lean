/- Layer 15 in plain words: the units whose bytes a row is. No program. -/
import Derived.Test.YtdjdgipebonnaaaDoorStr
namespace Go.Proofs.YtdjdgipebonnaaaDoor
open Go.RowKit

def Ut.cont (l : List UInt8) (i : Nat) : Bool := match l[i]? with | some c => decide (c.toNat / 64 = 2) | none => false
def Ut.fx (l : List UInt8) (i : Nat) : Nat := match l[i]? with | some c => if c.toNat / 64 = 2 then c.toNat % 64 else 0 | none => 0
theorem Ut.fx_lt (l : List UInt8) (i : Nat) : Ut.fx l i < 64 := by
  unfold Ut.fx
  split
  · split <;> omega
  · omega
def Ut.u2 (l : List UInt8) : Nat := (l.headD 0).toNat % 32 * 64 + Ut.fx l 1
def Ut.u3 (l : List UInt8) : Nat := (l.headD 0).toNat % 16 * 4096 + Ut.fx l 1 * 64 + Ut.fx l 2
/-- A unit ahead, and how many bytes it has; none: they aren't right. -/
def Ut.next (l : List UInt8) : Nat × Nat :=
  let c := (l.headD 0).toNat
  if c ≠ 0 ∧ c < 128 then (c, 1)
  else if c / 32 = 6 then (if Ut.cont l 1 = true ∧ (Ut.u2 l = 0 ∨ 128 ≤ Ut.u2 l) then (Ut.u2 l, 2) else (0, 0))
  else if c / 16 = 14 then (if Ut.cont l 1 = true ∧ Ut.cont l 2 = true ∧ 2048 ≤ Ut.u3 l then (Ut.u3 l, 3) else (0, 0))
  else (0, 0)
theorem Ut.cont_lt {l : List UInt8} {i : Nat} (h : Ut.cont l i = true) : i < l.length := by
  unfold Ut.cont at h
  cases hi : l[i]? with
  | none => rw [hi] at h; cases h
  | some c => exact (List.getElem?_eq_some_iff.1 hi).1
theorem Ut.next_le {l : List UInt8} (h : l ≠ []) : (Ut.next l).2 ≤ l.length := by
  have hl : 0 < l.length := List.length_pos_iff.2 h
  unfold Ut.next
  dsimp only
  split
  · exact hl
  · split
    · split
      · rename_i h1; exact Ut.cont_lt h1.1
      · simp
    · split
      · split
        · rename_i h1; exact Ut.cont_lt h1.2.1
        · simp
      · simp
theorem Ut.next_u16 (l : List UInt8) : (Ut.next l).1 < 65536 := by
  have h1 := Ut.fx_lt l 1
  have h2 := Ut.fx_lt l 2
  have h0 := (l.headD 0).toNat_lt
  unfold Ut.next Ut.u2 Ut.u3
  dsimp only
  repeat' split
  all_goals (dsimp only; omega)
def Ut.unitsF : Nat → List UInt8 → Option (List Nat)
  | _, [] => some []
  | 0, _ :: _ => none
  | f + 1, c :: r => if (Ut.next (c :: r)).2 = 0 then none else (Ut.unitsF f ((c :: r).drop (Ut.next (c :: r)).2)).map ((Ut.next (c :: r)).1 :: ·)
/-- The units whose bytes a row is. -/
def Ut.units (l : List UInt8) : Option (List Nat) := Ut.unitsF l.length l
theorem Ut.unitsF_enough : ∀ (f g : Nat) (l : List UInt8), l.length ≤ f → l.length ≤ g → Ut.unitsF f l = Ut.unitsF g l
  | f, g, [], _, _ => by cases f <;> cases g <;> rfl
  | 0, _, c :: r, h, _ => by simp at h
  | f + 1, 0, c :: r, _, h => by simp at h
  | f + 1, g + 1, c :: r, h1, h2 => by
    unfold Ut.unitsF
    by_cases h0 : (Ut.next (c :: r)).2 = 0
    · rw [if_pos h0, if_pos h0]
    · rw [if_neg h0, if_neg h0, Ut.unitsF_enough f g _ (by simp at h1 ⊢; omega) (by simp at h2 ⊢; omega)]
theorem Ut.units_nil : Ut.units [] = some [] := rfl
theorem Ut.units_stop {l : List UInt8} (h : l ≠ []) (h0 : (Ut.next l).2 = 0) : Ut.units l = none := by
  cases l with
  | nil => exact absurd rfl h
  | cons c r => unfold Ut.units Ut.unitsF; simp only [List.length_cons]; rw [if_pos h0]
theorem Ut.units_step {l : List UInt8} (h : l ≠ []) (h0 : (Ut.next l).2 ≠ 0) : Ut.units l = (Ut.units (l.drop (Ut.next l).2)).map ((Ut.next l).1 :: ·) := by
  cases l with
  | nil => exact absurd rfl h
  | cons c r =>
    unfold Ut.units
    rw [Ut.unitsF_enough ((c :: r).drop (Ut.next (c :: r)).2).length r.length ((c :: r).drop (Ut.next (c :: r)).2) (Nat.le_refl _) (by simp; omega)]
    have e : Ut.unitsF (c :: r).length (c :: r) = if (Ut.next (c :: r)).2 = 0 then none else (Ut.unitsF r.length ((c :: r).drop (Ut.next (c :: r)).2)).map ((Ut.next (c :: r)).1 :: ·) := rfl
    rw [e, if_neg h0]
/-- Is a row right? -/
def Ut.right (l : List UInt8) : Bool := (Ut.units l).isSome
end Go.Proofs.YtdjdgipebonnaaaDoor
