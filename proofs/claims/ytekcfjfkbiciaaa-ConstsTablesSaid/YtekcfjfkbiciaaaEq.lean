/- Values held against each other. -/
import Derived.Test.YtekcfjfkbiciaaaWalksC
namespace Go.Proofs.Ytekcfjfkbiciaaa
open Go.RowKit

theorem Pv.eq_iff (a b : Pv) : a = b ↔ a.tag = b.tag ∧ a.text = b.text ∧ a.bits = b.bits ∧ a.cls = b.cls ∧ a.name = b.name ∧ a.desc = b.desc := by
  constructor
  · rintro rfl; exact ⟨rfl, rfl, rfl, rfl, rfl, rfl⟩
  · intro ⟨h0, h1, h2, h3, h4, h5⟩
    cases a; cases b
    simp only at h0 h1 h2 h3 h4 h5
    subst h0 h1 h2 h3 h4 h5
    rfl
set_option maxHeartbeats 1000000 in
theorem eq_val (a b : Pv) (x : World) : (Op.equalIn 10000 25 (vv a) (vv b)).run Try.prog x = .ok (decide (a = b)) x := by
  unfold vv
  have h0 : ((a.tag : Int) == b.tag) = decide (a.tag = b.tag) := by by_cases h : a.tag = b.tag <;> simp [h]
  have h1 := bs_beq a.text b.text
  have h2 : ((a.bits : Int) == (b.bits : Int)) = decide (a.bits = b.bits) := by
    by_cases h : a.bits = b.bits
    · simp [h]
    · have h' : ¬ (a.bits : Int) = (b.bits : Int) := by omega
      simp [h, h']
  have h3 := bs_beq a.cls b.cls
  have h4 := bs_beq a.name b.name
  have h5 := bs_beq a.desc b.desc
  rw [show (10000 : Nat) = 9999 + 1 from rfl]
  go_simp
  by_cases e : a = b
  · subst e; simp
  · rw [decide_eq_false e]
    rw [Pv.eq_iff] at e
    repeat' split
    all_goals first | rfl | exact absurd ⟨by assumption, by assumption, by assumption, by assumption, by assumption, by assumption⟩ e
/-- What is wrong with a value, by the program. -/
theorem chk_form (tag : Int) (text : List UInt8) (bits : Nat) (cls name desc : List UInt8) : (Pv.mk tag text bits cls name desc).chk 0 9 5 =
    if tag = 1 ∨ tag = 7 ∨ tag = 8 then (if Pv.mk 0 [] bits cls name desc = Pv.zero then 0 else 9)
    else if tag = 3 ∨ tag = 4 ∨ tag = 5 ∨ tag = 6 then (if Pv.mk 0 text 0 cls name desc = Pv.zero then (if (tag = 3 ∨ tag = 4) ∧ 4294967296 ≤ bits then 5 else 0) else 9)
    else if tag = 12 then (if Pv.mk 0 text bits cls [] [] = Pv.zero then 0 else 9)
    else if tag = 9 ∨ tag = 10 ∨ tag = 11 then (if Pv.mk 0 text bits [] [] [] = Pv.zero then 0 else 9)
    else 9 := by
  simp only [Pv.chk, Pv.zero, Pv.mk.injEq, true_and, and_true]
end Go.Proofs.Ytekcfjfkbiciaaa
