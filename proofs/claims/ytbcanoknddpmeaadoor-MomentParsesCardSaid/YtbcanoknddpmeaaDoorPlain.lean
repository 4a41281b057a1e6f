/- Layer 11 in plain words: days of a month, which numbers may be, a moment of numbers. No program. -/
namespace Go.Proofs.YtbcanoknddpmeaaDoor.Mo

def days (y m : Int) : Int :=
  if y < 1980 ∨ 2107 < y ∨ m < 1 ∨ 12 < m then 0
  else if m = 2 ∧ y % 4 = 0 ∧ y ≠ 2100 then 29
  else if m = 2 then 28
  else if m = 4 ∨ m = 6 ∨ m = 9 ∨ m = 11 then 30 else 31
/-- May these numbers be? -/
def ok (y m d h n s : Int) : Bool := decide (1 ≤ d) && decide (d ≤ days y m) && decide (0 ≤ h ∧ h ≤ 23) && decide (0 ≤ n ∧ n ≤ 59) && decide (0 ≤ s ∧ s ≤ 59)
theorem ok_iff (y m d h n s : Int) : ok y m d h n s = true ↔ 1 ≤ d ∧ d ≤ days y m ∧ 0 ≤ h ∧ h ≤ 23 ∧ 0 ≤ n ∧ n ≤ 59 ∧ 0 ≤ s ∧ s ≤ 59 := by
  simp [ok, and_assoc]
theorem days_le (y m : Int) : days y m ≤ 31 := by unfold days; split <;> (try split) <;> (try split) <;> (try split) <;> omega
theorem days_pos (y m : Int) (h : 0 < days y m) : 1980 ≤ y ∧ y ≤ 2107 ∧ 1 ≤ m ∧ m ≤ 12 := by
  unfold days at h; split at h <;> omega
theorem ok_bounds {y m d h n s : Int} (o : ok y m d h n s = true) : 1980 ≤ y ∧ y ≤ 2107 ∧ 1 ≤ m ∧ m ≤ 12 ∧ 1 ≤ d ∧ d ≤ 31 ∧ 0 ≤ h ∧ h ≤ 23 ∧ 0 ≤ n ∧ n ≤ 59 ∧ 0 ≤ s ∧ s ≤ 59 := by
  have := (ok_iff ..).1 o
  have := days_le y m
  have := days_pos y m (by omega)
  omega
end Go.Proofs.YtbcanoknddpmeaaDoor.Mo
