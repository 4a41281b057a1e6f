/- Layer 11 in plain words: a moment of numbers, and shifts and masks. No program. -/
import Derived.Test.YtbcanoknddpmeaaDoorBits
import Derived.Test.YtbcanoknddpmeaaDoorPlain
namespace Go.Proofs.YtbcanoknddpmeaaDoor.Mo
open Go.RowKit
/-- The moment of numbers (date, clock), and an error's number. -/
def join (y m d h n s : Int) : Int × Int × Int :=
  if ok y m d h n s = true then (if s % 2 = 1 then (0, 0, 2) else ((y - 1980) * 512 + m * 32 + d, h * 2048 + n * 32 + s / 2, 0)) else (0, 0, 5)

theorem or3 (i j : Nat) (a b c : Int) (p : 0 ≤ a) (q : a % 2 ^ i = 0) (r : a < 2 ^ 60) (s : 0 ≤ b) (t : b < 2 ^ i) (u : b < 2 ^ 60) (v : (a + b) % 2 ^ j = 0) (x : 0 ≤ c) (y : c < 2 ^ j) (z : c < 2 ^ 60) :
    bits .or .i64 (bits .or .i64 a b) c = a + b + c := by
  rw [i64_or i a b p q (by omega) s t (by omega), i64_or j (a + b) c (by omega) v (by omega) x y (by omega)]
theorem u16w (n : Int) (h : 0 ≤ n ∧ n < 65536) : IntKind.u16.wrap n = n := by rw [IntKind.wrap_u16]; omega
theorem join_even {y m d h n s : Int} (o : ok y m d h n s = true) (e : (s % 2 == 1) = false) :
    join y m d h n s = (IntKind.u16.wrap (bits .or .i64 (bits .or .i64 ((y - 1980) * 512) (m * 32)) d), IntKind.u16.wrap (bits .or .i64 (bits .or .i64 (h * 2048) (n * 32)) (s / 2)), 0) := by
  have bd := ok_bounds o
  have e' : ¬ s % 2 = 1 := by simpa using e
  rw [or3 9 5 _ _ _ (by omega) (by omega) (by omega) (by omega) (by omega) (by omega) (by omega) (by omega) (by omega) (by omega)]
  rw [or3 11 5 _ _ _ (by omega) (by omega) (by omega) (by omega) (by omega) (by omega) (by omega) (by omega) (by omega) (by omega)]
  rw [u16w _ (by omega), u16w _ (by omega)]
  unfold join
  rw [if_pos o, if_neg e']
theorem join_odd {y m d h n s : Int} (o : ok y m d h n s = true) (e : (s % 2 == 1) = true) : join y m d h n s = (0, 0, 2) := by
  have e' : s % 2 = 1 := by simpa using e
  unfold join
  rw [if_pos o, if_pos e']
theorem join_no {y m d h n s : Int} (o : ok y m d h n s = false) : join y m d h n s = (0, 0, 5) := by
  unfold join
  rw [if_neg (by rw [o]; decide)]
/-- The other text's way: sums and products. -/
theorem join_even' {y m d h n s : Int} (o : ok y m d h n s = true) (e : (s % 2 == 1) = false) :
    join y m d h n s = ((y - 1980) * 512 + m * 32 + d, h * 2048 + n * 32 + s / 2, 0) := by
  have e' : ¬ s % 2 = 1 := by simpa using e
  unfold join
  rw [if_pos o, if_neg e']
end Go.Proofs.YtbcanoknddpmeaaDoor.Mo
