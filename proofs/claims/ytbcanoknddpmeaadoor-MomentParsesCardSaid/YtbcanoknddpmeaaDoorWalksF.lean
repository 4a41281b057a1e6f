/- The walks of layer 11: a number of digits. -/
import Derived.Test.YtbcanoknddpmeaaDoorWalksE
namespace Go.Proofs.YtbcanoknddpmeaaDoor
open Go.RowKit

/-- A number's digits. -/
def Mo.digit (b : UInt8) : Bool := decide (48 ≤ b.toNat ∧ b.toNat ≤ 57)
def Mo.numL : List UInt8 → Int := List.foldl (fun n b => n * 10 + ((b.toNat : Int) - 48)) 0
/-- What digits tell; -1: there is another sign. -/
def Mo.num (l : List UInt8) : Int := if l.all Mo.digit then Mo.numL l else -1
theorem Mo.numL_snoc (l : List UInt8) (b : UInt8) : Mo.numL (l ++ [b]) = Mo.numL l * 10 + ((b.toNat : Int) - 48) := by simp [Mo.numL]
theorem Mo.numL_from : ∀ (l : List UInt8) (a : Int), 0 ≤ a → l.all Mo.digit = true → 0 ≤ l.foldl (fun n b => n * 10 + ((b.toNat : Int) - 48)) a ∧ l.foldl (fun n b => n * 10 + ((b.toNat : Int) - 48)) a + 1 ≤ (a + 1) * 10 ^ l.length
  | [], a, ha, _ => by simp; exact ha
  | b :: l, a, ha, h => by
    rw [List.all_cons, Bool.and_eq_true] at h
    have hb : 48 ≤ b.toNat ∧ b.toNat ≤ 57 := of_decide_eq_true h.1
    have ih := Mo.numL_from l (a * 10 + ((b.toNat : Int) - 48)) (by omega) h.2
    rw [List.foldl_cons, List.length_cons, Int.pow_succ]
    refine ⟨ih.1, Int.le_trans ih.2 ?_⟩
    have hp : (0 : Int) ≤ 10 ^ l.length := Int.pow_nonneg (by decide)
    have h2 : (a * 10 + ((b.toNat : Int) - 48) + 1) * 10 ^ l.length ≤ ((a + 1) * 10) * 10 ^ l.length := Int.mul_le_mul_of_nonneg_right (by omega) hp
    rw [Int.mul_assoc (a + 1) 10, Int.mul_comm 10] at h2
    exact h2
theorem Mo.numL_le (l : List UInt8) (h : l.all Mo.digit = true) (hl : l.length ≤ 4) : 0 ≤ Mo.numL l ∧ Mo.numL l ≤ 9999 := by
  have := Mo.numL_from l 0 (Int.le_refl _) h
  have hp : (10 : Int) ^ l.length ≤ 10 ^ 4 := by
    have : (10 : Nat) ^ l.length ≤ 10 ^ 4 := Nat.pow_le_pow_right (by decide) hl
    exact_mod_cast this
  unfold Mo.numL
  omega
theorem take_snoc (s : ByteArray) (k : Nat) (h : k < s.size) : s.data.toList.take (k + 1) = s.data.toList.take k ++ [s[k]] := by
  rw [List.take_succ_eq_append_getElem (by simpa using h)]; rfl
theorem iter_below (w : World) (s : ByteArray) (k : Nat) : Below w.heap.size w (w.iter s k) := (Below.refl _ _).alloc (Nat.le_refl _) _
theorem Mo.all_take {l : List UInt8} {k : Nat} {b : UInt8} (h : l[k]? = some b) (hb : Mo.digit b = false) : l.all Mo.digit = false := by
  rw [List.all_eq_false]
  exact ⟨b, List.mem_of_getElem? h, by rw [hb]; decide⟩

set_option maxHeartbeats 1000000 in
theorem number_any (s : ByteArray) (w : World) (hs : s.size ≤ 4) :
    Calls Tryd.prog 22 #[.string s] w fun e w' => e = .returned (.int .i64 (Mo.num s.data.toList)) ∧ Below w.heap.size w w' := by
  have hmax : s.size ≤ 9223372036854775807 := by omega
  go_enter Tryd.func22, Tryd.ntmps22
  go_wp2
  go_loopw [3] (fun n wr => ∃ k : Nat, k ≤ s.size ∧ (s.data.toList.take k).all Mo.digit = true ∧ n = .int .i64 (Mo.numL (s.data.toList.take k)) ∧ wr = w.iter s k) (fun _ wr => s.size - wr.iterPos w.heap.size)
  case atStart => exact ⟨0, Nat.zero_le _, rfl, rfl, rfl⟩
  case round =>
    obtain ⟨k, hk, hall, rfl, rfl⟩ := hrel
    have hbd := Mo.numL_le _ hall (by have := List.length_take_le k s.data.toList; omega)
    have hall' := Lib.hid hall
    clear hall
    by_cases hlt : k < s.size
    · have hgk : s.data.toList[k]? = some s[k] := by rw [List.getElem?_eq_getElem (by rwa [size_toList])]; rfl
      have HG := Lib.hid hgk
      clear hgk
      by_cases ha : (s[k]'hlt).toNat < 128
      · have hnx := fun ty => run_next_ascii (P := Tryd.prog) w s k ty hlt ha
        by_cases hd1 : 48 ≤ ((s[k]'hlt).toNat : Int)
        · by_cases hd2 : ((s[k]'hlt).toNat : Int) ≤ 57
          · have hsn := Lib.hid (take_snoc s k hlt)
            have hN := Lib.hid (Mo.numL_snoc (s.data.toList.take k) s[k])
            go_wp2
            refine ⟨⟨k + 1, by omega, ?_, ?_, rfl⟩, by simp; omega⟩
            · rw [hsn.out, List.all_append, hall'.out]; simp [Mo.digit]; omega
            · rw [hsn.out, hN.out]
          · have hno := Lib.hid (show Mo.num s.data.toList = -1 by unfold Mo.num; rw [Mo.all_take HG.out (by simp [Mo.digit]; omega)]; rfl)
            go_wp2
            go_ret
            exact ⟨ret_int hno.out.symm, iter_below _ _ _⟩
        · have hno := Lib.hid (show Mo.num s.data.toList = -1 by unfold Mo.num; rw [Mo.all_take HG.out (by simp [Mo.digit]; omega)]; rfl)
          go_wp2
          go_ret
          exact ⟨ret_int hno.out.symm, iter_below _ _ _⟩
      · have hno := Lib.hid (show Mo.num s.data.toList = -1 by unfold Mo.num; rw [Mo.all_take HG.out (by simp [Mo.digit]; omega)]; rfl)
        have hdh := (decode_high s k hlt (by omega)).1
        have hnx := fun ty => run_next_any (P := Tryd.prog) w s k ty hlt
        generalize Utf8.decode s k = r at *
        go_wp2
        go_ret
        exact ⟨ret_int hno.out.symm, iter_below _ _ _⟩
    · have hnx := fun ty => run_next_end (P := Tryd.prog) w s k ty hlt
      have hfin := Lib.hid (show Mo.num s.data.toList = Mo.numL (s.data.toList.take k) by
        have e : s.data.toList.take k = s.data.toList := List.take_of_length_le (by rw [size_toList]; omega)
        have h1 := hall'.out
        rw [e] at h1 ⊢
        unfold Mo.num
        rw [h1]; rfl)
      go_wp2
      go_ret
      exact ⟨ret_int hfin.out.symm, iter_below _ _ _⟩
end Go.Proofs.YtbcanoknddpmeaaDoor
