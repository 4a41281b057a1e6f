/- Layer 35: the law ListingApart, of a contract of fixed. -/
import Derived.Test.YtmidabbfjciogaaDoorPlainB
namespace Go.Proofs.YtmidabbfjciogaaDoor
open Go.RowKit

theorem index_bs (l : List UInt8) (i : Nat) (c : UInt8) (h : l[i]? = some c) (x : World) : (Instr.index 9 (.string (bs l)) (.int .i64 (i : Int))).run Tryd.prog x = .ok (.int .u8 (c.toNat : Int)) x := by
  obtain ⟨h1, rfl⟩ := List.getElem?_eq_some_iff.1 h
  have hz := bs_size l
  rw [run_index_string x _ _ _ _ (by kernel_rfl), dif_pos (by omega : 0 ≤ (i : Int) ∧ (i : Int) < (bs l).size)]
  rfl

set_option maxHeartbeats 4000000 in
theorem apart_core (a b : List UInt8) (w : World) (ha : a.length ≤ 300) (hb : b.length ≤ 300)
    (h0 : ∀ w', Below w.heap.size w w' → Calls Tryd.prog 5 #[] w' fun e w'' => e = .returned (.bool true) ∧ Below w'.heap.size w' w'') :
    Calls Tryd.prog 4 #[.string (bs a), .string (bs b)] w fun e w' => e = .returned (.bool true) ∧ Below w.heap.size w w' := by
  have H0 := Lib.hid h0
  have HA := Lib.hid fun w' => text_any a w' (by omega)
  have HB := Lib.hid fun w' => text_any b w' (by omega)
  have hsa := bs_size a
  have hsb := bs_size b
  have hsx := bs_size (Li.text a)
  have hxl := Li.text_len a
  have HPl := Lib.hid (text_plain a)
  clear h0
  go_enter Tryd.func4, Tryd.ntmps4
  go_wp2_with fail
  refine (H0.out _ (Below.refl _ _)).mono ?_
  rintro e w1 ⟨rfl, hb1⟩
  have J1 := Lib.hid hb1
  clear hb1
  go_wp2_with fail
  refine (HA.out _).mono ?_
  rintro e w2 ⟨rfl, hb2⟩
  have J2 := Lib.hid (Below.after' J1.out hb2 (Nat.le_refl _))
  clear hb2
  go_wp2_with fail
  go_loopw [6] (fun u wr => ∃ i : Nat, i ≤ (Li.text a).length ∧ u = .int .i64 i ∧ wr = w2) (fun u _ => (Li.text a).length - (intOf u).toNat)
  case atStart => exact ⟨0, Nat.zero_le _, rfl, rfl⟩
  case round =>
    obtain ⟨i, hi, rfl, rfl⟩ := hrel
    by_cases h1 : i < (Li.text a).length
    · have hget := List.getElem?_eq_getElem h1
      have hx := index_bs (Li.text a) i _ hget
      have hp := HPl.out _ (List.mem_of_getElem? hget)
      generalize (Li.text a)[i] = c at *
      clear hget
      go_wp2
      refine ⟨⟨i + 1, h1, rfl, trivial⟩, ?_⟩
      show (Li.text a).length - ((i : Int) + 1).toNat < (Li.text a).length - (i : Int).toNat
      omega
    · go_wp2_with fail
      refine (HB.out _).mono ?_
      rintro e w3 ⟨rfl, hb3⟩
      have J3 := Lib.hid (Below.after' J2.out hb3 (Nat.le_refl _))
      have e1 : ((bs (Li.text a)).toList == (bs (Li.text b)).toList) = decide (a = b) := by
        rw [bs_beq]
        by_cases h : a = b
        · simp [h]
        · simp [h]; exact fun e => h (text_inj e)
      have e2 : ((bs a).toList == (bs b).toList) = decide (a = b) := bs_beq a b
      clear hb3
      go_wp2
      go_ret
      exact ⟨ret_bool (by simp [e1, e2]), J3.out⟩

theorem apart_long (a b : List UInt8) (w : World) (hl : ¬ (a.length ≤ 300 ∧ b.length ≤ 300))
    (h0 : ∀ w', Below w.heap.size w w' → Calls Tryd.prog 5 #[] w' fun e w'' => e = .returned (.bool true) ∧ Below w'.heap.size w' w'') :
    Calls Tryd.prog 4 #[.string (bs a), .string (bs b)] w fun e w' => e = .returned (.bool true) ∧ Below w.heap.size w w' := by
  have H0 := Lib.hid h0
  have hsa := bs_size a
  have hsb := bs_size b
  clear h0
  by_cases h1 : (300 : Int) < a.length
  all_goals
    have h2 : (300 : Int) < a.length ∨ (300 : Int) < b.length := by omega
    go_enter Tryd.func4, Tryd.ntmps4
    go_wp2_with fail
    refine (H0.out _ (Below.refl _ _)).mono ?_
    rintro e w1 ⟨rfl, hb1⟩
    have h3 : ¬ (300 : Int) < a.length → (300 : Int) < b.length := by omega
    first | (have h4 := h3 h1) | skip
    go_wp2
    go_ret
    exact ⟨rfl, hb1⟩
theorem apart_any (a b : List UInt8) (w : World)
    (h0 : ∀ w', Below w.heap.size w w' → Calls Tryd.prog 5 #[] w' fun e w'' => e = .returned (.bool true) ∧ Below w'.heap.size w' w'') :
    Calls Tryd.prog 4 #[.string (bs a), .string (bs b)] w fun e w' => e = .returned (.bool true) ∧ Below w.heap.size w w' := by
  by_cases hl : a.length ≤ 300 ∧ b.length ≤ 300
  · exact apart_core a b w hl.1 hl.2 h0
  · exact apart_long a b w hl h0
end Go.Proofs.YtmidabbfjciogaaDoor
