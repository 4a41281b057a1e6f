/- The walk of layer 14: the reference's small letters. -/
import Derived.Test.YtbjhnfemlpbchaaWalksA
import Derived.Laws.OwnMore
namespace Go.Proofs.Ytbjhnfemlpbchaa
open Go.RowKit

theorem low_nat (c : UInt8) : ((Ma.low c).toNat : Int) = if 65 ≤ c.toNat ∧ c.toNat ≤ 90 then (c.toNat : Int) + 32 else c.toNat := by
  unfold Ma.low
  by_cases h : 65 ≤ c.toNat ∧ c.toNat ≤ 90
  · rw [if_pos h, if_pos h, toNat_ofNat (by omega)]; omega
  · rw [if_neg h, if_neg h]
/-- 'string([]byte{c})' of a fresh block. -/
theorem one_sign (w : World) (c : UInt8) (n : Int) (hn : n = (c.toNat : Int)) : (convert 22 9 (.slice (some ⟨w.heap.size, 0, none⟩) 1 1)).run Try.prog (w.alloc (.cells #[.int .u8 n] 5)) = .ok (.string (bs [c])) (w.alloc (.cells #[.int .u8 n] 5)) := by
  subst hn
  exact run_string_of_row _ 22 9 5 w.heap.size _ [c] Try.underlying22 Try.underlying5 Try.underlying9
    (World.ownsRow_lit (base := w.heap.size) (e := 5) (size := 1) w #[.int .u8 (c.toNat : Int)] 1 (Nat.le_refl _) (by unfold maxLen; omega) rfl)

set_option maxHeartbeats 4000000 in
set_option maxRecDepth 100000 in
theorem rsmall_any (l : List UInt8) (w : World) (hl : l.length ≤ 1000000000) :
    Calls Try.prog 20 #[.string (bs l)] w fun e w' => e = .returned (.string (bs (Ma.small l))) ∧ Below w.heap.size w w' := by
  have hzl := bs_size l
  go_enter Try.func20, Try.ntmps20
  go_wp2_with fail
  go_loopw [3, 4] (fun v u wr => ∃ i : Nat, i ≤ l.length ∧ u = .int .i64 i ∧ v = .string (bs (Ma.small (l.take i))) ∧ Below w.heap.size w wr) (fun _ u _ => l.length - (intOf u).toNat)
  case atStart => exact ⟨0, Nat.zero_le _, rfl, rfl, Below.refl _ _⟩
  case round =>
    obtain ⟨i, hil, rfl, rfl, hB⟩ := hrel
    have HB := Lib.hid hB
    have hsz := hB.size
    clear hB
    by_cases h1 : i < l.length
    · obtain ⟨c, hcl⟩ : ∃ c, l[i]? = some c := ⟨_, List.getElem?_eq_getElem h1⟩
      have ic := fun x => bs_index l i c hcl .i64 i rfl x
      have hsn := Ma.small_snoc hcl
      have hcat := Lib.hid (show bs (Ma.small (l.take i)) ++ bs [Ma.low c] = bs (Ma.small (l.take (i + 1))) by rw [bs_append, hsn])
      have hz1 : (bs (Ma.small (l.take i))).size = i := by rw [bs_size]; unfold Ma.small; rw [List.length_map, List.length_take]; omega
      have hz2 : (bs [Ma.low c]).size = 1 := rfl
      have hlow := low_nat c
      have hc8 := c.toNat_lt
      clear hcl hsn
      by_cases hu : 65 ≤ c.toNat ∧ c.toNat ≤ 90
      · rw [if_pos hu] at hlow
        have q1 : decide (65 ≤ c.toNat) = true := decide_eq_true hu.1
        have r1 : decide ((65 : Int) ≤ (c.toNat : Int)) = true := decide_eq_true (by omega)
        have q2 : decide (c.toNat ≤ 90) = true := decide_eq_true hu.2
        have r2 : decide ((c.toNat : Int) ≤ 90) = true := decide_eq_true (by omega)
        have hcv := one_sign wr (Ma.low c) ((c.toNat : Int) + 32) hlow.symm
        clear hlow
        go_wp2
        go_roundw
        case rel => exact ⟨i + 1, by omega, by go_num, by rw [hcat.out], HB.out.alloc hsz _⟩
        case measure => simp [intOf]; omega
      · rw [if_neg hu] at hlow
        have hcv := one_sign wr (Ma.low c) (c.toNat : Int) hlow.symm
        by_cases h65 : 65 ≤ c.toNat
        · have q1 : decide (65 ≤ c.toNat) = true := decide_eq_true h65
          have r1 : decide ((65 : Int) ≤ (c.toNat : Int)) = true := decide_eq_true (by omega)
          have q2 : decide (c.toNat ≤ 90) = false := decide_eq_false (by omega)
          have r2 : decide ((c.toNat : Int) ≤ 90) = false := decide_eq_false (by omega)
          clear hlow hu h65
          go_wp2
          go_roundw
          case rel => exact ⟨i + 1, by omega, by go_num, by rw [hcat.out], HB.out.alloc hsz _⟩
          case measure => simp [intOf]; omega
        · have q1 : decide (65 ≤ c.toNat) = false := decide_eq_false h65
          have r1 : decide ((65 : Int) ≤ (c.toNat : Int)) = false := decide_eq_false (by omega)
          clear hlow hu h65
          go_wp2
          go_roundw
          case rel => exact ⟨i + 1, by omega, by go_num, by rw [hcat.out], HB.out.alloc hsz _⟩
          case measure => simp [intOf]; omega
    · rw [List.take_of_length_le (by omega)]
      go_wp2
      go_ret
      exact ⟨rfl, HB.out⟩
end Go.Proofs.Ytbjhnfemlpbchaa
