/- The walks of layer 15's reference: bytes of units. -/
import Derived.Test.YtdjdgipebonnaaaDoorUtfUnits
namespace Go.Proofs.YtdjdgipebonnaaaDoor
open Go.RowKit

theorem infoU8 : (Tryd.prog.info? 5).map (fun i => (i.zero, i.size, i.bytes)) = some (some (.int .u8 0), 1, 1) := by kernel_rfl
/-- A unit's bytes. -/
def Ut.bytes1 (n : Nat) : List UInt8 :=
  if 1 ≤ n ∧ n < 128 then [UInt8.ofNat n] else if n < 2048 then [UInt8.ofNat (192 + n / 64), UInt8.ofNat (128 + n % 64)] else [UInt8.ofNat (224 + n / 4096), UInt8.ofNat (128 + n / 64 % 64), UInt8.ofNat (128 + n % 64)]

set_option maxHeartbeats 8000000 in
set_option maxRecDepth 100000 in
/-- The bytes of one unit. -/
theorem bytes1_any (bk : Nat) (n : Nat) (w : World) (hn : n < 65536) (hb : w.cell? ⟨bk, 0, none⟩ = some (.int .u16 (n : Int))) (_hbk : bk < w.heap.size) :
    Calls Tryd.prog 56 #[.slice (some ⟨bk, 0, none⟩) 1 1] w fun e w' => e = .returned (.string (bs (Ut.bytes1 n))) ∧ Below w.heap.size w w' := by
  obtain ⟨i0, hi, hz0, hz1, hz2⟩ := info_parts infoU8
  have cs : (1 ≤ n ∧ n < 128 ∧ Hid (Ut.bytes1 n = [UInt8.ofNat n])) ∨ (¬ (1 ≤ n ∧ n < 128) ∧ n < 2048 ∧ Hid (Ut.bytes1 n = [UInt8.ofNat (192 + n / 64), UInt8.ofNat (128 + n % 64)])) ∨
      (¬ (1 ≤ n ∧ n < 128) ∧ ¬ n < 2048 ∧ Hid (Ut.bytes1 n = [UInt8.ofNat (224 + n / 4096), UInt8.ofNat (128 + n / 64 % 64), UInt8.ofNat (128 + n % 64)])) := by
    by_cases h1 : 1 ≤ n ∧ n < 128
    · exact .inl ⟨h1.1, h1.2, Lib.hid (by unfold Ut.bytes1; rw [if_pos h1])⟩
    · by_cases h2 : n < 2048
      · exact .inr (.inl ⟨h1, h2, Lib.hid (by unfold Ut.bytes1; rw [if_neg h1, if_pos h2])⟩)
      · exact .inr (.inr ⟨h1, h2, Lib.hid (by unfold Ut.bytes1; rw [if_neg h1, if_neg h2])⟩)
  rcases cs with ⟨c1, c2, hE⟩ | ⟨c1, c2, hE⟩ | ⟨c1, c2, hE⟩
  · have d1 : decide ((1 : Int) ≤ n) = true := decide_eq_true (by omega)
    have d2 : decide ((n : Int) < 128) = true := decide_eq_true (by omega)
    have e1 : (UInt8.ofNat n).toNat = n := toNat_ofNat (by omega)
    go_enter Tryd.func56, Tryd.ntmps56
    go_wp2_with fail
    refine wp_loop_rounds 2 ?_
    rw [rounds_succ]
    go_wp2_with (at_builtin; (refine wpList_append_row rfl _ _ 67 67 rfl w.heap.size 5 i0 (.int .u8 0) 1 1 Tryd.underlying67 hi hz0 hz1 hz2 rfl (.slice none 0 0) 0 [] rfl (World.ownsRow_nil _ _ _ _) (.slice (some ⟨w.heap.size, 0, none⟩) 1 1) 1 [.int .u8 (n : Int)] rfl ?_ ?c0 ?c1 ?c2 ?c3))
    case c0 => exact src_block Tryd.underlying67 1 1 1 _ #[.int .u8 (n : Int)] _ _ (heap_alloc_new _ _) rfl (by simp [Value.oneCell'])
    case c1 => unfold maxLen; omega
    case c2 => omega
    case c3 => rw [World.size_alloc]; omega
    intro v' w2 hown hhop
    have HB := Lib.hid (((Below.refl w.heap.size w).alloc (Nat.le_refl _) (.cells #[.int .u8 (n : Int)] 5)).trans (hhop.below (by rw [World.size_alloc]; omega) (fun k e => by simp [Value.ownBlock] at e)))
    have HR : BRow w2 w.heap.size 5 v' (Ut.bytes1 n) := by
      rw [hE.out]
      unfold BRow cb
      simp only [List.map_cons, List.map_nil, e1, List.length_cons, List.length_nil]; push_cast; simpa using hown
    have hs := HR.string (P := Tryd.prog) 67 9 5 Tryd.underlying67 Tryd.underlying5 Tryd.underlying9
    clear hown hhop HR
    go_wp2_with fail
    rw [rounds_succ]
    go_wp2_with fail
    go_ret
    exact ⟨rfl, HB.out⟩
  · have d1 : decide ((1 : Int) ≤ n) = false ∨ (decide ((1 : Int) ≤ n) = true ∧ decide ((n : Int) < 128) = false) := by simp; omega
    have d3 : decide ((n : Int) < 2048) = true := decide_eq_true (by omega)
    have e1 : (UInt8.ofNat (192 + n / 64)).toNat = 192 + n / 64 := toNat_ofNat (by omega)
    have e2 : (UInt8.ofNat (128 + n % 64)).toNat = 128 + n % 64 := toNat_ofNat (by omega)
    rcases d1 with d1 | ⟨d1, d2⟩
    all_goals
      go_enter Tryd.func56, Tryd.ntmps56
      go_wp2_with fail
      refine wp_loop_rounds 2 ?_
      rw [rounds_succ]
      go_wp2_with (at_builtin; (refine wpList_append_row rfl _ _ 67 67 rfl w.heap.size 5 i0 (.int .u8 0) 1 1 Tryd.underlying67 hi hz0 hz1 hz2 rfl (.slice none 0 0) 0 [] rfl (World.ownsRow_nil _ _ _ _) (.slice (some ⟨w.heap.size, 0, none⟩) 2 2) 2 [.int .u8 (192 + n / 64 : Int), .int .u8 (128 + n % 64 : Int)] rfl ?_ ?c0 ?c1 ?c2 ?c3))
      case c0 => exact src_block Tryd.underlying67 1 2 2 _ #[.int .u8 (192 + n / 64 : Int), .int .u8 (128 + n % 64 : Int)] _ _ (heap_alloc_new _ _) rfl (by simp [Value.oneCell'])
      case c1 => unfold maxLen; omega
      case c2 => omega
      case c3 => rw [World.size_alloc]; omega
      intro v' w2 hown hhop
      have HB := Lib.hid (((Below.refl w.heap.size w).alloc (Nat.le_refl _) (.cells #[.int .u8 (192 + n / 64 : Int), .int .u8 (128 + n % 64 : Int)] 5)).trans (hhop.below (by rw [World.size_alloc]; omega) (fun k e => by simp [Value.ownBlock] at e)))
      have HR : BRow w2 w.heap.size 5 v' (Ut.bytes1 n) := by
        rw [hE.out]
        unfold BRow cb
        simp only [List.map_cons, List.map_nil, e1, e2, List.length_cons, List.length_nil]; push_cast; simpa using hown
      have hs := HR.string (P := Tryd.prog) 67 9 5 Tryd.underlying67 Tryd.underlying5 Tryd.underlying9
      clear hown hhop HR
      go_wp2_with fail
      rw [rounds_succ]
      go_wp2_with fail
      go_ret
      exact ⟨rfl, HB.out⟩
  · have d1 : decide ((1 : Int) ≤ n) = true := decide_eq_true (by omega)
    have d2 : decide ((n : Int) < 128) = false := decide_eq_false (by omega)
    have d3 : decide ((n : Int) < 2048) = false := decide_eq_false (by omega)
    have e1 : (UInt8.ofNat (224 + n / 4096)).toNat = 224 + n / 4096 := toNat_ofNat (by omega)
    have e2 : (UInt8.ofNat (128 + n / 64 % 64)).toNat = 128 + n / 64 % 64 := toNat_ofNat (by omega)
    have e3 : (UInt8.ofNat (128 + n % 64)).toNat = 128 + n % 64 := toNat_ofNat (by omega)
    go_enter Tryd.func56, Tryd.ntmps56
    go_wp2_with fail
    refine wp_loop_rounds 2 ?_
    rw [rounds_succ]
    go_wp2_with (at_builtin; (refine wpList_append_row rfl _ _ 67 67 rfl w.heap.size 5 i0 (.int .u8 0) 1 1 Tryd.underlying67 hi hz0 hz1 hz2 rfl (.slice none 0 0) 0 [] rfl (World.ownsRow_nil _ _ _ _) (.slice (some ⟨w.heap.size, 0, none⟩) 3 3) 3 [.int .u8 (224 + n / 4096 : Int), .int .u8 (128 + n / 64 % 64 : Int), .int .u8 (128 + n % 64 : Int)] rfl ?_ ?c0 ?c1 ?c2 ?c3))
    case c0 => exact src_block Tryd.underlying67 1 3 3 _ #[.int .u8 (224 + n / 4096 : Int), .int .u8 (128 + n / 64 % 64 : Int), .int .u8 (128 + n % 64 : Int)] _ _ (heap_alloc_new _ _) rfl (by simp [Value.oneCell'])
    case c1 => unfold maxLen; omega
    case c2 => omega
    case c3 => rw [World.size_alloc]; omega
    intro v' w2 hown hhop
    have HB := Lib.hid (((Below.refl w.heap.size w).alloc (Nat.le_refl _) (.cells #[.int .u8 (224 + n / 4096 : Int), .int .u8 (128 + n / 64 % 64 : Int), .int .u8 (128 + n % 64 : Int)] 5)).trans (hhop.below (by rw [World.size_alloc]; omega) (fun k e => by simp [Value.ownBlock] at e)))
    have HR : BRow w2 w.heap.size 5 v' (Ut.bytes1 n) := by
      rw [hE.out]
      unfold BRow cb
      simp only [List.map_cons, List.map_nil, e1, e2, e3, List.length_cons, List.length_nil]; push_cast; simpa using hown
    have hs := HR.string (P := Tryd.prog) 67 9 5 Tryd.underlying67 Tryd.underlying5 Tryd.underlying9
    clear hown hhop HR
    go_wp2_with fail
    rw [rounds_succ]
    go_wp2_with fail
    go_ret
    exact ⟨rfl, HB.out⟩
end Go.Proofs.YtdjdgipebonnaaaDoor
