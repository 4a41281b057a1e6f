/- The walks of layer 11: prints. -/
import Derived.Test.YtbcanoknddpmeaaDoorWalksD
import Derived.Test.YtbcanoknddpmeaaDoorStr
namespace Go.Proofs.YtbcanoknddpmeaaDoor
open Go.RowKit

/-- Two digits. -/
def Mo.two (n : Int) : List UInt8 := [UInt8.ofNat (48 + n.toNat / 10 % 10), UInt8.ofNat (48 + n.toNat % 10)]
set_option maxHeartbeats 400000 in
theorem two_any (n : Int) (w : World) (h0 : 0 ≤ n) (hn : n ≤ 9999) :
    Calls Tryd.prog 23 #[.int .i64 n] w fun e w' => e = .returned (.string (bs (Mo.two n))) ∧ Below w.heap.size w w' := by
  have hcv : (convert 50 9 (.slice (some ⟨w.heap.size, 0, none⟩) 2 2)).run Tryd.prog (w.alloc (.cells #[.int .u8 (48 + n / 10 % 10), .int .u8 (48 + n % 10)] 5)) =
      .ok (.string (bs (Mo.two n))) (w.alloc (.cells #[.int .u8 (48 + n / 10 % 10), .int .u8 (48 + n % 10)] 5)) := by
    refine run_convert_bytes_back _ _ _ 5 _ 2 (Mo.two n) Tryd.underlying50 Tryd.underlying5 Tryd.underlying9 fun j hj => ?_
    have hj' : j = 0 ∨ j = 1 := by simp [Mo.two] at hj; omega
    rcases hj' with rfl | rfl
    · simp [Mo.two, Addr.add]; omega
    · simp [Mo.two, Addr.add]; omega
  go_enter Tryd.func23, Tryd.ntmps23
  go_wp2
  go_ret
  exact ⟨rfl, (Below.refl _ _).alloc (Nat.le_refl _) _⟩

/-- A moment's print. -/
def Mo.print (d c : Int) : List UInt8 :=
  Mo.two ((1980 + d / 512) / 100) ++ Mo.two ((1980 + d / 512) % 100) ++ [45] ++ Mo.two (d / 32 % 16) ++ [45] ++ Mo.two (d % 32) ++ [32] ++ Mo.two (c / 2048) ++ [58] ++ Mo.two (c / 32 % 64) ++ [58] ++ Mo.two (c % 32 * 2)
theorem Mo.two_length (n : Int) : (Mo.two n).length = 2 := rfl

theorem Mo.print_cat (d c : Int) : bs (Mo.two ((1980 + d / 512) / 100)) ++ bs (Mo.two ((1980 + d / 512) % 100)) ++ { data := #[45] } ++ bs (Mo.two (d / 32 % 16)) ++ { data := #[45] } ++ bs (Mo.two (d % 32)) ++ { data := #[32] } ++
    bs (Mo.two (c / 2048)) ++ { data := #[58] } ++ bs (Mo.two (c / 32 % 64)) ++ { data := #[58] } ++ bs (Mo.two (c % 32 * 2)) = bs (Mo.print d c) := by
  have e1 : (⟨#[45]⟩ : ByteArray) = bs [45] := rfl
  have e2 : (⟨#[32]⟩ : ByteArray) = bs [32] := rfl
  have e3 : (⟨#[58]⟩ : ByteArray) = bs [58] := rfl
  rw [e1, e2, e3]
  simp only [bs_append]
  rfl
theorem ret_str {a b : ByteArray} (h : a = b) : Ending.returned (.string a) = .returned (.string b) := by rw [h]
set_option maxHeartbeats 4000000 in
theorem rprint_any (d c : Int) (w : World) (hd : 0 ≤ d ∧ d ≤ 65535) (hc : 0 ≤ c ∧ c ≤ 65535) :
    Calls Tryd.prog 12 #[.agg #[.int .u16 d, .int .u16 c]] w fun e w' => e = .returned (.string (bs (Mo.print d c))) ∧ Below w.heap.size w w' := by
  have HS := Lib.hid fun w => rsplit_any d c w hd hc
  have szs : ∀ n, (bs (Mo.two n)).size = 2 := fun n => rfl
  go_enter Tryd.func12, Tryd.ntmps12
  go_wp2_with (go_at_call 17; refine (HS.out _).mono ?_; rintro e w' ⟨rfl, hb⟩; have hB := Below.after ((Below.refl w.heap.size w).alloc (Nat.le_refl _) _) hb (by simp); have hz := hb.size; simp at hz; clear hb)
  refine wp_region_grow (by kernel_rfl) (by kernel_rfl) ?_
  repeat (go_big_quiet_step ((go_at_call 23; refine Gr.call (two_any _ _ ?_ ?_) <;> omega)))
  refine wpQuiet_nil ?_
  intro g1
  obtain ⟨w1, hb1⟩ := g1
  go_wp2
  go_ret
  have hB1 := hB.alloc (by omega) (.cells #[.int .i64 (1980 + d / 512), .int .i64 (d / 32 % 16), .int .i64 (d % 32), .int .i64 (c / 2048), .int .i64 (c / 32 % 64), .int .i64 (c % 32 * 2)] 32)
  exact ⟨ret_str (Mo.print_cat d c), Below.after hB1 hb1 (by simp; omega)⟩
end Go.Proofs.YtbcanoknddpmeaaDoor
