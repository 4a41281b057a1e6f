/- The walks of layer 9: signs. Printed by mk_signs.py. -/
import Derived.Test.YtjbbhfloomejoaaOrder
import Derived.Test.YtjbbhfloomejoaaInts
import Derived.Test.YtjbbhfloomejoaaPlain
import Derived.OwnWalk
import Derived.OneCell
import Derived.Lib.Hide
import Derived.Deep.Cut
import Derived.WalkSmall
import Derived.Deep.QuietTactic
import Derived.BigQuiet
import Derived.WalkKit
namespace Go.Proofs.Ytjbbhfloomejoaa
open Go.RowKit

set_option maxHeartbeats 4000000 in
theorem length_any (s : Nat) (h : 257 ≤ s ∧ s ≤ 285) (w : World) : Calls Try.prog 47 #[.int .i64 (s : Nat)] w fun e w' => e = .returned (.tuple #[.int .i64 (Bl.lenB s : Nat), .int .i64 (Bl.lenX s : Nat), .bool true]) ∧ Below w.heap.size w w' := by
  have hd : s = 257 ∨ s = 258 ∨ s = 259 ∨ s = 260 ∨ s = 261 ∨ s = 262 ∨ s = 263 ∨ s = 264 ∨ s = 265 ∨ s = 266 ∨ s = 267 ∨ s = 268 ∨ s = 269 ∨ s = 270 ∨ s = 271 ∨ s = 272 ∨ s = 273 ∨ s = 274 ∨ s = 275 ∨ s = 276 ∨ s = 277 ∨ s = 278 ∨ s = 279 ∨ s = 280 ∨ s = 281 ∨ s = 282 ∨ s = 283 ∨ s = 284 ∨ s = 285 := by omega
  rcases hd with rfl | rfl | rfl | rfl | rfl | rfl | rfl | rfl | rfl | rfl | rfl | rfl | rfl | rfl | rfl | rfl | rfl | rfl | rfl | rfl | rfl | rfl | rfl | rfl | rfl | rfl | rfl | rfl | rfl <;>
  · go_enter Try.func47, Try.ntmps47
    go_wp2_with fail
    go_ret3
    exact ⟨by kernel_rfl, Below.refl _ _⟩
set_option maxHeartbeats 4000000 in
theorem distance_any (s : Nat) (h : 0 ≤ s ∧ s ≤ 29) (w : World) : Calls Try.prog 48 #[.int .i64 (s : Nat)] w fun e w' => e = .returned (.tuple #[.int .i64 (Bl.farB s : Nat), .int .i64 (Bl.farX s : Nat), .bool true]) ∧ Below w.heap.size w w' := by
  have hd : s = 0 ∨ s = 1 ∨ s = 2 ∨ s = 3 ∨ s = 4 ∨ s = 5 ∨ s = 6 ∨ s = 7 ∨ s = 8 ∨ s = 9 ∨ s = 10 ∨ s = 11 ∨ s = 12 ∨ s = 13 ∨ s = 14 ∨ s = 15 ∨ s = 16 ∨ s = 17 ∨ s = 18 ∨ s = 19 ∨ s = 20 ∨ s = 21 ∨ s = 22 ∨ s = 23 ∨ s = 24 ∨ s = 25 ∨ s = 26 ∨ s = 27 ∨ s = 28 ∨ s = 29 := by omega
  rcases hd with rfl | rfl | rfl | rfl | rfl | rfl | rfl | rfl | rfl | rfl | rfl | rfl | rfl | rfl | rfl | rfl | rfl | rfl | rfl | rfl | rfl | rfl | rfl | rfl | rfl | rfl | rfl | rfl | rfl | rfl <;>
  · go_enter Try.func48, Try.ntmps48
    go_wp2_with fail
    go_ret3
    exact ⟨by kernel_rfl, Below.refl _ _⟩
set_option maxHeartbeats 4000000 in
set_option maxRecDepth 100000 in
theorem sought_any (f : Nat) (cap : Array Value) (eg : ∀ args x, (callFunc f args).run Try.prog x = .ok (.enter f args) x) (B X : Nat → Nat) (n first last : Nat) (hfl : first ≤ last) (hl : last ≤ 1000) (hn : n ≤ 100000) (hB : ∀ s, first ≤ s → s ≤ last → B s ≤ 100000) (h0 : B first ≤ n)
    (hr : ∀ s t, first ≤ s → s ≤ t → t ≤ last → B s ≤ B t)
    (hc : ∀ s, first ≤ s ∧ s ≤ last → ∀ w, Calls Try.prog f (#[.int .i64 (s : Nat)] ++ cap) w fun e w' => e = .returned (.tuple #[.int .i64 (B s : Nat), .int .i64 (X s : Nat), .bool true]) ∧ Below w.heap.size w w') (w : World) :
    Calls Try.prog 46 #[.int .i64 (n : Nat), .int .i64 (first : Nat), .int .i64 (last : Nat), .func (.func f) #[] cap] w fun e w' => (∃ r, Bl.Is B first last n r ∧ e = .returned (.tuple #[.int .i64 (r : Nat), .int .i64 ((n : Int) - (B r : Nat))])) ∧ Below w.heap.size w w' := by
  have HC := Lib.hid hc
  have HR := Lib.hid hr
  have HB := Lib.hid hB
  clear hc hr hB
  go_enter Try.func46, Try.ntmps46
  go_upto_region 2 with fail
  go_loopw [10, 11] (fun s10 s11 wr => ∃ lo hi : Nat, first ≤ lo ∧ lo ≤ hi ∧ hi ≤ last ∧ s10 = .int .i64 (lo : Nat) ∧ s11 = .int .i64 (hi : Nat) ∧ B lo ≤ n ∧ (∀ s, hi < s → s ≤ last → n < B s) ∧ Below w.heap.size w wr) (fun s10 s11 _ => (intOf s11).toNat - (intOf s10).toNat)
  case atStart => exact ⟨first, last, Nat.le_refl _, hfl, Nat.le_refl _, rfl, rfl, h0, fun s h1 h2 => by omega, Below.refl _ _⟩
  case round =>
    obtain ⟨lo, hi, a1, a2, a3, rfl, rfl, hlo, hhi, hK⟩ := hrel
    have K := Lib.hid hK
    have HLO := Lib.hid hlo
    have HHI := Lib.hid hhi
    clear hlo hhi hK
    by_cases h1 : lo < hi
    · as_aux_lemma =>
      obtain ⟨mid, hmid⟩ : ∃ mid : Nat, mid = (lo + hi + 1) / 2 := ⟨_, rfl⟩
      have m1 : lo < mid := by omega
      have m2 : mid ≤ hi := by omega
      have hb1 := HB.out mid (by omega) (by omega)
      have HQ := Lib.hid (show ((lo : Int) + (hi : Int) + 1) / 2 = (mid : Nat) by omega)
      have C := Lib.hid (HC.out mid ⟨by omega, by omega⟩ wr)
      go_wp2_with fail
      rw [HQ.out]
      refine C.out.mono ?_
      rintro e w1 ⟨rfl, hb⟩
      have K1 := Lib.hid (K.out.trans (hb.mono K.out.size))
      clear hb C
      go_wp2_with fail
      · have h2 : B mid ≤ n := by rename_i h; rw [hmid]; exact h
        rw [HQ.out]
        refine ⟨⟨mid, hi, by omega, m2, a3, rfl, rfl, h2, HHI.out, K1.out⟩, ?_⟩
        show hi - mid < hi - lo
        omega
      · have h2 : ¬ B mid ≤ n := by rename_i h; rw [hmid]; exact h
        rw [HQ.out]
        refine ⟨⟨lo, mid - 1, a1, by omega, by omega, rfl, by congr 1; omega, HLO.out, fun s h3 h4 => ?_, K1.out⟩, ?_⟩
        · have := HR.out mid s (by omega) (by omega) h4
          omega
        · show ((mid : Int) - 1).toNat - lo < hi - lo
          omega
    · as_aux_lemma =>
      have he : hi = lo := by omega
      subst he
      have C := Lib.hid (HC.out hi ⟨a1, a3⟩ wr)
      have hb1 := HB.out hi a1 a3
      have IS := Lib.hid (show Bl.Is B first last n hi from ⟨a1, a3, HLO.out, HHI.out⟩)
      go_wp2_with fail
      refine C.out.mono ?_
      rintro e w1 ⟨rfl, hb⟩
      have K1 := Lib.hid (K.out.trans (hb.mono K.out.size))
      clear hb C
      go_wp2_with fail
      go_ret2
      exact ⟨⟨hi, IS.out, rfl⟩, K1.out⟩
end Go.Proofs.Ytjbbhfloomejoaa
