/- The walks of layer 2's document: a number's bytes, the lowest first and the highest first, behind others. -/
import Derived.Test.YtimheacdaafodaaBig
namespace Go.Proofs.Ytimheacdaafodaa
open Go.RowKit

theorem rsize_any (n : Nat) (w : World) (hn : n = 1 ∨ n = 2 ∨ n = 4 ∨ n = 8) : Calls Try.prog 60 #[.int .i64 n] w fun e w' => e = .returned (.bool true) ∧ w' = w := by
  rcases hn with rfl | rfl | rfl | rfl <;>
  · go_enter Try.func60, Try.ntmps60
    go_wp2
    go_ret
    exact ⟨rfl, rfl⟩
theorem litB_get : ∀ {n v j : Nat}, j < n → (litB n v)[j]? = some (UInt8.ofNat (v / 256 ^ j))
  | n + 1, v, 0, _ => by simp [litB]
  | n + 1, v, j + 1, h => by
    rw [litB, List.getElem?_cons_succ, litB_get (by omega), Nat.div_div_eq_div_mul, Nat.pow_succ, Nat.mul_comm]
theorem BAt.kept {w w' : World} {A : Option Addr} {c : Nat} {l : List UInt8} {r : Option Nat} (h : BAt w A c l) (k : w.grownBy w' r) (hne : ∀ g o, A = some ⟨g, o, none⟩ → r ≠ some g) : BAt w' A c l :=
  ⟨h.1, fun hp => by
    obtain ⟨g, o, e, hg, hc⟩ := h.2 hp
    refine ⟨g, o, e, Nat.lt_of_lt_of_le hg k.size, fun j x hx => ?_⟩
    rw [← hc j x hx]
    unfold World.cell?
    rw [k.block g hg (fun e2 => hne g o e e2.symm)]⟩
theorem rem_byte (x : Nat) : (x : Int) % 256 = ((UInt8.ofNat x).toNat : Int) := by
  rw [u8_toNat]
  simp
set_option maxHeartbeats 1000000 in
set_option maxRecDepth 100000 in
theorem rlittle_any (A : Option Addr) (c : Nat) (b : List UInt8) (v n : Nat) (w : World) (hx : BAt w A c b) (hb : b.length ≤ 1000000000) (hv : v < 18446744073709551616) (hn : n = 1 ∨ n = 2 ∨ n = 4 ∨ n = 8) :
    Calls Try.prog 53 #[.slice A b.length c, .int .u64 v, .int .i64 n] w fun e w' => ∃ u, e = .returned u ∧ BRow w' w.heap.size 5 u (b ++ litB n v) ∧ Below w.heap.size w w' := by
  have HX := Lib.hid hx
  have HZ := Lib.hid (fun w => rsize_any n w hn)
  have hn8 : 1 ≤ n ∧ n ≤ 8 := by omega
  clear hx hn
  go_enter Try.func53, Try.ntmps53
  go_wp2_with (at_builtin; refine wpList_appBy rfl _ _ _ rfl w.heap.size (.slice (some ⟨_, 0, none⟩) 0 0) [] b rfl (freshB (heap_alloc_new _ _) (Nat.le_refl _)) _ rfl (HX.out.grow ((Below.refl _ _).alloc (Nat.le_refl _) _)).src (by simp; omega) (by simp) ?_; intro v1 w1 hr1 hp1)
  have HB := Lib.hid (show Below w.heap.size w w1 from Below.trans ((Below.refl _ _).alloc (Nat.le_refl _) _) (hp1.below (by simp) (fun k hk => by cases hk; simp)))
  have HR := Lib.hid (show BRow w1 w.heap.size 5 v1 b from hr1)
  clear hr1 hp1 HX
  refine (HZ.out _).mono ?_
  rintro e w2 ⟨rfl, rfl⟩
  clear HZ
  go_wp2_with fail
  go_loopw [1, 7, 8] (fun y u t wr => ∃ (i x : Nat) (l : List UInt8), i ≤ n ∧ t = .int .i64 i ∧ y = .int .u64 x ∧ x < 18446744073709551616 ∧ l ++ litB (n - i) x = b ++ litB n v ∧ BRow wr w.heap.size 5 u l ∧ Below w.heap.size w wr) (fun _ _ t _ => n - (intOf t).toNat)
  case atStart => exact ⟨0, v, b, Nat.zero_le _, rfl, rfl, hv, rfl, HR.out, HB.out⟩
  case round =>
    obtain ⟨i, x, l, hi, rfl, rfl, hxv, hl, hg, hB⟩ := hrel
    have MB := Lib.hid hB
    have MG := Lib.hid hg
    have HL := Lib.hid hl
    clear hB hg hl HR HB
    by_cases h : i < n
    · have p1 : decide ((i : Int) < (n : Int)) = true := decide_eq_true (by omega)
      obtain ⟨j, hj⟩ : ∃ j, n - i = j + 1 := ⟨n - i - 1, by omega⟩
      have hlen : l.length + (j + 1) = b.length + n := by
        have := congrArg List.length HL.out
        rw [hj] at this
        simpa [litB_len] using this
      have HL2 := Lib.hid (show (l ++ [UInt8.ofNat x]) ++ litB (n - (i + 1)) (x / 256) = b ++ litB n v by
        rw [← HL.out, hj, List.append_assoc, show n - (i + 1) = j from by omega]; rfl)
      have hbyte := Lib.hid (rem_byte x)
      have k1 := Lib.hid (fun x => (Below.refl wr.heap.size wr).alloc (Nat.le_refl _) (.cells #[.int .u8 x] 5))
      have hx2 : x / 256 < 18446744073709551616 := by omega
      go_wp2_with (at_builtin; refine wpList_appBy rfl _ _ _ rfl w.heap.size _ l [UInt8.ofNat x] rfl (MG.out.grow (k1.out _)) _ rfl (src_byte (heap_alloc_new _ _) _ hbyte.out) (by simp; omega) (Nat.le_trans MB.out.size (k1.out _).size) ?_; intro v3 w3 hr3 hp3)
      have MB3 := Lib.hid ((MB.out.trans ((k1.out _).mono MB.out.size)).trans (hp3.below (Nat.le_trans MB.out.size (k1.out _).size) (fun k hk => (World.ownsRow.lt MG.out k hk).1)))
      have HR3 := Lib.hid hr3
      clear hr3 hp3
      go_wp2_with fail
      go_roundw
      case rel => exact ⟨i + 1, x / 256, _, by omega, by go_num, by go_num, hx2, HL2.out, HR3.out, MB3.out⟩
      case measure => simp [intOf]; omega
    · obtain rfl : i = n := by omega
      have p1 : decide ((i : Int) < (i : Int)) = false := decide_eq_false (by omega)
      obtain rfl : l = b ++ litB i v := by simpa [litB] using HL.out
      go_wp2_with fail
      go_ret
      exact ⟨_, rfl, MG.out, MB.out⟩
set_option maxHeartbeats 1000000 in
set_option maxRecDepth 100000 in
theorem rbig_any (A : Option Addr) (c : Nat) (b : List UInt8) (v n : Nat) (w : World) (hx : BAt w A c b) (hb : b.length ≤ 1000000000) (hv : v < 18446744073709551616) (hn : n = 1 ∨ n = 2 ∨ n = 4 ∨ n = 8) :
    Calls Try.prog 40 #[.slice A b.length c, .int .u64 v, .int .i64 n] w fun e w' => ∃ u, e = .returned u ∧ BRow w' w.heap.size 5 u (b ++ bigB n v) ∧ Below w.heap.size w w' := by
  have HX := Lib.hid hx
  have HC := Lib.hid (fun w => rlittle_any none 0 [] v n w (BAt.nil _ _ _) (by simp) hv hn)
  have hn8 : 1 ≤ n ∧ n ≤ 8 := by omega
  clear hx hn
  go_enter Try.func40, Try.ntmps40
  go_wp2_with (at_builtin; refine wpList_appBy rfl _ _ _ rfl w.heap.size (.slice (some ⟨_, 0, none⟩) 0 0) [] b rfl (freshB (heap_alloc_new _ _) (Nat.le_refl _)) _ rfl (HX.out.grow ((Below.refl _ _).alloc (Nat.le_refl _) _)).src (by simp; omega) (by simp) ?_; intro v1 w1 hr1 hp1)
  have HB1 := Lib.hid (show Below w.heap.size w w1 from Below.trans ((Below.refl _ _).alloc (Nat.le_refl _) _) (hp1.below (by simp) (fun k hk => by cases hk; simp)))
  have HR1 := Lib.hid (show BRow w1 w.heap.size 5 v1 b from hr1)
  clear hr1 hp1 HX
  refine (HC.out _).mono ?_
  rintro e w2 ⟨u2, rfl, hr2, hb2⟩
  rw [List.nil_append] at hr2
  obtain ⟨A2, c2, rfl, hB2⟩ := hr2.at_
  rw [litB_len]
  have HB := Lib.hid (HB1.out.trans (hb2.mono HB1.out.size))
  have HR := Lib.hid (HR1.out.grow hb2)
  have HB2 := Lib.hid hB2
  have HN := Lib.hid (show ∀ g o, A2 = some ⟨g, o, none⟩ → v1.ownBlock ≠ some g from fun g o e h => by
    subst e
    have h1 := (World.ownsRow.lt HR1.out g h).2
    have h2 := (World.ownsRow.lt hr2 g rfl).1
    omega)
  clear hr2 hb2 hB2 HB1 HR1 HC
  go_wp2_with fail
  go_loopw [7, 9] (fun u t wr => ∃ (k : Nat) (l : List UInt8), k ≤ n ∧ t = .int .i64 ((k : Int) - 1) ∧ l ++ bigB k v = b ++ bigB n v ∧ BRow wr w.heap.size 5 u l ∧ BAt wr A2 c2 (litB n v) ∧ (∀ g o, A2 = some ⟨g, o, none⟩ → u.ownBlock ≠ some g) ∧ Below w.heap.size w wr) (fun _ t _ => (intOf t + 1).toNat)
  case atStart => exact ⟨n, b, Nat.le_refl _, rfl, rfl, HR.out, HB2.out, HN.out, HB.out⟩
  case round =>
    obtain ⟨k, l, hk, ht, hl, hg, hA, hne, hB⟩ := hrel
    have MB := Lib.hid hB
    have MG := Lib.hid hg
    have MA := Lib.hid hA
    have MN := Lib.hid hne
    have HL := Lib.hid hl
    clear hB hg hl hA hne HR HB HB2 HN
    cases k with
    | zero =>
      subst ht
      have p1 : decide ((0 : Int) ≤ ((0 : Nat) : Int) - 1) = false := by decide
      obtain rfl : l = b ++ bigB n v := by simpa [bigB] using HL.out
      go_wp2_with fail
      go_ret
      exact ⟨_, rfl, MG.out, MB.out⟩
    | succ j =>
      rw [show (((j + 1 : Nat) : Int) - 1) = (j : Int) from by omega] at ht
      subst ht
      have p1 : decide ((0 : Int) ≤ (j : Int)) = true := decide_eq_true (by omega)
      have p2 : decide ((j : Int) < (n : Int)) = true := decide_eq_true (by omega)
      have p3 : decide (j < n) = true := decide_eq_true (by omega)
      have hlen : l.length + (j + 1) = b.length + n := by
        have := congrArg List.length HL.out
        simpa [bigB_len] using this
      have HL2 := Lib.hid (show (l ++ [UInt8.ofNat (v / 256 ^ j)]) ++ bigB j v = b ++ bigB n v by
        rw [← HL.out, List.append_assoc]; rfl)
      obtain ⟨g, o, x, rfl, hgs, hx, hc⟩ := MA.out.at_ (i := j) (by rw [litB_len]; omega)
      rw [litB_get (by omega)] at hx
      cases hx
      have k1 := Lib.hid (fun x => (Below.refl wr.heap.size wr).alloc (Nat.le_refl _) (.cells #[.int .u8 x] 5))
      generalize UInt8.ofNat (v / 256 ^ j) = y at *
      go_wp2_with (at_builtin; refine wpList_appBy rfl _ _ _ rfl w.heap.size _ l [y] rfl (MG.out.grow (k1.out _)) _ rfl (src_byte (heap_alloc_new _ _) _ rfl) (by simp; omega) (Nat.le_trans MB.out.size (k1.out _).size) ?_; intro v3 w3 hr3 hp3)
      have MB3 := Lib.hid ((MB.out.trans ((k1.out _).mono MB.out.size)).trans (hp3.below (Nat.le_trans MB.out.size (k1.out _).size) (fun k hk => (World.ownsRow.lt MG.out k hk).1)))
      have HR3 := Lib.hid hr3
      have MA3 := Lib.hid ((MA.out.grow (k1.out _)).kept hp3.1 (fun g o e => MN.out g o e))
      have MN3 := Lib.hid (show ∀ g' o', some (⟨g, o, none⟩ : Addr) = some ⟨g', o', none⟩ → v3.ownBlock ≠ some g' from fun g' o' e h => by
        cases e
        rcases hp3.2 with h2 | ⟨q, hq, h2⟩
        · exact MN.out g o rfl (h2.symm.trans h)
        · rw [h2] at h
          cases h
          have := (k1.out y.toNat).size
          omega)
      clear hr3 hp3 hc
      go_wp2_with fail
      go_roundw
      case rel => exact ⟨j, _, by omega, by go_num, HL2.out, HR3.out, MA3.out, MN3.out, MB3.out⟩
      case measure => simp [intOf]
end Go.Proofs.Ytimheacdaafodaa
