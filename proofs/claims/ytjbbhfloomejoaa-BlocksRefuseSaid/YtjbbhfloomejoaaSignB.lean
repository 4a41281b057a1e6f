/- The signs: the program's and the document's. Printed by mk_signb.py. -/
import Derived.Test.YtjbbhfloomejoaaSigns
namespace Go.Proofs.Ytjbbhfloomejoaa
open Go.RowKit
theorem next_less {m i : Nat} (h : i < m) : m - (intOf (.int .i64 ((i : Int) + 1))).toNat < m - (intOf (.int .i64 (i : Int))).toNat := by
  show m - ((i : Int) + 1).toNat < m - (i : Int).toNat
  omega
/-- The greatest sign from first on, d above it at most, whose base is at most n. -/
def Bl.sg (f : Nat → Nat) (n first : Nat) : Nat → Nat
  | 0 => first
  | d + 1 => if f (first + d + 1) ≤ n then first + d + 1 else Bl.sg f n first d
theorem Bl.sg_is {f : Nat → Nat} {n first : Nat} (h0 : f first ≤ n) : ∀ d, Bl.Is f first (first + d) n (Bl.sg f n first d)
  | 0 => ⟨Nat.le_refl _, Nat.le_refl _, h0, fun s h1 h2 => by simp only [Bl.sg] at h1; omega⟩
  | d + 1 => by
    unfold Bl.sg
    split
    · rename_i h
      exact ⟨by omega, Nat.le_refl _, h, fun s h1 h2 => by omega⟩
    · rename_i h
      obtain ⟨a, b, c, e⟩ := Bl.sg_is h0 d
      refine ⟨a, by omega, c, fun s h1 h2 => ?_⟩
      by_cases hs : s = first + d + 1
      · subst hs; omega
      · exact e s h1 (by omega)
def Bl.lsg (n : Nat) : Nat := Bl.sg Bl.lenB n 257 28
def Bl.dsg (n : Nat) : Nat := Bl.sg Bl.farB n 0 29
theorem Bl.lsg_is {n : Nat} (h : 3 ≤ n) : Bl.Is Bl.lenB 257 285 n (Bl.lsg n) := Bl.sg_is (f := Bl.lenB) (first := 257) (show Bl.lenB 257 ≤ n from h) 28
theorem Bl.dsg_is {n : Nat} (h : 1 ≤ n) : Bl.Is Bl.farB 0 29 n (Bl.dsg n) := by
  have := Bl.sg_is (f := Bl.farB) (first := 0) (n := n) (show Bl.farB 0 ≤ n from h) 29
  exact this
theorem Bl.len_top : ∀ s : Fin 29, Bl.lenB (257 + s.val) ≤ 258 := by decide
theorem Bl.far_top : ∀ s : Fin 30, Bl.farB s.val ≤ 32768 := by decide
theorem Bl.len_most {s : Nat} (h : 257 ≤ s ∧ s ≤ 285) : Bl.lenB s ≤ 258 := by
  have h1 := Bl.len_top ⟨s - 257, by omega⟩
  have e : 257 + (s - 257) = s := by omega
  simp only [e] at h1
  exact h1
theorem Bl.far_most {s : Nat} (h : s ≤ 29) : Bl.farB s ≤ 32768 := Bl.far_top ⟨s, by omega⟩
theorem Bl.len_step0 : ∀ s : Fin 27, Bl.lenB (257 + s.val + 1) = Bl.lenB (257 + s.val) + 2 ^ Bl.lenX (257 + s.val) ∧ Bl.lenX (257 + s.val) ≤ 5 := by decide
theorem Bl.len_step {s : Nat} (h : 257 ≤ s ∧ s < 284) : Bl.lenB (s + 1) = Bl.lenB s + 2 ^ Bl.lenX s ∧ Bl.lenX s ≤ 5 := by
  have h1 := Bl.len_step0 ⟨s - 257, by omega⟩
  have e : 257 + (s - 257) = s := by omega
  simp only [e] at h1
  exact h1
theorem Bl.far_step0 : ∀ s : Fin 29, Bl.farB (s.val + 1) = Bl.farB s.val + 2 ^ Bl.farX s.val ∧ Bl.farX s.val ≤ 13 := by decide
theorem Bl.far_step {s : Nat} (h : s < 29) : Bl.farB (s + 1) = Bl.farB s + 2 ^ Bl.farX s ∧ Bl.farX s ≤ 13 := Bl.far_step0 ⟨s, h⟩

set_option maxHeartbeats 4000000 in
theorem rmore_any (s : Nat) (h : 257 ≤ s ∧ s ≤ 284) (w : World) : Calls Try.prog 52 #[.int .i64 (s : Nat)] w fun e w' => e = .returned (.int .i64 (Bl.lenX s : Nat)) ∧ Below w.heap.size w w' := by
  have hd : s = 257 ∨ s = 258 ∨ s = 259 ∨ s = 260 ∨ s = 261 ∨ s = 262 ∨ s = 263 ∨ s = 264 ∨ s = 265 ∨ s = 266 ∨ s = 267 ∨ s = 268 ∨ s = 269 ∨ s = 270 ∨ s = 271 ∨ s = 272 ∨ s = 273 ∨ s = 274 ∨ s = 275 ∨ s = 276 ∨ s = 277 ∨ s = 278 ∨ s = 279 ∨ s = 280 ∨ s = 281 ∨ s = 282 ∨ s = 283 ∨ s = 284 := by omega
  rcases hd with rfl | rfl | rfl | rfl | rfl | rfl | rfl | rfl | rfl | rfl | rfl | rfl | rfl | rfl | rfl | rfl | rfl | rfl | rfl | rfl | rfl | rfl | rfl | rfl | rfl | rfl | rfl | rfl <;>
  · go_enter Try.func52, Try.ntmps52
    go_wp2_with fail
    go_ret
    exact ⟨by kernel_rfl, Below.refl _ _⟩
set_option maxHeartbeats 4000000 in
theorem rfar_any (s : Nat) (h : 0 ≤ s ∧ s ≤ 29) (w : World) : Calls Try.prog 53 #[.int .i64 (s : Nat)] w fun e w' => e = .returned (.int .i64 (Bl.farX s : Nat)) ∧ Below w.heap.size w w' := by
  have hd : s = 0 ∨ s = 1 ∨ s = 2 ∨ s = 3 ∨ s = 4 ∨ s = 5 ∨ s = 6 ∨ s = 7 ∨ s = 8 ∨ s = 9 ∨ s = 10 ∨ s = 11 ∨ s = 12 ∨ s = 13 ∨ s = 14 ∨ s = 15 ∨ s = 16 ∨ s = 17 ∨ s = 18 ∨ s = 19 ∨ s = 20 ∨ s = 21 ∨ s = 22 ∨ s = 23 ∨ s = 24 ∨ s = 25 ∨ s = 26 ∨ s = 27 ∨ s = 28 ∨ s = 29 := by omega
  rcases hd with rfl | rfl | rfl | rfl | rfl | rfl | rfl | rfl | rfl | rfl | rfl | rfl | rfl | rfl | rfl | rfl | rfl | rfl | rfl | rfl | rfl | rfl | rfl | rfl | rfl | rfl | rfl | rfl | rfl | rfl <;>
  · go_enter Try.func53, Try.ntmps53
    go_wp2_with fail
    go_ret
    exact ⟨by kernel_rfl, Below.refl _ _⟩
theorem lsign_any (n : Nat) (h : 3 ≤ n ∧ n ≤ 258) (w : World) : Calls Try.prog 21 #[.int .i64 (n : Nat)] w fun e w' => e = .returned (.tuple #[.int .i64 (Bl.lsg n : Nat), .int .i64 ((n - Bl.lenB (Bl.lsg n) : Nat) : Int), .bool true]) ∧ Below w.heap.size w w' := by
  have C := Lib.hid (sought_any 47 #[] (fun _ _ => by go_simp) Bl.lenB Bl.lenX n 257 285 (by decide) (by decide) (by omega) (fun s h1 h2 => Nat.le_trans (Bl.len_most ⟨h1, h2⟩) (by decide)) (show Bl.lenB 257 ≤ n from h.1) (fun s t h1 h2 h3 => Bl.len_le h1 h2 h3) (fun s h w => length_any s h w) w)
  have IS := Lib.hid (Bl.lsg_is (n := n) h.1)
  have h1 : ¬ ((n : Int) < 3) := by omega
  have h2 : ¬ ((n : Int) > 258) := by omega
  go_enter Try.func21, Try.ntmps21
  go_wp2_with fail
  refine C.out.mono ?_
  rintro e w1 ⟨⟨r, hr, rfl⟩, hb⟩
  have hre := hr.one IS.out
  have hle := hr.2.2.1
  subst hre
  have KB := Lib.hid hb
  clear hb C hr
  go_wp2_with fail
  go_ret3
  have e1 : (n : Int) - (Bl.lenB (Bl.lsg n) : Nat) = ((n - Bl.lenB (Bl.lsg n) : Nat) : Int) := by omega
  rw [e1]
  exact ⟨rfl, KB.out⟩
theorem lsign_any_bad (n : Int) (h : n < 3 ∨ 258 < n) (w : World) : Calls Try.prog 21 #[.int .i64 n] w fun e w' => e = .returned (.tuple #[.int .i64 0, .int .i64 0, .bool false]) ∧ Below w.heap.size w w' := by
  by_cases h1 : n < 3
  · go_enter Try.func21, Try.ntmps21
    go_wp2_with fail
    go_ret3
    exact ⟨rfl, Below.refl _ _⟩
  · have h2 : n > 258 := by omega
    clear h
    go_enter Try.func21, Try.ntmps21
    go_wp2_with fail
    go_ret3
    exact ⟨rfl, Below.refl _ _⟩
theorem dsign_any (n : Nat) (h : 1 ≤ n ∧ n ≤ 32768) (w : World) : Calls Try.prog 22 #[.int .i64 (n : Nat)] w fun e w' => e = .returned (.tuple #[.int .i64 (Bl.dsg n : Nat), .int .i64 ((n - Bl.farB (Bl.dsg n) : Nat) : Int), .bool true]) ∧ Below w.heap.size w w' := by
  have C := Lib.hid (sought_any 48 #[] (fun _ _ => by go_simp) Bl.farB Bl.farX n 0 29 (by decide) (by decide) (by omega) (fun s h1 h2 => Nat.le_trans (Bl.far_most h2) (by decide)) (show Bl.farB 0 ≤ n from h.1) (fun s t h1 h2 h3 => Bl.far_le h2 h3) (fun s h w => distance_any s h w) w)
  have IS := Lib.hid (Bl.dsg_is (n := n) h.1)
  have h1 : ¬ ((n : Int) < 1) := by omega
  have h2 : ¬ ((n : Int) > 32768) := by omega
  go_enter Try.func22, Try.ntmps22
  go_wp2_with fail
  refine C.out.mono ?_
  rintro e w1 ⟨⟨r, hr, rfl⟩, hb⟩
  have hre := hr.one IS.out
  have hle := hr.2.2.1
  subst hre
  have KB := Lib.hid hb
  clear hb C hr
  go_wp2_with fail
  go_ret3
  have e1 : (n : Int) - (Bl.farB (Bl.dsg n) : Nat) = ((n - Bl.farB (Bl.dsg n) : Nat) : Int) := by omega
  rw [e1]
  exact ⟨rfl, KB.out⟩
theorem dsign_any_bad (n : Int) (h : n < 1 ∨ 32768 < n) (w : World) : Calls Try.prog 22 #[.int .i64 n] w fun e w' => e = .returned (.tuple #[.int .i64 0, .int .i64 0, .bool false]) ∧ Below w.heap.size w w' := by
  by_cases h1 : n < 1
  · go_enter Try.func22, Try.ntmps22
    go_wp2_with fail
    go_ret3
    exact ⟨rfl, Below.refl _ _⟩
  · have h2 : n > 32768 := by omega
    clear h
    go_enter Try.func22, Try.ntmps22
    go_wp2_with fail
    go_ret3
    exact ⟨rfl, Below.refl _ _⟩
set_option maxHeartbeats 4000000 in
set_option maxRecDepth 100000 in
theorem rlength_low (s : Nat) (h : 257 ≤ s ∧ s ≤ 284) (w : World) : Calls Try.prog 32 #[.int .i64 (s : Nat)] w fun e w' => e = .returned (.tuple #[.int .i64 (Bl.lenB s : Nat), .int .i64 (Bl.lenX s : Nat), .bool true]) ∧ Below w.heap.size w w' := by
  obtain ⟨h1, h2⟩ := h
  have q1 : ¬ ((s : Int) < 257) := by omega
  have q2 : ¬ ((s : Int) > 285) := by omega
  have q3 : ((s : Int) == 285) = false := beq_eq_false_iff_ne.2 (by omega)
  go_enter Try.func32, Try.ntmps32
  go_upto_region 7 with fail
  clear q1 q2 q3
  go_loopw [5, 6] (fun s5 s6 wr => ∃ t : Nat, 257 ≤ t ∧ t ≤ s ∧ s6 = .int .i64 (t : Nat) ∧ s5 = .int .i64 (Bl.lenB t : Nat) ∧ Below w.heap.size w wr) (fun _ s6 _ => s - (intOf s6).toNat)
  case atStart => exact ⟨257, Nat.le_refl _, h1, rfl, rfl, Below.refl _ _⟩
  case round =>
    obtain ⟨t, a1, a2, rfl, rfl, hK⟩ := hrel
    have K := Lib.hid hK
    clear hK
    by_cases h3 : t < s
    · as_aux_lemma =>
      obtain ⟨b1, b2⟩ := Bl.len_step (s := t) ⟨a1, by omega⟩
      have b3 := Bl.len_most (s := t) ⟨a1, by omega⟩
      have B1 := Lib.hid b1
      clear b1
      generalize Bl.lenB t = bt at B1 b3 ⊢
      have XL := Lib.hid (rfl : Bl.lenX t = Bl.lenX t)
      go_upto_region 11 with fail
      go_loopw [7, 8] (fun s7 s8 wr => ∃ i : Nat, i ≤ Bl.lenX t ∧ s8 = .int .i64 (i : Nat) ∧ s7 = .int .i64 ((2 ^ i : Nat) : Int) ∧ Below w.heap.size w wr) (fun _ s8 _ => Bl.lenX t - (intOf s8).toNat)
      case atStart => exact ⟨0, Nat.zero_le _, rfl, rfl, K.out⟩
      case round =>
        obtain ⟨i, a3, rfl, rfl, hK⟩ := hrel
        have K1 := Lib.hid hK
        have C := Lib.hid (rmore_any t ⟨a1, by omega⟩ wr)
        have p1 : 2 ^ i ≤ 2 ^ 5 := Nat.pow_le_pow_right (by decide) (by omega)
        have p2 : (2 : Nat) ^ (i + 1) = 2 ^ i * 2 := Nat.pow_succ ..
        have P2 := Lib.hid p2
        have p3 : (2 : Nat) ^ 5 = 32 := by decide
        rw [p3] at p1
        have XE := Lib.hid (rfl : Bl.lenX t = Bl.lenX t)
        clear hK K p2 p3
        generalize hx : Bl.lenX t = xt at *
        by_cases h4 : i < xt
        · as_aux_lemma =>
          generalize hy : (2 : Nat) ^ i = y at *
          go_wp2_with fail
          refine C.out.mono ?_
          rintro e w1 ⟨rfl, hb⟩
          have K2 := Lib.hid (K1.out.trans (hb.mono K1.out.size))
          clear hb C
          go_wp2_with fail
          refine ⟨⟨i + 1, h4, rfl, ?_, K2.out⟩, next_less h4⟩
          rw [P2.out]
          rfl
        · as_aux_lemma =>
          have hie : i = xt := by omega
          subst hie
          have HY := Lib.hid (show (2 : Nat) ^ i = 2 ^ Bl.lenX t by rw [hx])
          have HX := Lib.hid hx
          clear hx P2
          obtain ⟨y, HZ⟩ : ∃ y, Hid (y = (2 : Nat) ^ i) := ⟨_, Lib.hid rfl⟩
          rw [← HZ.out] at HY p1 ⊢
          go_wp2_with fail
          refine C.out.mono ?_
          rintro e w1 ⟨rfl, hb⟩
          have K2 := Lib.hid (K1.out.trans (hb.mono K1.out.size))
          clear hb C
          go_wp2_with fail
          refine ⟨⟨t + 1, by omega, h3, rfl, ?_, K2.out⟩, next_less h3⟩
          rw [B1.out, ← HZ.out]
          rfl
    · as_aux_lemma =>
      have hte : t = s := by omega
      subst hte
      have C := Lib.hid (rmore_any t ⟨a1, by omega⟩ wr)
      go_wp2_with fail
      refine C.out.mono ?_
      rintro e w1 ⟨rfl, hb⟩
      have K2 := Lib.hid (K.out.trans (hb.mono K.out.size))
      clear hb C
      go_wp2_with fail
      go_ret3
      exact ⟨rfl, K2.out⟩
set_option maxHeartbeats 4000000 in
set_option maxRecDepth 100000 in
theorem rdistance_any (s : Nat) (h : 0 ≤ s ∧ s ≤ 29) (w : World) : Calls Try.prog 34 #[.int .i64 (s : Nat)] w fun e w' => e = .returned (.tuple #[.int .i64 (Bl.farB s : Nat), .int .i64 (Bl.farX s : Nat), .bool true]) ∧ Below w.heap.size w w' := by
  obtain ⟨h1, h2⟩ := h
  have q1 : ¬ ((s : Int) < 0) := by omega
  have q2 : ¬ ((s : Int) > 29) := by omega
  have q3 : ((s : Int) == 285) = false := beq_eq_false_iff_ne.2 (by omega)
  go_enter Try.func34, Try.ntmps34
  go_upto_region 5 with fail
  clear q1 q2 q3
  go_loopw [5, 6] (fun s5 s6 wr => ∃ t : Nat, 0 ≤ t ∧ t ≤ s ∧ s6 = .int .i64 (t : Nat) ∧ s5 = .int .i64 (Bl.farB t : Nat) ∧ Below w.heap.size w wr) (fun _ s6 _ => s - (intOf s6).toNat)
  case atStart => exact ⟨0, Nat.le_refl _, h1, rfl, rfl, Below.refl _ _⟩
  case round =>
    obtain ⟨t, a1, a2, rfl, rfl, hK⟩ := hrel
    have K := Lib.hid hK
    clear hK
    by_cases h3 : t < s
    · as_aux_lemma =>
      obtain ⟨b1, b2⟩ := Bl.far_step (s := t) (by omega)
      have b3 := Bl.far_most (s := t) (by omega)
      have B1 := Lib.hid b1
      clear b1
      generalize Bl.farB t = bt at B1 b3 ⊢
      have XL := Lib.hid (rfl : Bl.farX t = Bl.farX t)
      go_upto_region 9 with fail
      go_loopw [7, 8] (fun s7 s8 wr => ∃ i : Nat, i ≤ Bl.farX t ∧ s8 = .int .i64 (i : Nat) ∧ s7 = .int .i64 ((2 ^ i : Nat) : Int) ∧ Below w.heap.size w wr) (fun _ s8 _ => Bl.farX t - (intOf s8).toNat)
      case atStart => exact ⟨0, Nat.zero_le _, rfl, rfl, K.out⟩
      case round =>
        obtain ⟨i, a3, rfl, rfl, hK⟩ := hrel
        have K1 := Lib.hid hK
        have C := Lib.hid (rfar_any t ⟨a1, by omega⟩ wr)
        have p1 : 2 ^ i ≤ 2 ^ 13 := Nat.pow_le_pow_right (by decide) (by omega)
        have p2 : (2 : Nat) ^ (i + 1) = 2 ^ i * 2 := Nat.pow_succ ..
        have P2 := Lib.hid p2
        have p3 : (2 : Nat) ^ 13 = 8192 := by decide
        rw [p3] at p1
        have XE := Lib.hid (rfl : Bl.farX t = Bl.farX t)
        clear hK K p2 p3
        generalize hx : Bl.farX t = xt at *
        by_cases h4 : i < xt
        · as_aux_lemma =>
          generalize hy : (2 : Nat) ^ i = y at *
          go_wp2_with fail
          refine C.out.mono ?_
          rintro e w1 ⟨rfl, hb⟩
          have K2 := Lib.hid (K1.out.trans (hb.mono K1.out.size))
          clear hb C
          go_wp2_with fail
          refine ⟨⟨i + 1, h4, rfl, ?_, K2.out⟩, next_less h4⟩
          rw [P2.out]
          rfl
        · as_aux_lemma =>
          have hie : i = xt := by omega
          subst hie
          have HY := Lib.hid (show (2 : Nat) ^ i = 2 ^ Bl.farX t by rw [hx])
          have HX := Lib.hid hx
          clear hx P2
          obtain ⟨y, HZ⟩ : ∃ y, Hid (y = (2 : Nat) ^ i) := ⟨_, Lib.hid rfl⟩
          rw [← HZ.out] at HY p1 ⊢
          go_wp2_with fail
          refine C.out.mono ?_
          rintro e w1 ⟨rfl, hb⟩
          have K2 := Lib.hid (K1.out.trans (hb.mono K1.out.size))
          clear hb C
          go_wp2_with fail
          refine ⟨⟨t + 1, by omega, h3, rfl, ?_, K2.out⟩, next_less h3⟩
          rw [B1.out, ← HZ.out]
          rfl
    · as_aux_lemma =>
      have hte : t = s := by omega
      subst hte
      have C := Lib.hid (rfar_any t ⟨a1, by omega⟩ wr)
      go_wp2_with fail
      refine C.out.mono ?_
      rintro e w1 ⟨rfl, hb⟩
      have K2 := Lib.hid (K.out.trans (hb.mono K.out.size))
      clear hb C
      go_wp2_with fail
      go_ret3
      exact ⟨rfl, K2.out⟩
theorem rlength_any (s : Nat) (h : 257 ≤ s ∧ s ≤ 285) (w : World) : Calls Try.prog 32 #[.int .i64 (s : Nat)] w fun e w' => e = .returned (.tuple #[.int .i64 (Bl.lenB s : Nat), .int .i64 (Bl.lenX s : Nat), .bool true]) ∧ Below w.heap.size w w' := by
  by_cases hs : s = 285
  · subst hs
    go_enter Try.func32, Try.ntmps32
    go_wp2_with fail
    go_ret3
    exact ⟨by kernel_rfl, Below.refl _ _⟩
  · exact rlength_low s ⟨h.1, by omega⟩ w
set_option maxHeartbeats 4000000 in
set_option maxRecDepth 100000 in
theorem rlsign_any (n : Nat) (h : 3 ≤ n ∧ n ≤ 258) (w : World) : Calls Try.prog 31 #[.int .i64 (n : Nat)] w fun e w' => e = .returned (.tuple #[.int .i64 (Bl.lsg n : Nat), .int .i64 ((n - Bl.lenB (Bl.lsg n) : Nat) : Int), .bool true]) ∧ Below w.heap.size w w' := by
  have IS := Lib.hid (Bl.lsg_is (n := n) h.1)
  obtain ⟨n1, n2⟩ := h
  have h1 : ¬ ((n : Int) < 3) := by omega
  have h2 : ¬ ((n : Int) > 258) := by omega
  have hb0 : Bl.lenB 257 ≤ n := n1
  go_enter Try.func31, Try.ntmps31
  go_upto_region 5 with fail
  clear h1 h2
  go_loopw [5, 6] (fun s5 s6 wr => ∃ t b : Nat, 257 ≤ t ∧ t ≤ 286 ∧ 257 ≤ b ∧ b ≤ 285 ∧ s6 = .int .i64 (t : Nat) ∧ s5 = .int .i64 (b : Nat) ∧ Bl.lenB b ≤ n ∧ (∀ s, b < s → s < t → n < Bl.lenB s) ∧ Below w.heap.size w wr) (fun _ s6 _ => 286 - (intOf s6).toNat)
  case atStart => exact ⟨257, 257, Nat.le_refl _, by decide, Nat.le_refl _, by decide, rfl, rfl, hb0, fun s h1 h2 => by omega, Below.refl _ _⟩
  case round =>
    obtain ⟨t, b, a1, a2, a3, a4, rfl, rfl, hbn, hab, hK⟩ := hrel
    have HBN := Lib.hid hbn
    have HAB := Lib.hid hab
    have K := Lib.hid hK
    clear hbn hab hK hb0
    by_cases h3 : t ≤ 285
    · as_aux_lemma =>
      have C := Lib.hid (rlength_any t ⟨a1, h3⟩ wr)
      have b3 := Bl.len_most (s := t) ⟨a1, h3⟩
      obtain ⟨bt, HBT⟩ : ∃ bt, Hid (bt = Bl.lenB t) := ⟨_, Lib.hid rfl⟩
      rw [← HBT.out] at C b3
      go_wp2_with fail
      refine C.out.mono ?_
      rintro e w1 ⟨rfl, hb⟩
      have K1 := Lib.hid (K.out.trans (hb.mono K.out.size))
      clear hb C
      by_cases h4 : bt ≤ n
      · as_aux_lemma =>
        go_wp2_with fail
        refine ⟨⟨t + 1, t, by omega, by omega, a1, h3, rfl, rfl, by rw [← HBT.out]; exact h4, fun s h5 h6 => by omega, K1.out⟩, next_less (m := 286) (by omega)⟩
      · as_aux_lemma =>
        go_wp2_with fail
        refine ⟨⟨t + 1, b, by omega, by omega, a3, a4, rfl, rfl, HBN.out, fun s h5 h6 => ?_, K1.out⟩, next_less (m := 286) (by omega)⟩
        by_cases h7 : s = t
        · subst h7
          rw [← HBT.out]
          omega
        · exact HAB.out s h5 (by omega)
    · as_aux_lemma =>
      have hbe : b = Bl.lsg n := Bl.Is.one (f := Bl.lenB) (first := 257) (last := 285) (n := n) ⟨a3, a4, HBN.out, fun s h5 h6 => HAB.out s h5 (by omega)⟩ IS.out
      have hle := HBN.out
      rw [hbe] at hle
      subst hbe
      clear HBN HAB
      have C := Lib.hid (rlength_any (Bl.lsg n) ⟨a3, a4⟩ wr)
      have e1 : (n : Int) - (Bl.lenB (Bl.lsg n) : Nat) = ((n - Bl.lenB (Bl.lsg n) : Nat) : Int) := by omega
      have E1 := Lib.hid e1
      clear e1
      have b3 : Bl.lenB (Bl.lsg n) ≤ 100000 := by omega
      go_wp2_with fail
      refine C.out.mono ?_
      rintro e w1 ⟨rfl, hb⟩
      have K1 := Lib.hid (K.out.trans (hb.mono K.out.size))
      clear hb C
      go_wp2_with fail
      go_ret3
      rw [E1.out]
      exact ⟨rfl, K1.out⟩
theorem rlsign_any_bad (n : Int) (h : n < 3 ∨ 258 < n) (w : World) : Calls Try.prog 31 #[.int .i64 n] w fun e w' => e = .returned (.tuple #[.int .i64 0, .int .i64 0, .bool false]) ∧ Below w.heap.size w w' := by
  by_cases h1 : n < 3
  · go_enter Try.func31, Try.ntmps31
    go_wp2_with fail
    go_ret3
    exact ⟨rfl, Below.refl _ _⟩
  · have h2 : n > 258 := by omega
    clear h
    go_enter Try.func31, Try.ntmps31
    go_wp2_with fail
    go_ret3
    exact ⟨rfl, Below.refl _ _⟩
set_option maxHeartbeats 4000000 in
set_option maxRecDepth 100000 in
theorem rdsign_any (n : Nat) (h : 1 ≤ n ∧ n ≤ 32768) (w : World) : Calls Try.prog 33 #[.int .i64 (n : Nat)] w fun e w' => e = .returned (.tuple #[.int .i64 (Bl.dsg n : Nat), .int .i64 ((n - Bl.farB (Bl.dsg n) : Nat) : Int), .bool true]) ∧ Below w.heap.size w w' := by
  have IS := Lib.hid (Bl.dsg_is (n := n) h.1)
  obtain ⟨n1, n2⟩ := h
  have h1 : ¬ ((n : Int) < 1) := by omega
  have h2 : ¬ ((n : Int) > 32768) := by omega
  have hb0 : Bl.farB 0 ≤ n := n1
  go_enter Try.func33, Try.ntmps33
  go_upto_region 5 with fail
  clear h1 h2
  go_loopw [5, 6] (fun s5 s6 wr => ∃ t b : Nat, 0 ≤ t ∧ t ≤ 30 ∧ 0 ≤ b ∧ b ≤ 29 ∧ s6 = .int .i64 (t : Nat) ∧ s5 = .int .i64 (b : Nat) ∧ Bl.farB b ≤ n ∧ (∀ s, b < s → s < t → n < Bl.farB s) ∧ Below w.heap.size w wr) (fun _ s6 _ => 30 - (intOf s6).toNat)
  case atStart => exact ⟨0, 0, Nat.le_refl _, by decide, Nat.le_refl _, by decide, rfl, rfl, hb0, fun s h1 h2 => by omega, Below.refl _ _⟩
  case round =>
    obtain ⟨t, b, a1, a2, a3, a4, rfl, rfl, hbn, hab, hK⟩ := hrel
    have HBN := Lib.hid hbn
    have HAB := Lib.hid hab
    have K := Lib.hid hK
    clear hbn hab hK hb0
    by_cases h3 : t ≤ 29
    · as_aux_lemma =>
      have C := Lib.hid (rdistance_any t ⟨a1, h3⟩ wr)
      have b3 := Bl.far_most (s := t) h3
      obtain ⟨bt, HBT⟩ : ∃ bt, Hid (bt = Bl.farB t) := ⟨_, Lib.hid rfl⟩
      rw [← HBT.out] at C b3
      go_wp2_with fail
      refine C.out.mono ?_
      rintro e w1 ⟨rfl, hb⟩
      have K1 := Lib.hid (K.out.trans (hb.mono K.out.size))
      clear hb C
      by_cases h4 : bt ≤ n
      · as_aux_lemma =>
        go_wp2_with fail
        refine ⟨⟨t + 1, t, by omega, by omega, a1, h3, rfl, rfl, by rw [← HBT.out]; exact h4, fun s h5 h6 => by omega, K1.out⟩, next_less (m := 30) (by omega)⟩
      · as_aux_lemma =>
        go_wp2_with fail
        refine ⟨⟨t + 1, b, by omega, by omega, a3, a4, rfl, rfl, HBN.out, fun s h5 h6 => ?_, K1.out⟩, next_less (m := 30) (by omega)⟩
        by_cases h7 : s = t
        · subst h7
          rw [← HBT.out]
          omega
        · exact HAB.out s h5 (by omega)
    · as_aux_lemma =>
      have hbe : b = Bl.dsg n := Bl.Is.one (f := Bl.farB) (first := 0) (last := 29) (n := n) ⟨a3, a4, HBN.out, fun s h5 h6 => HAB.out s h5 (by omega)⟩ IS.out
      have hle := HBN.out
      rw [hbe] at hle
      subst hbe
      clear HBN HAB
      have C := Lib.hid (rdistance_any (Bl.dsg n) ⟨a3, a4⟩ wr)
      have e1 : (n : Int) - (Bl.farB (Bl.dsg n) : Nat) = ((n - Bl.farB (Bl.dsg n) : Nat) : Int) := by omega
      have E1 := Lib.hid e1
      clear e1
      have b3 : Bl.farB (Bl.dsg n) ≤ 100000 := by omega
      go_wp2_with fail
      refine C.out.mono ?_
      rintro e w1 ⟨rfl, hb⟩
      have K1 := Lib.hid (K.out.trans (hb.mono K.out.size))
      clear hb C
      go_wp2_with fail
      go_ret3
      rw [E1.out]
      exact ⟨rfl, K1.out⟩
theorem rdsign_any_bad (n : Int) (h : n < 1 ∨ 32768 < n) (w : World) : Calls Try.prog 33 #[.int .i64 n] w fun e w' => e = .returned (.tuple #[.int .i64 0, .int .i64 0, .bool false]) ∧ Below w.heap.size w w' := by
  by_cases h1 : n < 1
  · go_enter Try.func33, Try.ntmps33
    go_wp2_with fail
    go_ret3
    exact ⟨rfl, Below.refl _ _⟩
  · have h2 : n > 32768 := by omega
    clear h
    go_enter Try.func33, Try.ntmps33
    go_wp2_with fail
    go_ret3
    exact ⟨rfl, Below.refl _ _⟩
end Go.Proofs.Ytjbbhfloomejoaa
