/- blocks.head, bitio's Bytes; Reverse at nought; no tokens; Stored at nil. -/
import Derived.Test.YtjbbhfloomejoaaWrA
namespace Go.Proofs.Ytjbbhfloomejoaa
open Go.RowKit
/-- Behind so many bits of a number. -/
def wv (V L v k : Nat) : Nat := V + v % 2 ^ k * 2 ^ L
set_option maxHeartbeats 1000000 in
theorem head_any (kind : Nat) (last : Bool) (hk : kind < 4) (x : World) (base b : Nat) (u : Value) (V L : Nat) (h : Wr x base b u V L) (hL : L ≤ 10000000000) :
    Calls Try.prog 24 #[.pointer (some ⟨b, 0, none⟩), .int .u32 (kind : Nat), .bool last] x fun e y => e = .returned (.tuple #[]) ∧ ∃ u', Wr y base b u' (wv (wv V L (if last then 1 else 0) 1) (L + 1) kind 2) (L + 3) ∧ WFrm x y b u.ownBlock u'.ownBlock := by
  cases last with
  | true =>
    have C := Lib.hid (wput_any 1 1 (by decide) (by decide) x base b u V L h (by omega))
    clear h
    go_enter Try.func24, Try.ntmps24
    go_wp2_with fail
    refine C.out.mono ?_
    rintro e y ⟨rfl, u1, h1, f1⟩
    have D := Lib.hid (wput_any kind 2 (by omega) (by decide) y base b u1 _ _ h1 (by omega))
    have F1 := Lib.hid f1
    clear h1 f1 C
    go_wp2_with fail
    refine D.out.mono ?_
    rintro e z ⟨rfl, u2, h2, f2⟩
    have W2 := Lib.hid h2
    have F2 := Lib.hid (F1.out.trans f2)
    clear h2 f2 D F1
    go_wp2_with fail
    go_end0
    exact ⟨rfl, u2, W2.out, F2.out⟩
  | false =>
    have C := Lib.hid (wput_any 0 1 (by decide) (by decide) x base b u V L h (by omega))
    clear h
    go_enter Try.func24, Try.ntmps24
    go_wp2_with fail
    refine C.out.mono ?_
    rintro e y ⟨rfl, u1, h1, f1⟩
    have D := Lib.hid (wput_any kind 2 (by omega) (by decide) y base b u1 _ _ h1 (by omega))
    have F1 := Lib.hid f1
    clear h1 f1 C
    go_wp2_with fail
    refine D.out.mono ?_
    rintro e z ⟨rfl, u2, h2, f2⟩
    have W2 := Lib.hid h2
    have F2 := Lib.hid (F1.out.trans f2)
    clear h2 f2 D F1
    go_wp2_with fail
    go_end0
    exact ⟨rfl, u2, W2.out, F2.out⟩
theorem BRow.at2 {w : World} {base : Nat} {v : Value} {l : List UInt8} (h : BRow w base 5 v l) : ∃ A c, v = .slice A l.length c ∧ BAt w A c l ∧ (A = none → c = 0) := by
  obtain ⟨A, c, rfl, ha⟩ := h.at_
  refine ⟨A, c, rfl, ha, fun e => ?_⟩
  subst e
  rcases h.2 with ⟨e, _⟩ | ⟨g, cap, cur, e, _⟩
  · injection e with q1 q2 q3
  · injection e with q1 q2 q3
    cases q1
theorem Bt.last (V L : Nat) (h : L % 8 ≠ 0) : byts V ((L + 7) / 8) = byts V (L / 8) ++ [UInt8.ofNat (V / 256 ^ (L / 8))] := by
  rw [← byts_succ]
  congr 1
  omega
set_option maxHeartbeats 1000000 in
set_option maxRecDepth 100000 in
theorem wbytes_any (x : World) (base b : Nat) (u : Value) (V L : Nat) (h : Wr x base b u V L) (hL : L ≤ 1000000000) :
    Calls Try.prog 18 #[.pointer (some ⟨b, 0, none⟩)] x fun e y => ∃ v, e = .returned v ∧ BRow y x.heap.size 5 v (byts V ((L + 7) / 8)) ∧ Below x.heap.size x y := by
  obtain ⟨A, c, rfl, ha, hA⟩ := h.at_.row.at2
  have HC := Lib.hid (bclone_any A c _ x ha (by rw [byts_len]; omega) hA)
  have c0 : x.cell? ⟨b, 0, none⟩ = some (.slice A (byts V (L / 8)).length c) := by rw [Lib.cell_of_heap h.at_.box]; rfl
  have dz := h.at_.box.lt
  have HW := Lib.hid h
  clear h ha hA
  go_enter Try.func18, Try.ntmps18
  go_wp2_with fail
  refine HC.out.mono ?_
  rintro e y ⟨v, rfl, hr, hb⟩
  have HR := Lib.hid hr
  have HB := Lib.hid hb
  have W1 := HW.out.grow hb
  clear hr hb HC c0 dz
  have c1 : y.cell? ⟨b, 1, none⟩ = some (.int .u64 ((V / 256 ^ (L / 8) : Nat) : Int)) := by rw [Lib.cell_of_heap W1.at_.box]; rfl
  have c2 : y.cell? ⟨b, 2, none⟩ = some (.int .i64 ((L - 8 * (L / 8) : Nat) : Int)) := by rw [Lib.cell_of_heap W1.at_.box]; rfl
  have dz := W1.at_.box.lt
  clear W1
  rw [show L - 8 * (L / 8) = L % 8 by omega] at c2
  obtain ⟨n, hn⟩ : ∃ n, n = L % 8 := ⟨_, rfl⟩
  rw [← hn] at c2
  by_cases h0 : n = 0
  · subst h0
    have e1 : (L + 7) / 8 = L / 8 := by omega
    have E1 := Lib.hid e1
    clear hn e1
    go_wp2_with fail
    go_ret
    rw [E1.out]
    exact ⟨_, rfl, HR.out, HB.out⟩
  · have E1 := Lib.hid (Bt.last V L (by omega))
    have hn1 : (n : Int) > 0 := by omega
    obtain ⟨hd, hhd⟩ : ∃ q, q = V / 256 ^ (L / 8) := ⟨_, rfl⟩
    have HS := Lib.hid (show IntKind.u8.wrap (hd : Int) = ((UInt8.ofNat (V / 256 ^ (L / 8))).toNat : Int) by rw [u8_toNat, hhd, IntKind.wrap_u8]; omega)
    rw [← hhd] at c1
    have HL := Lib.hid hL
    clear hhd hn h0 hL
    have k1 := Lib.hid (fun z => (Below.refl y.heap.size y).alloc (Nat.le_refl _) (.cells #[.int .u8 z] 5))
    go_wp2_with (at_builtin; refine wpList_appBy rfl _ _ _ rfl x.heap.size _ (byts V (L / 8)) [UInt8.ofNat (V / 256 ^ (L / 8))] rfl (HR.out.grow (k1.out _)) _ rfl (src_byte (heap_alloc_new _ _) _ HS.out) (by rw [byts_len]; have := HL.out; simp; omega) (Nat.le_trans HB.out.size (k1.out _).size) ?_; intro v3 w3 hr3 hp3)
    have MB3 := Lib.hid ((HB.out.trans ((k1.out _).mono HB.out.size)).trans (hp3.below (Nat.le_trans HB.out.size (k1.out _).size) (fun k hk => (World.ownsRow.lt HR.out k hk).1)))
    have HR3 := Lib.hid hr3
    clear hr3 hp3
    go_wp2_with fail
    go_ret
    rw [E1.out]
    exact ⟨_, rfl, HR3.out, MB3.out⟩
theorem revb32_zero (w : World) : Calls Try.prog 96 #[.int .u32 0] w fun e w' => e = .returned (.int .u32 0) ∧ w' = w := by
  go_enter Try.func96, Try.ntmps96
  go_wp2_with fail
  go_ret
  exact ⟨by kernel_rfl, rfl⟩
theorem rev32_zero (w : World) : Calls Try.prog 88 #[.int .u32 0] w fun e w' => e = .returned (.int .u32 0) ∧ w' = w := by
  have b1 : bits .and .u32 0 1431655765 = 0 := by kernel_rfl
  have b2 : bits .and .u32 0 858993459 = 0 := by kernel_rfl
  have b3 : bits .and .u32 0 252645135 = 0 := by kernel_rfl
  have b4 : bits .or .u32 0 0 = 0 := by kernel_rfl
  go_enter Try.func88, Try.ntmps88
  go_wp2_with fail
  refine (revb32_zero w).mono ?_
  rintro e w1 ⟨rfl, rfl⟩
  go_wp2_with fail
  go_ret
  exact ⟨rfl, rfl⟩
theorem reverse_zero (n : Nat) (hn : 1 ≤ n ∧ n ≤ 32) (w : World) : Calls Try.prog 72 #[.int .u32 0, .int .i64 (n : Nat)] w fun e w' => e = .returned (.int .u32 0) ∧ w' = w := by
  have q1 : ¬ ((n : Int) ≤ 0) := by omega
  have q2 : ¬ ((n : Int) > 32) := by omega
  go_enter Try.func72, Try.ntmps72
  go_wp2_with fail
  refine (rev32_zero w).mono ?_
  rintro e w1 ⟨rfl, rfl⟩
  go_wp2_with fail
  go_ret
  exact ⟨rfl, rfl⟩
theorem right_nil (w : World) : Calls Try.prog 26 #[.slice none 0 0] w fun e w' => e = .returned (.bool true) ∧ w' = w := by
  go_enter Try.func26, Try.ntmps26
  go_upto_region 2 with fail
  go_loopw [7] (fun s7 wr => s7 = .int .i64 (0 : Nat) ∧ wr = w) (fun _ _ => 0)
  case atStart => exact ⟨rfl, rfl⟩
  case round =>
    obtain ⟨rfl, rfl⟩ := hrel
    go_wp2_with fail
    go_ret
    exact ⟨rfl, rfl⟩
theorem stored_nil (w : World) : Calls Try.prog 9 #[.pointer none, .slice none 0 0, .bool true] w fun e w' => e = .returned (.int .i64 1) ∧ w' = w := by
  go_enter Try.func9, Try.ntmps9
  go_wp2_with fail
  go_ret
  exact ⟨rfl, rfl⟩
end Go.Proofs.Ytjbbhfloomejoaa
