/- bitio's Len, Align; blocks.Stored. -/
import Derived.Test.YtjbbhfloomejoaaFxB
namespace Go.Proofs.Ytjbbhfloomejoaa
open Go.RowKit
set_option maxHeartbeats 1000000 in
set_option maxRecDepth 100000 in
theorem wlen_any (x : World) (base b : Nat) (u : Value) (V L : Nat) (h : Wr x base b u V L) (hL : L ≤ 100000000000) :
    Calls Try.prog 10 #[.pointer (some ⟨b, 0, none⟩)] x fun e y => e = .returned (.int .i64 (L : Nat)) ∧ Below x.heap.size x y := by
  obtain ⟨A, c, rfl, _⟩ := h.at_.row.at2
  have c0 : x.cell? ⟨b, 0, none⟩ = some (.slice A (byts V (L / 8)).length c) := by rw [Lib.cell_of_heap h.at_.box]; rfl
  have c2 : x.cell? ⟨b, 2, none⟩ = some (.int .i64 ((L - 8 * (L / 8) : Nat) : Int)) := by rw [Lib.cell_of_heap h.at_.box]; rfl
  have dz := h.at_.box.lt
  rw [byts_len] at c0
  obtain ⟨m, hm⟩ : ∃ m, m = L / 8 := ⟨_, rfl⟩
  obtain ⟨n, hn⟩ : ∃ n, n = L - 8 * (L / 8) := ⟨_, rfl⟩
  rw [← hm] at c0
  rw [← hn] at c2
  have HE := Lib.hid (show (8 : Int) * (m : Int) + (n : Int) = (L : Nat) by omega)
  have b1 : m ≤ 100000000000 := by omega
  have b2 : n ≤ 7 := by omega
  clear h hm hn
  go_enter Try.func10, Try.ntmps10
  go_upto_region 3 with fail
  go_region
  go_wp2_with fail
  go_ret
  rw [HE.out]
  exact ⟨rfl, (Below.refl _ _).drew⟩
set_option maxHeartbeats 4000000 in
set_option maxRecDepth 100000 in
theorem walign_any (x : World) (base b : Nat) (u : Value) (V L : Nat) (h : Wr x base b u V L) (hL : L ≤ 100000000000) :
    Calls Try.prog 25 #[.pointer (some ⟨b, 0, none⟩)] x fun e y => e = .returned (.tuple #[]) ∧ ∃ u', Wr y base b u' V (8 * ((L + 7) / 8)) ∧ WFrm x y b u.ownBlock u'.ownBlock := by
  have c0 : x.cell? ⟨b, 0, none⟩ = some u := by rw [Lib.cell_of_heap h.at_.box]; rfl
  have c1 : x.cell? ⟨b, 1, none⟩ = some (.int .u64 ((V / 256 ^ (L / 8) : Nat) : Int)) := by rw [Lib.cell_of_heap h.at_.box]; rfl
  have c2 : x.cell? ⟨b, 2, none⟩ = some (.int .i64 ((L - 8 * (L / 8) : Nat) : Int)) := by rw [Lib.cell_of_heap h.at_.box]; rfl
  have dz := h.at_.box.lt
  have H := Lib.hid h
  rw [show L - 8 * (L / 8) = L % 8 by omega] at c2
  obtain ⟨n, hn⟩ : ∃ n, n = L % 8 := ⟨_, rfl⟩
  rw [← hn] at c2
  by_cases h0 : n = 0
  · have HL2 := Lib.hid (show 8 * ((L + 7) / 8) = L by omega)
    subst h0
    clear hn h
    go_enter Try.func25, Try.ntmps25
    go_wp2_with fail
    go_end0
    rw [HL2.out]
    exact ⟨rfl, u, H.out, WFrm.refl _ _ _⟩
  · have e1 : (L + 7) / 8 = L / 8 + 1 := by omega
    have E1 := Lib.hid e1
    have p1 : (n : Int) > 0 := by omega
    have HB := Lib.hid (show IntKind.u8.wrap ((V / 256 ^ (L / 8) : Nat) : Int) = ((UInt8.ofNat (V / 256 ^ (L / 8))).toNat : Int) by rw [u8_toNat, IntKind.wrap_u8]; omega)
    obtain ⟨hd, hhd⟩ : ∃ q, q = V / 256 ^ (L / 8) := ⟨_, rfl⟩
    rw [← hhd] at c1 HB
    obtain ⟨A, c, rfl, _⟩ := h.at_.row.at2
    have HD := Lib.hid hhd
    have HLB := Lib.hid hL
    have HN := Lib.hid hn
    clear h e1 hhd hn h0 hL
    go_enter Try.func25, Try.ntmps25
    go_upto_region 1 with fail
    refine wp_region_ord 11 (by kernel_rfl) (by kernel_rfl) (fun _ _ d _ _ h => by cases d <;> exact h) ?_
    simp only [List.take_succ_cons, List.take_zero, List.drop_succ_cons, List.drop_zero]
    repeat (first | (refine wpLex_skip rfl ?_; simp only [Act.put, List.setIfInBounds_toArray, List.set_cons_zero, List.set_cons_succ]) | (refine wpLex_fix rfl ?_; intro F hF R hR hne K hK; go_big_quiet_op; first | (go_big_quiet_on; clear hne hR R hF F) | (apply Exists.intro; refine ⟨fun g => ?_, ?_⟩; (((first | (rw [GrE.cell g _ _ dz]; go_simp; first | exact ⟨rfl, rfl⟩ | rfl) | (go_simp; (repeat (simp only [GrE.cell g _ _ dz]; go_simp)); first | exact ⟨rfl, rfl⟩ | rfl)))); go_big_quiet_on; clear hne hR R hF F)) | (apply wpLex_blk rfl; (focus (intro x hx; go_simp; exact ⟨rfl, rfl⟩)); intro B hB; simp only [Act.put, blkVal, List.setIfInBounds_toArray, List.set_cons_zero, List.set_cons_succ]))
    refine wpLex_nil ?_
    intro w1 hw1
    have hq1 := (hw1.fact 21 B _ (.inr ⟨rfl, rfl, rfl⟩)).2
    have kw1 : Below x.heap.size x w1 := (Below.refl x.heap.size x).drew.trans hw1.below
    have J1 := Lib.hid (H.out.grow kw1)
    have SB := Lib.hid (src_byte hq1 (UInt8.ofNat hd) HB.out)
    have KW := Lib.hid kw1
    clear hw1 hq1 kw1 hB HB c0 c1 c2 dz
    refine wpList_appBy rfl _ _ _ rfl base _ (byts V (L / 8)) [UInt8.ofNat hd] rfl J1.out.at_.row _ rfl SB.out (by rw [byts_len]; have := HLB.out; simp; omega) J1.out.at_.base ?_
    intro v7 x7 hr7 hp7
    rw [HD.out, ← byts_succ] at hr7
    obtain ⟨A7, d7, e7, _⟩ := hr7.at_
    subst e7
    have hb7 : WBox x7 b (.slice A (byts V (L / 8)).length c) (V / 256 ^ (L / 8)) (L - 8 * (L / 8)) := (hp7.1.block b J1.out.at_.box.lt J1.out.at_.apart).trans J1.out.at_.box
    have a7 : some b ≠ (Value.slice A7 (byts V (L / 8 + 1)).length d7).ownBlock := own_ne hr7 hb7 (by decide)
    have c7 : x7.cell? ⟨b, 0, none⟩ = some (.slice A (byts V (L / 8)).length c) := by rw [Lib.cell_of_heap hb7]; rfl
    have f7 := (blk_facts hb7).2 0
    have z7 := hb7.lt
    have B5 := Lib.hid (hb7.row (.slice A7 (byts V (L / 8 + 1)).length d7))
    have R5 := Lib.hid (hr7.setElse (b := b) (i := 0) (.slice A7 (byts V (L / 8 + 1)).length d7) a7)
    have F5 := Lib.hid ((WFrm.grow KW.out b _).trans ((WFrm.hop hp7 b).trans (WFrm.set x7 b 0 (.slice A7 (byts V (L / 8 + 1)).length d7) _)))
    have A5 := Lib.hid a7
    clear hb7 hr7 hp7 a7 SB KW J1
    go_upto_region 2 with fail
    clear c7 f7 z7
    generalize x7.setCell ⟨b, 0, none⟩ (.slice A7 (byts V (L / 8 + 1)).length d7) = W5 at B5 R5 F5 ⊢
    have c1 : W5.cell? ⟨b, 1, none⟩ = some (.int .u64 ((V / 256 ^ (L / 8) : Nat) : Int)) := by rw [Lib.cell_of_heap B5.out]; rfl
    have c2 : W5.cell? ⟨b, 2, none⟩ = some (.int .i64 ((L - 8 * (L / 8) : Nat) : Int)) := by rw [Lib.cell_of_heap B5.out]; rfl
    have d1 := (blk_facts B5.out).2 1
    have d2 := (blk_facts B5.out).2 2
    have dz := B5.out.lt
    have B6 := Lib.hid ((B5.out.hold 0).many 0)
    have R6 := Lib.hid ((R5.out.setElse (b := b) (i := 1) (.int .u64 ((0 : Nat) : Int)) A5.out).setElse (b := b) (i := 2) (.int .i64 ((0 : Nat) : Int)) A5.out)
    have F6 := Lib.hid ((F5.out.trans (WFrm.set W5 b 1 (.int .u64 ((0 : Nat) : Int)) _)).trans (WFrm.set (W5.setCell ⟨b, 1, none⟩ (.int .u64 ((0 : Nat) : Int))) b 2 (.int .i64 ((0 : Nat) : Int)) _))
    clear B5 R5 F5
    go_wp2_with fail
    go_end0
    rw [E1.out]
    refine ⟨rfl, _, ⟨⟨?_, ?_, H.out.at_.le⟩, Nat.lt_of_lt_of_le H.out.lt (Nat.pow_le_pow_right (by decide) (by omega))⟩, F6.out⟩
    · have e2 : 8 * (L / 8 + 1) / 8 = L / 8 + 1 := by omega
      have e3 : V / 256 ^ (L / 8 + 1) = 0 := by
        refine Nat.div_eq_of_lt (Nat.lt_of_lt_of_le H.out.lt ?_)
        rw [show (256 : Nat) = 2 ^ 8 from rfl, ← Nat.pow_mul]
        exact Nat.pow_le_pow_right (by decide) (by omega)
      rw [e2, e3, Nat.sub_self]
      exact B6.out
    · have e2 : 8 * (L / 8 + 1) / 8 = L / 8 + 1 := by omega
      rw [e2]
      exact R6.out
end Go.Proofs.Ytjbbhfloomejoaa
