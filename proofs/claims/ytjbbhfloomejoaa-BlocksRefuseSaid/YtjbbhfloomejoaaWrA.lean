/- bitio.NewWriter, Put. -/
import Derived.Test.YtjbbhfloomejoaaWr
namespace Go.Proofs.Ytjbbhfloomejoaa
open Go.RowKit
theorem wnew_any (w : World) : Calls Try.prog 8 #[] w fun e w' => e = .returned (.pointer (some ⟨w.heap.size, 0, none⟩)) ∧ Wr w' w.heap.size w.heap.size (.slice none 0 0) 0 0 ∧ Below w.heap.size w w' := by
  go_enter Try.func8, Try.ntmps8
  go_wp2_with fail
  go_ret
  exact ⟨rfl, ⟨⟨heap_alloc_new _ _, BRow.nil _ _ _, Nat.le_refl _⟩, by decide⟩, (Below.refl _ _).alloc (Nat.le_refl _) _⟩
set_option maxHeartbeats 4000000 in
set_option maxRecDepth 100000 in
theorem wput_any (v k : Nat) (hv : v < 4294967296) (hk : k ≤ 32) (x : World) (base b : Nat) (u : Value) (V L : Nat) (h : Wr x base b u V L) (hL : L ≤ 100000000000) :
    Calls Try.prog 19 #[.pointer (some ⟨b, 0, none⟩), .int .u32 (v : Nat), .int .i64 (k : Nat)] x fun e y => e = .returned (.tuple #[]) ∧ ∃ u', Wr y base b u' (V + v % 2 ^ k * 2 ^ L) (L + k) ∧ WFrm x y b u.ownBlock u'.ownBlock := by
  have f0 : x.cell? ⟨b, 1, none⟩ = some (.int .u64 ((V / 256 ^ (L / 8) : Nat) : Int)) := by rw [Lib.cell_of_heap h.at_.box]; rfl
  have f1 : x.cell? ⟨b, 2, none⟩ = some (.int .i64 ((L - 8 * (L / 8) : Nat) : Int)) := by rw [Lib.cell_of_heap h.at_.box]; rfl
  have f2 := (blk_facts h.at_.box).2 1
  have fz := h.at_.box.lt
  have n1 : L - 8 * (L / 8) = L % 8 := by omega
  have H := Lib.hid h
  have hh := Bt.held h.lt
  rw [n1] at f1
  generalize hN : L % 8 = n at *
  generalize hV : V / 256 ^ (L / 8) = hd at *
  have hn7 : n ≤ 7 := by omega
  have q1 : ¬ ((k : Int) < 0) := by omega
  have q2 : ¬ ((k : Int) > 32) := by omega
  have HH := Lib.hid hh
  have HN := Lib.hid hN
  have HV := Lib.hid hV
  clear h hh n1 hN hV
  go_enter Try.func19, Try.ntmps19
  have HE := Lib.hid (Bt.put hd v n k HH.out hn7 hv hk)
  go_upto_region 1 with fail
  go_region
  rw [HE.out]
  generalize IntKind.u64.wrap (bits .and .u64 (v : Int) (IntKind.u64.wrap (IntKind.u64.wrap (2 ^ k) - 1)) * 2 ^ n) = z1
  generalize bits .and .u64 (v : Int) (IntKind.u64.wrap (IntKind.u64.wrap (2 ^ k) - 1)) = z2
  generalize IntKind.u64.wrap (IntKind.u64.wrap (2 ^ k) - 1) = z3
  generalize IntKind.u64.wrap (2 ^ k) = z4
  have hr1 := H.out.at_.row.setElse (b := b) (i := 1) (.int .u64 ((hd + v % 2 ^ k * 2 ^ n : Nat) : Int)) H.out.at_.apart
  have hb1 := (H.out.at_.box.hold (hd + v % 2 ^ k * 2 ^ n))
  have hf1 := WFrm.set x b 1 (.int .u64 ((hd + v % 2 ^ k * 2 ^ n : Nat) : Int)) u.ownBlock
  obtain ⟨hd2, hhd⟩ : ∃ q, q = hd + v % 2 ^ k * 2 ^ n := ⟨_, rfl⟩
  rw [← hhd] at hr1 hb1 hf1 ⊢
  have kd : Below (x.setCell ⟨b, 1, none⟩ (.int .u64 (hd2 : Int))).heap.size (x.setCell ⟨b, 1, none⟩ (.int .u64 (hd2 : Int))) (x.setCell ⟨b, 1, none⟩ (.int .u64 (hd2 : Int))).drew := Below.drew (Below.refl _ _)
  have B1 := Lib.hid (show WBox (x.setCell ⟨b, 1, none⟩ (.int .u64 (hd2 : Int))).drew b u hd2 n from by
    have := (kd.block b hb1.lt).trans hb1
    rwa [show L - 8 * (L / 8) = n from by have := HN.out; omega] at this)
  have R1 := Lib.hid (hr1.grow kd)
  have F1 := Lib.hid (hf1.trans (WFrm.grow kd b _))
  clear hr1 hb1 hf1 kd f0 f1 f2 fz q1 q2
  generalize (x.setCell ⟨b, 1, none⟩ (.int .u64 (hd2 : Int))).drew = x1 at B1 R1 F1 ⊢
  have f1 : x1.cell? ⟨b, 2, none⟩ = some (.int .i64 (n : Nat)) := by rw [Lib.cell_of_heap B1.out]; rfl
  have f2 := (blk_facts B1.out).2 2
  have fz := B1.out.lt
  go_upto_region 3 with fail
  have HJ := Lib.hid (show WrJ (x1.setCell ⟨b, 2, none⟩ (.int .i64 ((n : Int) + (k : Int)))) base b u (V + v % 2 ^ k * 2 ^ L) (L + k) (L / 8) from by
    have e1 : (V + v % 2 ^ k * 2 ^ L) / 256 ^ (L / 8) = hd2 := by rw [Bt.held_add, HV.out, HN.out, hhd]
    have e2 : L + k - 8 * (L / 8) = n + k := by have := HN.out; omega
    refine ⟨?_, ?_, H.out.at_.le⟩
    · rw [e1, e2]
      exact B1.out.many (n + k)
    · rw [byts_add]
      exact R1.out.setElse _ H.out.at_.apart)
  have HF := Lib.hid (F1.out.trans (WFrm.set x1 b 2 (.int .i64 ((n : Int) + (k : Int))) u.ownBlock))
  have VL := Lib.hid (Bt.lt_add H.out.lt v k)
  have hL8 : L / 8 ≤ (L + k) / 8 := by omega
  have hLk : L + k ≤ 200000000000 := by omega
  clear B1 R1 F1 f1 f2 fz HE HH HN HV hhd
  generalize x1.setCell ⟨b, 2, none⟩ (.int .i64 ((n : Int) + (k : Int))) = W0 at HJ HF ⊢
  obtain ⟨M, HM⟩ : ∃ M, Hid (M = V + v % 2 ^ k * 2 ^ L) := ⟨_, Lib.hid rfl⟩
  obtain ⟨LM, HLM⟩ : ∃ LM, Hid (LM = L + k) := ⟨_, Lib.hid rfl⟩
  rw [← HM.out, ← HLM.out] at HJ VL
  rw [← HLM.out] at hL8 hLk
  go_loopw [44] (fun _ wr => ∃ (j : Nat) (u' : Value), j ≤ LM / 8 ∧ WrJ wr base b u' M LM j ∧ WFrm x wr b u.ownBlock u'.ownBlock) (fun _ wr => match wr.cell? ⟨b, 2, none⟩ with | some v => (intOf v).toNat | none => 0)
  case atStart => exact ⟨L / 8, u, hL8, HJ.out, HF.out⟩
  case round =>
    obtain ⟨j, u', hj, hJ, hF⟩ := hrel
    have J := Lib.hid hJ
    have F := Lib.hid hF
    clear HJ HF hF
    have c0 : wr.cell? ⟨b, 0, none⟩ = some u' := by rw [Lib.cell_of_heap hJ.box]; rfl
    have c1 : wr.cell? ⟨b, 1, none⟩ = some (.int .u64 ((M / 256 ^ j : Nat) : Int)) := by rw [Lib.cell_of_heap hJ.box]; rfl
    have c2 : wr.cell? ⟨b, 2, none⟩ = some (.int .i64 ((LM - 8 * j : Nat) : Int)) := by rw [Lib.cell_of_heap hJ.box]; rfl
    have d0 := (blk_facts hJ.box).2 0
    have d1 := (blk_facts hJ.box).2 1
    have d2 := (blk_facts hJ.box).2 2
    have dz := hJ.box.lt
    by_cases h1 : j < LM / 8
    · as_aux_lemma =>
      obtain ⟨m, hm⟩ : ∃ m, m = LM - 8 * j := ⟨_, rfl⟩
      have hm8 : 8 ≤ m := by omega
      obtain ⟨A, c, rfl, hat⟩ := hJ.row.at_
      rw [← hm] at c2
      clear hat
      obtain ⟨hd, hhd⟩ : ∃ q, q = M / 256 ^ j := ⟨_, rfl⟩
      have HB := Lib.hid (show IntKind.u8.wrap (hd : Int) = ((UInt8.ofNat (M / 256 ^ j)).toNat : Int) by rw [u8_toNat, hhd, IntKind.wrap_u8]; omega)
      rw [← hhd] at c1
      have HD := Lib.hid hhd
      have hjl : j ≤ 100000000000 - 1 := by omega
      clear hhd d0 d1 d2 hJ
      go_upto_region 5 with fail
      refine wp_region_ord 11 (by kernel_rfl) (by kernel_rfl) (fun _ _ d _ _ h => by cases d <;> exact h) ?_
      simp only [List.take_succ_cons, List.take_zero, List.drop_succ_cons, List.drop_zero]
      repeat (first | (refine wpLex_skip rfl ?_; simp only [Act.put, List.setIfInBounds_toArray, List.set_cons_zero, List.set_cons_succ]) | (refine wpLex_fix rfl ?_; intro F hF R hR hne K hK; go_big_quiet_op; first | (go_big_quiet_on; clear hne hR R hF F) | (apply Exists.intro; refine ⟨fun g => ?_, ?_⟩; (((first | (rw [GrE.cell g _ _ dz]; go_simp; first | exact ⟨rfl, rfl⟩ | rfl) | (go_simp; (repeat (simp only [GrE.cell g _ _ dz]; go_simp)); first | exact ⟨rfl, rfl⟩ | rfl)))); go_big_quiet_on; clear hne hR R hF F)) | (apply wpLex_blk rfl; (focus (intro x hx; go_simp; exact ⟨rfl, rfl⟩)); intro B hB; simp only [Act.put, blkVal, List.setIfInBounds_toArray, List.set_cons_zero, List.set_cons_succ]))
      refine wpLex_nil ?_
      intro w1 hw1
      have hq1 := (hw1.fact 66 B _ (.inr ⟨rfl, rfl, rfl⟩)).2
      have kw1 : Below wr.heap.size wr w1 := (Below.refl wr.heap.size wr).drew.trans hw1.below
      have J1 := Lib.hid (J.out.grow kw1)
      have SB := Lib.hid (src_byte hq1 (UInt8.ofNat (M / 256 ^ j)) HB.out)
      have KW := Lib.hid kw1
      clear hw1 hq1 kw1 hB HB c0 c1 dz
      refine wpList_appBy rfl _ _ _ rfl base _ (byts M j) [UInt8.ofNat (M / 256 ^ j)] rfl J1.out.row _ rfl SB.out (by rw [byts_len]; simp; omega) J1.out.base ?_
      intro v7 x7 hr7 hp7
      rw [← byts_succ] at hr7
      obtain ⟨A7, d7, e7, _⟩ := hr7.at_
      subst e7
      have hb7 : WBox x7 b (.slice A (byts M j).length c) (M / 256 ^ j) (LM - 8 * j) := (hp7.1.block b J1.out.box.lt J1.out.apart).trans J1.out.box
      have a7 : some b ≠ (Value.slice A7 (byts M (j + 1)).length d7).ownBlock := own_ne hr7 hb7 (by decide)
      have c7 : x7.cell? ⟨b, 0, none⟩ = some (.slice A (byts M j).length c) := by rw [Lib.cell_of_heap hb7]; rfl
      have f7 := (blk_facts hb7).2 0
      have z7 := hb7.lt
      have B5 := Lib.hid (hb7.row (.slice A7 (byts M (j + 1)).length d7))
      have R5 := Lib.hid (hr7.setElse (b := b) (i := 0) (.slice A7 (byts M (j + 1)).length d7) a7)
      have F5 := Lib.hid (F.out.trans ((WFrm.grow KW.out b _).trans ((WFrm.hop hp7 b).trans (WFrm.set x7 b 0 (.slice A7 (byts M (j + 1)).length d7) _))))
      have A5 := Lib.hid a7
      clear hb7 hr7 hp7 a7 SB KW J1 F
      go_upto_region 6 with fail
      clear c7 f7 z7
      generalize x7.setCell ⟨b, 0, none⟩ (.slice A7 (byts M (j + 1)).length d7) = W5 at B5 R5 F5 ⊢
      have c1 : W5.cell? ⟨b, 1, none⟩ = some (.int .u64 (hd : Nat)) := by rw [Lib.cell_of_heap B5.out, HD.out]; rfl
      have d1 := (blk_facts B5.out).2 1
      have dz := B5.out.lt
      go_upto_region 4 with fail
      have B6 := Lib.hid (B5.out.hold (hd / 256))
      have R6 := Lib.hid (R5.out.setElse (b := b) (i := 1) (.int .u64 ((hd / 256 : Nat) : Int)) A5.out)
      have F6 := Lib.hid (F5.out.trans (WFrm.set W5 b 1 (.int .u64 ((hd / 256 : Nat) : Int)) _))
      clear c1 d1 dz B5 R5 F5
      rw [show ((hd : Int) / 256) = ((hd / 256 : Nat) : Int) by omega]
      generalize W5.setCell ⟨b, 1, none⟩ (.int .u64 ((hd / 256 : Nat) : Int)) = W6 at B6 R6 F6 ⊢
      have HM6 := Lib.hid hm
      have c2 : W6.cell? ⟨b, 2, none⟩ = some (.int .i64 (m : Nat)) := by rw [Lib.cell_of_heap B6.out, HM6.out]; rfl
      have d2 := (blk_facts B6.out).2 2
      have dz := B6.out.lt
      have hms : m ≤ 200000000000 := by omega
      clear hm
      go_wp2_with fail
      have e1 : LM - 8 * (j + 1) = m - 8 := by have := HM6.out; omega
      have e2 : ((m : Int) - 8) = ((m - 8 : Nat) : Int) := by omega
      rw [e2]
      refine ⟨⟨j + 1, _, h1, ⟨?_, R6.out.setElse _ A5.out, J.out.le⟩, F6.out.trans (WFrm.set W6 b 2 _ _)⟩, ?_⟩
      · rw [e1, ← Bt.shr, ← HD.out]
        exact B6.out.many (m - 8)
      · have q1 : (W6.setCell ⟨b, 2, none⟩ (.int .i64 ((m - 8 : Nat) : Int))).cell? ⟨b, 2, none⟩ = some (.int .i64 ((m - 8 : Nat) : Int)) := by rw [Lib.cell_of_heap (B6.out.many (m - 8))]; rfl
        have q2 : wr.cell? ⟨b, 2, none⟩ = some (.int .i64 (m : Nat)) := by rw [Lib.cell_of_heap J.out.box, HM6.out]; rfl
        rw [q1, q2]
        show ((m - 8 : Nat) : Int).toNat < (m : Int).toNat
        omega
    · as_aux_lemma =>
      have hje : j = LM / 8 := by omega
      have hm : LM - 8 * j < 8 := by omega
      have hm2 : ¬ (8 ≤ LM - 8 * j) := by omega
      generalize hmm : LM - 8 * j = m at c2 hm hm2
      clear hJ
      go_wp2_with fail
      go_end0
      subst hje
      rw [← HM.out, ← HLM.out]
      exact ⟨rfl, u', ⟨J.out, VL.out⟩, F.out⟩
end Go.Proofs.Ytjbbhfloomejoaa
