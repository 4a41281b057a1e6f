/- The walk of layer 15's reference: units. (Printed by mk_ref15units.py.) -/
import Derived.Test.YtdjdgipebonnaaaDoorRef15Plain
namespace Go.Proofs.YtdjdgipebonnaaaDoor
open Go.RowKit

theorem bytes1_blk {g : Nat} {w : World} {n : Nat} {e : TypeId} {fr : Nat × Nat} (hg : w.heap[g]? = some (.cells #[.int .u16 (n : Int)] e fr)) (hn : n < 65536) :
    Calls Tryd.prog 56 #[.slice (some ⟨g, 0, none⟩) 1 1] w fun e w' => e = .returned (.string (bs (Ut.bytes1 n))) ∧ Below w.heap.size w w' :=
  bytes1_any g n w hn (cell_of_row w g 0 _ _ _ hg) (Array.getElem?_eq_some_iff.1 hg).1
theorem u16_wrap (n : Nat) (h : n < 65536) : IntKind.u16.wrap (n : Int) = n := wraps_u16 n (by omega) (by omega)
/-- What the reference's loop keeps. -/
def RU (l : List UInt8) (w : World) (v i : Value) (wr : World) : Prop :=
  ∃ (k : Nat) (acc : List Nat), i = .int .i64 k ∧ k ≤ l.length ∧ URow wr w.heap.size v acc ∧ Below w.heap.size w wr ∧ Ut.units l = (Ut.units (l.drop k)).map (acc ++ ·) ∧ acc.length ≤ k
theorem RU.done {l : List UInt8} {acc : List Nat} {k : Nat} (h : Ut.units l = (Ut.units (l.drop k)).map (acc ++ ·)) (hk : ¬ k < l.length) : Ut.units l = some acc := by
  rw [h, List.drop_eq_nil_of_le (by omega), Ut.units_nil]; simp
theorem RU.stop {l : List UInt8} {acc : List Nat} {k : Nat} (h : Ut.units l = (Ut.units (l.drop k)).map (acc ++ ·)) (hk : l.drop k ≠ []) (h0 : (Ut.next (l.drop k)).2 = 0) : Ut.units l = none := by
  rw [h, Ut.units_stop hk h0]; rfl
theorem RU.more {l : List UInt8} {acc : List Nat} {k v n : Nat} (h : Ut.units l = (Ut.units (l.drop k)).map (acc ++ ·)) (hk : l.drop k ≠ []) (h0 : Ut.next (l.drop k) = (v, n)) (hn : n ≠ 0) : Ut.units l = (Ut.units (l.drop (k + n))).map ((acc ++ [v]) ++ ·) := by
  rw [h, Ut.units_step hk (by rw [h0]; exact hn), h0, List.drop_drop]
  cases Ut.units (l.drop (k + n)) <;> simp
theorem getD_drop0 (l : List UInt8) (i j : Nat) : (l.drop i).getD j 0 = l.getD (i + j) 0 := by simp [List.getD, List.getElem?_drop]
theorem headD_drop (l : List UInt8) (i : Nat) (c : UInt8) (h : l[i]? = some c) : (l.drop i).headD 0 = c := by
  have : (l.drop i)[0]? = some c := by rw [List.getElem?_drop]; simpa using h
  cases hd : l.drop i with
  | nil => rw [hd] at this; cases this
  | cons a t => rw [hd] at this; simpa using this

theorem Rf.at1 {l : List UInt8} {i : Nat} {c : UInt8} (hc : l[i]? = some c) (hc2 : c.toNat < 192) : Rf.n (l.drop i) = 1 ∧ Rf.v (l.drop i) = c.toNat := by
  unfold Rf.n Rf.v
  rw [headD_drop l i c hc, if_neg (by omega), if_neg (by omega)]
  exact ⟨rfl, by rw [if_neg (by omega), if_neg (by omega)]⟩
theorem Rf.at2 {l : List UInt8} {i : Nat} {c : UInt8} (hc : l[i]? = some c) (hc1 : 192 ≤ c.toNat) (hc2 : c.toNat < 224) : Rf.n (l.drop i) = 2 ∧ Rf.v (l.drop i) = (c.toNat - 192) * 64 + (l.getD (i + 1) 0).toNat % 64 := by
  unfold Rf.n Rf.v
  rw [headD_drop l i c hc, if_neg (by omega), if_pos hc1]
  exact ⟨rfl, by rw [if_neg (by omega), if_pos hc1, getD_drop0]⟩
theorem Rf.at3 {l : List UInt8} {i : Nat} {c : UInt8} (hc : l[i]? = some c) (hc1 : 224 ≤ c.toNat) : Rf.n (l.drop i) = 3 ∧ Rf.v (l.drop i) = (c.toNat - 224) * 4096 + (l.getD (i + 1) 0).toNat % 64 * 64 + (l.getD (i + 2) 0).toNat % 64 := by
  unfold Rf.n Rf.v
  rw [headD_drop l i c hc, if_pos hc1]
  exact ⟨rfl, by rw [if_pos hc1, getD_drop0, getD_drop0]⟩
set_option maxHeartbeats 16000000 in
set_option maxRecDepth 100000 in
theorem runits_any (l : List UInt8) (w : World) (hl : l.length ≤ 1000000000) :
    Calls Tryd.prog 40 #[.string (bs l)] w (UnitsRes l w) := by
  obtain ⟨i0, hi, hz0, hz1, hz2⟩ := info_parts infoU16
  have hzl := bs_size l
  go_enter Tryd.func40, Tryd.ntmps40
  go_wp2_with fail
  go_loopw [4, 5] (fun v i wr => RU l w v i wr) (fun _ i _ => l.length - (intOf i).toNat)
  case atStart => exact ⟨0, [], rfl, Nat.zero_le _, World.ownsRow_nil _ _ _ _, Below.refl _ _, by rw [List.drop_zero]; cases Ut.units l <;> rfl, Nat.le_refl _⟩
  case round =>
    obtain ⟨i, acc, rfl, hil, hrow, hB, hu, hacc⟩ := hrel
    have HR := Lib.hid hrow
    have HB := Lib.hid hB
    have HU := Lib.hid hu
    clear hrow hB hu
    by_cases h1 : i < l.length
    rotate_left
    · have hfin := Lib.hid (RU.done HU.out h1)
      go_wp2
      go_ret2
      refine ⟨_, by rw [hfin.out]; rfl, HB.out, ?_⟩
      rw [hfin.out]
      exact HR.out
    obtain ⟨c, hc⟩ : ∃ c, l[i]? = some c := ⟨_, List.getElem?_eq_getElem h1⟩
    have hne : l.drop i ≠ [] := by intro e; rw [List.drop_eq_nil_iff] at e; omega
    have HNE := Lib.hid hne
    have HST := Lib.hid (Rf.step hne)
    have ic := fun x => bs_index l i c hc .i64 i rfl x
    have c256 := c.toNat_lt
    clear hne
    by_cases hc1 : 224 ≤ c.toNat
    · obtain ⟨en, ev⟩ := Rf.at3 hc hc1
      have EN := Lib.hid en
      by_cases hlen : i + 3 ≤ l.length
      rotate_left
      · have h0 : (Ut.next (l.drop i)).2 = 0 := by
          rcases HST.out with ⟨h, _⟩ | ⟨_, h⟩
          · have := h.1; rw [en, List.length_drop] at this; omega
          · exact h
        have hfin := Lib.hid (RU.stop HU.out HNE.out h0)
        clear h0 en ev hc
        go_wp2
        go_ret2
        refine ⟨_, by rw [hfin.out]; rfl, HB.out, ?_⟩
        rw [hfin.out]
        rfl
      obtain ⟨x, hx⟩ : ∃ x, l[i + 1]? = some x := ⟨_, List.getElem?_eq_getElem (by omega)⟩
      have ix := fun z => bs_index l (i + 1) x hx .i64 ((i : Int) + 1) (by omega) z
      have x256 := x.toNat_lt
      rw [getD_of hx] at ev
      clear hx
      obtain ⟨y, hy⟩ : ∃ y, l[i + 2]? = some y := ⟨_, List.getElem?_eq_getElem (by omega)⟩
      have iy := fun z => bs_index l (i + 2) y hy .i64 ((i : Int) + 2) (by omega) z
      have y256 := y.toNat_lt
      rw [getD_of hy] at ev
      clear hy
      have q1 : IntKind.i64.wrap ((i : Int) + 1) = (i : Int) + 1 := IntWalk.i64_in _ (by omega)
      have q2 : IntKind.i64.wrap ((i : Int) + 2) = (i : Int) + 2 := IntWalk.i64_in _ (by omega)
      have g1 : IntKind.i64.wrap ((c.toNat : Int) - 224) = (c.toNat : Int) - 224 := IntWalk.i64_in _ (by omega)
      have g2 : IntKind.i64.wrap (((c.toNat : Int) - 224) * 4096) = ((c.toNat : Int) - 224) * 4096 := IntWalk.i64_in _ (by omega)
      have g3 : (x.toNat : Int).tmod 64 = (x.toNat : Int) % 64 := Int.tmod_eq_emod_of_nonneg (by omega)
      have g4 : (y.toNat : Int).tmod 64 = (y.toNat : Int) % 64 := Int.tmod_eq_emod_of_nonneg (by omega)
      have g5 : IntKind.i64.wrap ((x.toNat : Int) % 64 * 64) = (x.toNat : Int) % 64 * 64 := IntWalk.i64_in _ (by omega)
      have g6 : IntKind.i64.wrap (((c.toNat : Int) - 224) * 4096 + (x.toNat : Int) % 64 * 64) = ((c.toNat : Int) - 224) * 4096 + (x.toNat : Int) % 64 * 64 := IntWalk.i64_in _ (by omega)
      have g7 : IntKind.i64.wrap (((c.toNat : Int) - 224) * 4096 + (x.toNat : Int) % 64 * 64 + (y.toNat : Int) % 64) = ((c.toNat : Int) - 224) * 4096 + (x.toNat : Int) % 64 * 64 + (y.toNat : Int) % 64 := IntWalk.i64_in _ (by omega)
      go_wp2_with fail
      refine wp_region_grow (by kernel_rfl) (by kernel_rfl) ?_
      repeat (go_big_quiet_step (fail))
      refine wpQuiet_nil ?_
      intro g1
      obtain ⟨w1, hb1⟩ := g1
      dsimp only
      clear g1 g2 g3 g4 g5 g6 g7 q1 q2 ix iy
      have HBg := Lib.hid (Below.after' HB.out hb1 (Nat.le_refl _))
      have HRg := Lib.hid (HR.out.grow hb1)
      clear hb1 HB HR
      go_wp2_with fail
      have hVI : ((c.toNat : Int) - 224) * 4096 + (x.toNat : Int) % 64 * 64 + (y.toNat : Int) % 64 = ((Rf.v (l.drop i) : Nat) : Int) := by rw [ev]; omega
      simp only [hVI]
      have hvb : Rf.v (l.drop i) < 200000 := by rw [ev]; omega
      have hT := Lib.hid (show (bs l).extract i (i + 3) = bs ((l.drop i).take 3) by rw [bs_extract]; congr 2; omega)
      have HOK := Lib.hid (show Rf.ok (l.drop i) ↔ (Rf.v (l.drop i) ≤ 65535 ∧ Ut.bytes1 (Rf.v (l.drop i)) = (l.drop i).take 3) by unfold Rf.ok; rw [EN.out]; exact ⟨fun h => h.2, fun h => ⟨by rw [List.length_drop]; omega, h⟩⟩)
      clear hVI ev en hc ic hc1
      generalize hV : Rf.v (l.drop i) = V at *
      have HV := Lib.hid hV
      clear hV
      have q3 : IntKind.i64.wrap ((i : Int) + 3) = (i : Int) + 3 := IntWalk.i64_in _ (by omega)
      have q4 : ((i : Int) + 3).toNat = i + 3 := by omega
      have q5 : (0 : Int) ≤ (i : Int) + 3 := by omega
      have q6 : (i : Int) + 3 ≤ (l.length : Nat) := by omega
      have q7 : (i : Int) ≤ (i : Int) + 3 := by omega
      by_cases hbig : 65535 < V
      · have d1 : decide ((65535 : Int) < V) = true := decide_eq_true (by omega)
        have h0 : (Ut.next (l.drop i)).2 = 0 := by
          rcases HST.out with ⟨h, _⟩ | ⟨_, h⟩
          · have := (HOK.out.1 h).1; omega
          · exact h
        have hfin := Lib.hid (RU.stop HU.out HNE.out h0)
        clear h0
        refine wp_region_grow (by kernel_rfl) (by kernel_rfl) ?_
        repeat (go_big_quiet_step (fail))
        refine wpQuiet_nil ?_
        intro g1
        obtain ⟨w1, hb1⟩ := g1
        have HBz := Lib.hid (Below.after' HBg.out hb1 (Nat.le_refl _))
        dsimp only
        clear hb1
        go_wp2
        go_ret2
        refine ⟨_, by rw [hfin.out]; rfl, HBz.out, ?_⟩
        rw [hfin.out]
        rfl
      have hV16 : V < 65536 := by omega
      have d1 : decide ((65535 : Int) < V) = false := decide_eq_false (by omega)
      have hwr := u16_wrap V hV16
      have hX := hT.out
      generalize (l.drop i).take 3 = T at *
      by_cases hok : Ut.bytes1 V = T
      · have hcmp : ((bs (Ut.bytes1 V)).toList == (bs T).toList) = true := by rw [bs_list, bs_list]; simp [hok]
        have hst : Ut.next (l.drop i) = (V, 3) := by
          rcases HST.out with ⟨_, h⟩ | ⟨h, _⟩
          · rw [h, EN.out]
          · exact absurd (HOK.out.2 ⟨by omega, hok⟩) h
        have hmore := Lib.hid (RU.more HU.out HNE.out hst (by decide))
        clear hok hst
        refine wp_region_ord 15 (by kernel_rfl) (by kernel_rfl) (fun _ _ d _ _ h => by cases d <;> exact h) ?_
        simp only [List.take_succ_cons, List.take_zero, List.drop_succ_cons, List.drop_zero]
        repeat (first | (refine wpLex_skip rfl ?_; simp only [Act.put, List.setIfInBounds_toArray, List.set_cons_zero, List.set_cons_succ]) | (refine wpLex_fix rfl ?_; intro F hF R hR hne K hK; go_big_quiet_op; first | (go_big_quiet_on; clear hne hR R hF F) | (apply Exists.intro; refine ⟨fun g => ?_, ?_⟩; (((first | (go_at_call 56; exact GrE.call hR (bytes1_blk (GrE.blk g (hF.out _ _ _ (by decide) (.inr ⟨rfl, rfl, rfl⟩))) hV16))))); go_big_quiet_on; clear hne hR R hF F)) | (apply wpLex_blk rfl; (focus (intro x hx; go_simp; exact ⟨rfl, rfl⟩)); intro B hB; simp only [Act.put, blkVal, List.setIfInBounds_toArray, List.set_cons_zero, List.set_cons_succ]))
        refine wpLex_nil ?_
        intro w1 hw1
        have HBz := Lib.hid (Below.after' (Below.drew HBg.out) hw1.below (Nat.le_refl _))
        have HRz := Lib.hid (HRg.out.grow ((Below.drew (Below.refl _ _)).trans hw1.below))
        clear hw1
        go_wp2_with (at_builtin; (refine wpList_append_row rfl _ _ 39 39 rfl w.heap.size 30 i0 (.int .u16 0) 1 2 Tryd.underlying39 hi hz0 hz1 hz2 rfl u4 _ _ rfl (HRz.out.grow ((Below.refl _ _).alloc (Nat.le_refl _) _)) (.slice (some ⟨w1.heap.size, 0, none⟩) 1 1) 1 [.int .u16 (V : Int)] rfl ?_ ?c0 ?c1 ?c2 ?c3))
        case c0 => exact src_block Tryd.underlying39 1 1 1 _ #[.int .u16 (V : Int)] _ _ (heap_alloc_new _ _) rfl (by simp [Value.oneCell'])
        case c1 => unfold maxLen; omega
        case c2 => omega
        case c3 => rw [World.size_alloc]; have := HBz.out.size; omega
        intro v' w3 hown hhop
        have hown' := Lib.hid (URow.app (xs := acc) (ys := [V]) hown rfl)
        have HB3 := Lib.hid (((HBz.out).alloc HBz.out.size (.cells #[.int .u16 (V : Int)] 30)).trans (hhop.below (by rw [World.size_alloc]; have := HBz.out.size; omega) (fun k e => (HRz.out.lt k e).1)))
        clear hown hhop
        go_wp2_with fail
        go_roundw
        case rel => exact ⟨i + 3, acc ++ [V], by go_num, by omega, hown'.out, HB3.out, hmore.out, by simp; omega⟩
        case measure => simp [intOf]; omega
      · have hcmp : ((bs (Ut.bytes1 V)).toList == (bs T).toList) = false := by rw [bs_list, bs_list]; simp [hok]
        have h0 : (Ut.next (l.drop i)).2 = 0 := by
          rcases HST.out with ⟨h, _⟩ | ⟨_, h⟩
          · exact absurd (HOK.out.1 h).2 hok
          · exact h
        have hfin := Lib.hid (RU.stop HU.out HNE.out h0)
        clear hok h0
        refine wp_region_ord 15 (by kernel_rfl) (by kernel_rfl) (fun _ _ d _ _ h => by cases d <;> exact h) ?_
        simp only [List.take_succ_cons, List.take_zero, List.drop_succ_cons, List.drop_zero]
        repeat (first | (refine wpLex_skip rfl ?_; simp only [Act.put, List.setIfInBounds_toArray, List.set_cons_zero, List.set_cons_succ]) | (refine wpLex_fix rfl ?_; intro F hF R hR hne K hK; go_big_quiet_op; first | (go_big_quiet_on; clear hne hR R hF F) | (apply Exists.intro; refine ⟨fun g => ?_, ?_⟩; (((first | (go_at_call 56; exact GrE.call hR (bytes1_blk (GrE.blk g (hF.out _ _ _ (by decide) (.inr ⟨rfl, rfl, rfl⟩))) hV16))))); go_big_quiet_on; clear hne hR R hF F)) | (apply wpLex_blk rfl; (focus (intro x hx; go_simp; exact ⟨rfl, rfl⟩)); intro B hB; simp only [Act.put, blkVal, List.setIfInBounds_toArray, List.set_cons_zero, List.set_cons_succ]))
        refine wpLex_nil ?_
        intro w1 hw1
        have HBz := Lib.hid (Below.after' (Below.drew HBg.out) hw1.below (Nat.le_refl _))
        clear hw1
        go_wp2
        go_ret2
        refine ⟨_, by rw [hfin.out]; rfl, HBz.out, ?_⟩
        rw [hfin.out]
        rfl
    · have hc3 : c.toNat < 224 := by omega
      by_cases hc2 : 192 ≤ c.toNat
      · obtain ⟨en, ev⟩ := Rf.at2 hc hc2 hc3
        have EN := Lib.hid en
        by_cases hlen : i + 2 ≤ l.length
        rotate_left
        · have h0 : (Ut.next (l.drop i)).2 = 0 := by
            rcases HST.out with ⟨h, _⟩ | ⟨_, h⟩
            · have := h.1; rw [en, List.length_drop] at this; omega
            · exact h
          have hfin := Lib.hid (RU.stop HU.out HNE.out h0)
          clear h0 en ev hc
          go_wp2
          go_ret2
          refine ⟨_, by rw [hfin.out]; rfl, HB.out, ?_⟩
          rw [hfin.out]
          rfl
        obtain ⟨x, hx⟩ : ∃ x, l[i + 1]? = some x := ⟨_, List.getElem?_eq_getElem (by omega)⟩
        have ix := fun z => bs_index l (i + 1) x hx .i64 ((i : Int) + 1) (by omega) z
        have x256 := x.toNat_lt
        rw [getD_of hx] at ev
        clear hx
        go_wp2_with fail
        have hVI : ((c.toNat : Int) - 192) * 64 + (x.toNat : Int) % 64 = ((Rf.v (l.drop i) : Nat) : Int) := by rw [ev]; omega
        simp only [hVI]
        have hvb : Rf.v (l.drop i) < 2048 := by rw [ev]; omega
        have hT := Lib.hid (show (bs l).extract i (i + 2) = bs ((l.drop i).take 2) by rw [bs_extract]; congr 2; omega)
        have HOK := Lib.hid (show Rf.ok (l.drop i) ↔ (Rf.v (l.drop i) ≤ 65535 ∧ Ut.bytes1 (Rf.v (l.drop i)) = (l.drop i).take 2) by unfold Rf.ok; rw [EN.out]; exact ⟨fun h => h.2, fun h => ⟨by rw [List.length_drop]; omega, h⟩⟩)
        clear hVI ev en hc ic ix
        generalize hV : Rf.v (l.drop i) = V at *
        have HV := Lib.hid hV
        clear hV
        have q3 : IntKind.i64.wrap ((i : Int) + 2) = (i : Int) + 2 := IntWalk.i64_in _ (by omega)
        have q4 : ((i : Int) + 2).toNat = i + 2 := by omega
        have q5 : (0 : Int) ≤ (i : Int) + 2 := by omega
        have q6 : (i : Int) + 2 ≤ (l.length : Nat) := by omega
        have q7 : (i : Int) ≤ (i : Int) + 2 := by omega
        have hV16 : V < 65536 := by omega
        have d1 : decide ((65535 : Int) < V) = false := decide_eq_false (by omega)
        have hwr := u16_wrap V hV16
        have hX := hT.out
        generalize (l.drop i).take 2 = T at *
        by_cases hok : Ut.bytes1 V = T
        · have hcmp : ((bs (Ut.bytes1 V)).toList == (bs T).toList) = true := by rw [bs_list, bs_list]; simp [hok]
          have hst : Ut.next (l.drop i) = (V, 2) := by
            rcases HST.out with ⟨_, h⟩ | ⟨h, _⟩
            · rw [h, EN.out]
            · exact absurd (HOK.out.2 ⟨by omega, hok⟩) h
          have hmore := Lib.hid (RU.more HU.out HNE.out hst (by decide))
          clear hok hst
          refine wp_region_ord 15 (by kernel_rfl) (by kernel_rfl) (fun _ _ d _ _ h => by cases d <;> exact h) ?_
          simp only [List.take_succ_cons, List.take_zero, List.drop_succ_cons, List.drop_zero]
          repeat (first | (refine wpLex_skip rfl ?_; simp only [Act.put, List.setIfInBounds_toArray, List.set_cons_zero, List.set_cons_succ]) | (refine wpLex_fix rfl ?_; intro F hF R hR hne K hK; go_big_quiet_op; first | (go_big_quiet_on; clear hne hR R hF F) | (apply Exists.intro; refine ⟨fun g => ?_, ?_⟩; (((first | (go_at_call 56; exact GrE.call hR (bytes1_blk (GrE.blk g (hF.out _ _ _ (by decide) (.inr ⟨rfl, rfl, rfl⟩))) hV16))))); go_big_quiet_on; clear hne hR R hF F)) | (apply wpLex_blk rfl; (focus (intro x hx; go_simp; exact ⟨rfl, rfl⟩)); intro B hB; simp only [Act.put, blkVal, List.setIfInBounds_toArray, List.set_cons_zero, List.set_cons_succ]))
          refine wpLex_nil ?_
          intro w1 hw1
          have HBz := Lib.hid (Below.after' (Below.drew HB.out) hw1.below (Nat.le_refl _))
          have HRz := Lib.hid (HR.out.grow ((Below.drew (Below.refl _ _)).trans hw1.below))
          clear hw1
          go_wp2_with (at_builtin; (refine wpList_append_row rfl _ _ 39 39 rfl w.heap.size 30 i0 (.int .u16 0) 1 2 Tryd.underlying39 hi hz0 hz1 hz2 rfl u4 _ _ rfl (HRz.out.grow ((Below.refl _ _).alloc (Nat.le_refl _) _)) (.slice (some ⟨w1.heap.size, 0, none⟩) 1 1) 1 [.int .u16 (V : Int)] rfl ?_ ?c0 ?c1 ?c2 ?c3))
          case c0 => exact src_block Tryd.underlying39 1 1 1 _ #[.int .u16 (V : Int)] _ _ (heap_alloc_new _ _) rfl (by simp [Value.oneCell'])
          case c1 => unfold maxLen; omega
          case c2 => omega
          case c3 => rw [World.size_alloc]; have := HBz.out.size; omega
          intro v' w3 hown hhop
          have hown' := Lib.hid (URow.app (xs := acc) (ys := [V]) hown rfl)
          have HB3 := Lib.hid (((HBz.out).alloc HBz.out.size (.cells #[.int .u16 (V : Int)] 30)).trans (hhop.below (by rw [World.size_alloc]; have := HBz.out.size; omega) (fun k e => (HRz.out.lt k e).1)))
          clear hown hhop
          go_wp2_with fail
          go_roundw
          case rel => exact ⟨i + 2, acc ++ [V], by go_num, by omega, hown'.out, HB3.out, hmore.out, by simp; omega⟩
          case measure => simp [intOf]; omega
        · have hcmp : ((bs (Ut.bytes1 V)).toList == (bs T).toList) = false := by rw [bs_list, bs_list]; simp [hok]
          have h0 : (Ut.next (l.drop i)).2 = 0 := by
            rcases HST.out with ⟨h, _⟩ | ⟨_, h⟩
            · exact absurd (HOK.out.1 h).2 hok
            · exact h
          have hfin := Lib.hid (RU.stop HU.out HNE.out h0)
          clear hok h0
          refine wp_region_ord 15 (by kernel_rfl) (by kernel_rfl) (fun _ _ d _ _ h => by cases d <;> exact h) ?_
          simp only [List.take_succ_cons, List.take_zero, List.drop_succ_cons, List.drop_zero]
          repeat (first | (refine wpLex_skip rfl ?_; simp only [Act.put, List.setIfInBounds_toArray, List.set_cons_zero, List.set_cons_succ]) | (refine wpLex_fix rfl ?_; intro F hF R hR hne K hK; go_big_quiet_op; first | (go_big_quiet_on; clear hne hR R hF F) | (apply Exists.intro; refine ⟨fun g => ?_, ?_⟩; (((first | (go_at_call 56; exact GrE.call hR (bytes1_blk (GrE.blk g (hF.out _ _ _ (by decide) (.inr ⟨rfl, rfl, rfl⟩))) hV16))))); go_big_quiet_on; clear hne hR R hF F)) | (apply wpLex_blk rfl; (focus (intro x hx; go_simp; exact ⟨rfl, rfl⟩)); intro B hB; simp only [Act.put, blkVal, List.setIfInBounds_toArray, List.set_cons_zero, List.set_cons_succ]))
          refine wpLex_nil ?_
          intro w1 hw1
          have HBz := Lib.hid (Below.after' (Below.drew HB.out) hw1.below (Nat.le_refl _))
          clear hw1
          go_wp2
          go_ret2
          refine ⟨_, by rw [hfin.out]; rfl, HBz.out, ?_⟩
          rw [hfin.out]
          rfl
      · have hc4 : c.toNat < 192 := by omega
        obtain ⟨en, ev⟩ := Rf.at1 hc hc4
        have EN := Lib.hid en
        go_wp2_with fail
        have hVI : (c.toNat : Int) = ((Rf.v (l.drop i) : Nat) : Int) := by rw [ev]
        simp only [hVI]
        have hvb : Rf.v (l.drop i) < 192 := by rw [ev]; omega
        have hT := Lib.hid (show (bs l).extract i (i + 1) = bs ((l.drop i).take 1) by rw [bs_extract]; congr 2; omega)
        have HOK := Lib.hid (show Rf.ok (l.drop i) ↔ (Rf.v (l.drop i) ≤ 65535 ∧ Ut.bytes1 (Rf.v (l.drop i)) = (l.drop i).take 1) by unfold Rf.ok; rw [EN.out]; exact ⟨fun h => h.2, fun h => ⟨by rw [List.length_drop]; omega, h⟩⟩)
        clear hVI ev en hc ic
        generalize hV : Rf.v (l.drop i) = V at *
        have HV := Lib.hid hV
        clear hV
        have q3 : IntKind.i64.wrap ((i : Int) + 1) = (i : Int) + 1 := IntWalk.i64_in _ (by omega)
        have q4 : ((i : Int) + 1).toNat = i + 1 := by omega
        have q5 : (0 : Int) ≤ (i : Int) + 1 := by omega
        have q6 : (i : Int) + 1 ≤ (l.length : Nat) := by omega
        have q7 : (i : Int) ≤ (i : Int) + 1 := by omega
        have hV16 : V < 65536 := by omega
        have d1 : decide ((65535 : Int) < V) = false := decide_eq_false (by omega)
        have hwr := u16_wrap V hV16
        have hX := hT.out
        generalize (l.drop i).take 1 = T at *
        by_cases hok : Ut.bytes1 V = T
        · have hcmp : ((bs (Ut.bytes1 V)).toList == (bs T).toList) = true := by rw [bs_list, bs_list]; simp [hok]
          have hst : Ut.next (l.drop i) = (V, 1) := by
            rcases HST.out with ⟨_, h⟩ | ⟨h, _⟩
            · rw [h, EN.out]
            · exact absurd (HOK.out.2 ⟨by omega, hok⟩) h
          have hmore := Lib.hid (RU.more HU.out HNE.out hst (by decide))
          clear hok hst
          refine wp_region_ord 15 (by kernel_rfl) (by kernel_rfl) (fun _ _ d _ _ h => by cases d <;> exact h) ?_
          simp only [List.take_succ_cons, List.take_zero, List.drop_succ_cons, List.drop_zero]
          repeat (first | (refine wpLex_skip rfl ?_; simp only [Act.put, List.setIfInBounds_toArray, List.set_cons_zero, List.set_cons_succ]) | (refine wpLex_fix rfl ?_; intro F hF R hR hne K hK; go_big_quiet_op; first | (go_big_quiet_on; clear hne hR R hF F) | (apply Exists.intro; refine ⟨fun g => ?_, ?_⟩; (((first | (go_at_call 56; exact GrE.call hR (bytes1_blk (GrE.blk g (hF.out _ _ _ (by decide) (.inr ⟨rfl, rfl, rfl⟩))) hV16))))); go_big_quiet_on; clear hne hR R hF F)) | (apply wpLex_blk rfl; (focus (intro x hx; go_simp; exact ⟨rfl, rfl⟩)); intro B hB; simp only [Act.put, blkVal, List.setIfInBounds_toArray, List.set_cons_zero, List.set_cons_succ]))
          refine wpLex_nil ?_
          intro w1 hw1
          have HBz := Lib.hid (Below.after' (Below.drew HB.out) hw1.below (Nat.le_refl _))
          have HRz := Lib.hid (HR.out.grow ((Below.drew (Below.refl _ _)).trans hw1.below))
          clear hw1
          go_wp2_with (at_builtin; (refine wpList_append_row rfl _ _ 39 39 rfl w.heap.size 30 i0 (.int .u16 0) 1 2 Tryd.underlying39 hi hz0 hz1 hz2 rfl u4 _ _ rfl (HRz.out.grow ((Below.refl _ _).alloc (Nat.le_refl _) _)) (.slice (some ⟨w1.heap.size, 0, none⟩) 1 1) 1 [.int .u16 (V : Int)] rfl ?_ ?c0 ?c1 ?c2 ?c3))
          case c0 => exact src_block Tryd.underlying39 1 1 1 _ #[.int .u16 (V : Int)] _ _ (heap_alloc_new _ _) rfl (by simp [Value.oneCell'])
          case c1 => unfold maxLen; omega
          case c2 => omega
          case c3 => rw [World.size_alloc]; have := HBz.out.size; omega
          intro v' w3 hown hhop
          have hown' := Lib.hid (URow.app (xs := acc) (ys := [V]) hown rfl)
          have HB3 := Lib.hid (((HBz.out).alloc HBz.out.size (.cells #[.int .u16 (V : Int)] 30)).trans (hhop.below (by rw [World.size_alloc]; have := HBz.out.size; omega) (fun k e => (HRz.out.lt k e).1)))
          clear hown hhop
          go_wp2_with fail
          go_roundw
          case rel => exact ⟨i + 1, acc ++ [V], by go_num, by omega, hown'.out, HB3.out, hmore.out, by simp; omega⟩
          case measure => simp [intOf]; omega
        · have hcmp : ((bs (Ut.bytes1 V)).toList == (bs T).toList) = false := by rw [bs_list, bs_list]; simp [hok]
          have h0 : (Ut.next (l.drop i)).2 = 0 := by
            rcases HST.out with ⟨h, _⟩ | ⟨_, h⟩
            · exact absurd (HOK.out.1 h).2 hok
            · exact h
          have hfin := Lib.hid (RU.stop HU.out HNE.out h0)
          clear hok h0
          refine wp_region_ord 15 (by kernel_rfl) (by kernel_rfl) (fun _ _ d _ _ h => by cases d <;> exact h) ?_
          simp only [List.take_succ_cons, List.take_zero, List.drop_succ_cons, List.drop_zero]
          repeat (first | (refine wpLex_skip rfl ?_; simp only [Act.put, List.setIfInBounds_toArray, List.set_cons_zero, List.set_cons_succ]) | (refine wpLex_fix rfl ?_; intro F hF R hR hne K hK; go_big_quiet_op; first | (go_big_quiet_on; clear hne hR R hF F) | (apply Exists.intro; refine ⟨fun g => ?_, ?_⟩; (((first | (go_at_call 56; exact GrE.call hR (bytes1_blk (GrE.blk g (hF.out _ _ _ (by decide) (.inr ⟨rfl, rfl, rfl⟩))) hV16))))); go_big_quiet_on; clear hne hR R hF F)) | (apply wpLex_blk rfl; (focus (intro x hx; go_simp; exact ⟨rfl, rfl⟩)); intro B hB; simp only [Act.put, blkVal, List.setIfInBounds_toArray, List.set_cons_zero, List.set_cons_succ]))
          refine wpLex_nil ?_
          intro w1 hw1
          have HBz := Lib.hid (Below.after' (Below.drew HB.out) hw1.below (Nat.le_refl _))
          clear hw1
          go_wp2
          go_ret2
          refine ⟨_, by rw [hfin.out]; rfl, HBz.out, ?_⟩
          rw [hfin.out]
          rfl
end Go.Proofs.YtdjdgipebonnaaaDoor
