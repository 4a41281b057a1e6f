/- Joined texts: RhC, BdK, View. -/
import Derived.Test.YtbdkoagagcemcaaPk9
import Derived.Test.YtbdkoagagcemcaaPk1
import Derived.Test.YtbdkoagagcemcaaPk4
import Derived.ProofKit
import Derived.OpenShut
/- The walks of layer 24's reference: a plain number's bytes, and a row's. -/
namespace Go.Proofs.Ytbdkoagagcemcaa
open Go.RowKit

set_option maxHeartbeats 2000000 in
set_option maxRecDepth 100000 in
theorem rbytes_any (c : Cod) (hc : c.ok) (u : Nat) (hu : u < reachU c.h (c.b - 1)) (w : World) :
    Calls Try.prog 39 #[c.val, .int .i64 u] w fun ex y => ∃ v', ex = .returned v' ∧ BRow y w.heap.size 5 v' (putU c.h (c.b - 1) u) ∧ Below w.heap.size w y := by
  have hh := ok_h hc
  have hb := ok_b hc
  have hub := reachU_big hh.2 (k := c.b - 1) (by omega)
  unfold Cod.val
  generalize c.b = B at *
  generalize c.h = H at *
  generalize c.s = S at *
  generalize c.d = D at *
  clear hc c
  go_enter Try.func39, Try.ntmps39
  go_wp2_with fail
  go_loopw [1, 5, 6] (fun s x t wr => ∃ (i U : Nat) (L : List UInt8), i ≤ B - 1 ∧ t = .int .i64 (i + 1 : Nat) ∧ s = .int .i64 U ∧ U < reachU H (B - 1 - i) ∧ U ≤ u ∧ L ++ putU H (B - 1 - i) U = putU H (B - 1) u ∧ L.length ≤ i ∧ BRow wr w.heap.size 5 x L ∧ Below w.heap.size w wr ∧ wr.heap[w.heap.size]? = some (.cells #[.int .i64 B, .int .i64 H, .int .i64 S, .int .i64 D] 38 (0, 0))) (fun _ _ t _ => B + 1 - (intOf t).toNat)
  case atStart => exact ⟨0, u, [], Nat.zero_le _, rfl, rfl, hu, Nat.le_refl _, rfl, by simp, BRow.nil _ _ _, (Below.refl _ _).alloc (Nat.le_refl _) _, heap_alloc_new _ _⟩
  case round =>
    obtain ⟨i, U, L, hi, rfl, rfl, hU, hUu, hL, hLl, hrow, hB, hbx⟩ := hrel
    obtain ⟨A, cc, rfl, _⟩ := hrow.at_
    have c0 := (blk_facts hbx).1 0
    have c1 := (blk_facts hbx).1 1
    have hz := (Array.getElem?_eq_some_iff.1 hbx).1
    have HX := Lib.hid hbx
    have HO := Lib.hid hrow
    have HW := Lib.hid hB
    have HL := Lib.hid hL
    have hbw := hB.size
    have k1 := Lib.hid (fun (y : Obj) => (Below.refl wr.heap.size wr).alloc (Nat.le_refl _) y)
    have hUb : U ≤ 1099511627776 := by omega
    clear hbx hrow hB hL hub hu
    by_cases h1 : i < B - 1 ∧ 256 - H ≤ U
    · have p1 : (((i : Int) + 1) == (B : Int)) = false := by simp; omega
      have p2 : decide ((U : Int) < 256 - (H : Int)) = false := decide_eq_false (by omega)
      obtain ⟨k, hk⟩ : ∃ k, B - 1 - i = k + 1 := ⟨B - 1 - i - 1, by omega⟩
      have e1 : 256 - (H : Int) + ((U : Int) - (256 - (H : Int))) % (H : Int) = ((256 - H + (U - (256 - H)) % H : Nat) : Int) := by
        rw [Int.natCast_add, Int.natCast_emod, Int.ofNat_sub hh.2, Int.ofNat_sub h1.2, Int.ofNat_sub hh.2]; rfl
      have e2 : ((U : Int) - (256 - (H : Int))) / (H : Int) = (((U - (256 - H)) / H : Nat) : Int) := by
        rw [Int.natCast_ediv, Int.ofNat_sub h1.2, Int.ofNat_sub hh.2]; rfl
      have hm : (U - (256 - H)) % H < H := Nat.mod_lt _ (by omega)
      have hd : (U - (256 - H)) / H < reachU H k := by
        rw [hk] at hU
        simp only [reachU] at hU
        rw [Nat.div_lt_iff_lt_mul (by omega), Nat.mul_comm]
        omega
      have hd2 : (U - (256 - H)) / H ≤ U := Nat.le_trans (Nat.div_le_self _ _) (by omega)
      have e3 := Lib.hid (show wrap64 (256 - (H : Int) + ((U : Int) - (256 - (H : Int))) % (H : Int)) % 256 = ((UInt8.ofNat (256 - H + (U - (256 - H)) % H)).toNat : Int) by
        rw [e1, show wrap64 ((256 - H + (U - (256 - H)) % H : Nat) : Int) = ((256 - H + (U - (256 - H)) % H : Nat) : Int) from by unfold wrap64; omega]
        exact u8_of _ _ rfl)
      have E1 := Lib.hid e1
      have E2 := Lib.hid e2
      clear e1 e2
      have HL2 := Lib.hid (show (L ++ [UInt8.ofNat (256 - H + (U - (256 - H)) % H)]) ++ putU H (B - 1 - (i + 1)) ((U - (256 - H)) / H) = putU H (B - 1) u by
        rw [← HL.out, List.append_assoc, hk, show B - 1 - (i + 1) = k from by omega]
        congr 1
        conv => rhs; unfold putU
        rw [if_neg (by omega)]; rfl)
      have HD := Lib.hid (show (U - (256 - H)) / H < reachU H (B - 1 - (i + 1)) by rw [show B - 1 - (i + 1) = k from by omega]; exact hd)
      generalize (U - (256 - H)) % H = r at *
      generalize (U - (256 - H)) / H = q at *
      have hp2 : ¬ ((U : Int) - (256 - (H : Int)) < 0) := by omega
      have hH0 : ((H : Int) == 0) = false := by simp; omega
      go_wp2_with (at_builtin; refine wpList_appBy rfl _ _ _ rfl w.heap.size _ L [UInt8.ofNat (256 - H + r)] rfl (HO.out.grow (k1.out _)) _ rfl (src_byte (heap_alloc_new _ _) _ e3.out) (by simp; omega) (Nat.le_trans hbw (k1.out _).size) ?_; intro v3 w3 hr3 hp3; have hx3 := box_hop (HO.out.grow (k1.out _)) hp3 (((k1.out _).block _ hz).trans HX.out) (by decide); have d1 := (blk_facts hx3).1 1; have hz3 := (Array.getElem?_eq_some_iff.1 hx3).1; have HX3 := Lib.hid hx3; have HR3 := Lib.hid hr3; have HP3 := Lib.hid ((HW.out.trans ((k1.out _).mono hbw)).trans (hop_base (HO.out.grow (k1.out _)) hp3 (Nat.le_refl _) (Nat.le_trans hbw (k1.out _).size))); clear hx3 hr3 hp3)
      go_roundw
      case rel => exact ⟨i + 1, q, _, by omega, by go_num, by rw [E2.out], HD.out, by omega, HL2.out, by simp; omega, HR3.out, HP3.out, HX3.out⟩
      case measure => simp [intOf]; omega
    · have hend : putU H (B - 1 - i) U = [UInt8.ofNat U] ∧ (decide ((U : Int) < 256 - (H : Int)) = true ∨ (decide ((U : Int) < 256 - (H : Int)) = false ∧ (((i : Int) + 1) == (B : Int)) = true)) := by
        by_cases h2 : U < 256 - H
        · refine ⟨?_, .inl (decide_eq_true (by omega))⟩
          cases B - 1 - i with
          | zero => rfl
          | succ k => unfold putU; rw [if_pos h2]
        · refine ⟨?_, .inr ⟨decide_eq_false (by omega), by simp; omega⟩⟩
          rw [show B - 1 - i = 0 from by omega]; rfl
      obtain ⟨he, hcase⟩ := hend
      have HL2 := Lib.hid (show L ++ [UInt8.ofNat U] = putU H (B - 1) u by rw [← HL.out, he])
      have e3 := Lib.hid (u8_of _ U rfl)
      clear he HL h1
      rcases hcase with p1 | ⟨p1, p2⟩
      all_goals
        go_wp2_with (at_builtin; refine wpList_appBy rfl _ _ _ rfl w.heap.size _ L [UInt8.ofNat U] rfl (HO.out.grow (k1.out _)) _ rfl (src_byte (heap_alloc_new _ _) _ e3.out) (by simp; omega) (Nat.le_trans hbw (k1.out _).size) ?_; intro v3 w3 hr3 hp3; have HR3 := Lib.hid hr3; have HP3 := Lib.hid ((HW.out.trans ((k1.out _).mono hbw)).trans (hop_base (HO.out.grow (k1.out _)) hp3 (Nat.le_refl _) (Nat.le_trans hbw (k1.out _).size))); clear hr3 hp3)
        go_ret
        exact ⟨_, rfl, HL2.out ▸ HR3.out, HP3.out⟩
set_option maxHeartbeats 8000000 in
set_option maxRecDepth 100000 in
theorem rrow_any (c : Cod) (hc : c.ok) (A : Option Addr) (cc : Nat) (l : List Int) (w : World) (hx : Ints w A cc l) (hI : ∀ v ∈ l, I64 v) (hl : l.length ≤ 10000000) :
    Calls Try.prog 17 #[c.val, .slice A l.length cc] w (RowRes (c.row 0 l) w) := by
  have HX := Lib.hid hx
  have HI := Lib.hid hI
  have HRt := Lib.hid (fun w => rright_any c hc w)
  have HBd := Lib.hid (fun v hv w => rbound_any c hc v hv w)
  have HRd := Lib.hid (fun v hv w => rround_any c hc v hv w)
  have HPl := Lib.hid (fun v h1 h2 w => rplain_any c hc v h1 h2 w)
  have HFt := Lib.hid (fun u w => rfits_any c hc u w)
  have HBy := Lib.hid (fun u hu w => rbytes_any c hc u hu w)
  have HC := Lib.hid hc
  clear hx hI hc
  unfold Cod.val at *
  go_enter Try.func17, Try.ntmps17
  go_wp2_with fail
  refine (HRt.out _).mono ?_
  rintro ex y ⟨rfl, hb1⟩
  have hbx : CBox y w.heap.size c := (hb1.block w.heap.size (by simp)).trans (heap_alloc_new w _)
  have d0 := (blk_facts hbx).1 0
  have d1 := (blk_facts hbx).1 1
  have d2 := (blk_facts hbx).1 2
  have d3 := (blk_facts hbx).1 3
  have hz := (Array.getElem?_eq_some_iff.1 hbx).1
  have HB := Lib.hid (Below.after' ((Below.refl w.heap.size w).alloc (Nat.le_refl _) _) hb1 (by simp))
  have HBX := Lib.hid hbx
  clear hb1 hbx
  go_wp2_with fail
  go_loopw [6, 7, 18] (fun x s t wr => ∃ (i : Nat) (last : Int) (L : List UInt8), i ≤ l.length ∧ t = .int .i64 i ∧ s = .int .i64 last ∧ -2147483648 ≤ last ∧ last < 4294967296 ∧ preB L (c.row last (l.drop i)) = c.row 0 l ∧ L.length ≤ 5 * i ∧ BRow wr w.heap.size 5 x L ∧ Below w.heap.size w wr ∧ CBox wr w.heap.size c) (fun _ _ t _ => l.length - (intOf t).toNat)
  case atStart => exact ⟨0, 0, [], Nat.zero_le _, rfl, rfl, by omega, by omega, by rw [List.drop_zero, preB_nil], by simp, BRow.nil _ _ _, HB.out, HBX.out⟩
  case round =>
    obtain ⟨i, last, L, hi, rfl, rfl, hl1, hl2, hL, hLl, hrow, hB, hbx⟩ := hrel
    obtain ⟨Aq, kq, rfl, _⟩ := hrow.at_
    have HL := Lib.hid hL
    have HR := Lib.hid hrow
    have HW := Lib.hid hB
    have HBX := Lib.hid hbx
    clear hL hB d0 d1 d2 d3 HB hz
    by_cases h1 : i < l.length
    · obtain ⟨g, o, v, rfl, hg, hvi, hct⟩ := (HX.out.grow HW.out).at_ h1
      have hv := HI.out v (List.mem_of_getElem? hvi)
      have hdr := Lib.hid (drop_atI hvi)
      have d0 := (blk_facts hbx).1 0
      have d1 := (blk_facts hbx).1 1
      have d2 := (blk_facts hbx).1 2
      have d3 := (blk_facts hbx).1 3
      have hz := (Array.getElem?_eq_some_iff.1 hbx).1
      clear hvi hbx hrow
      have p1 : decide ((i : Int) < (l.length : Int)) = true := decide_eq_true (by omega)
      go_wp2_with fail
      refine (HBd.out v hv _).mono ?_
      rintro ex y1 ⟨rfl, hb1⟩
      have HR1 := Lib.hid (HR.out.grow hb1)
      have HW1 := Lib.hid (Below.after' HW.out hb1 (Nat.le_refl _))
      have hbx1 := HBX.out.grow hb1
      have HBX1 := Lib.hid hbx1
      clear d0 d1 d2 d3 hz HR HW HBX hb1
      have d0 := (blk_facts hbx1).1 0
      have d1 := (blk_facts hbx1).1 1
      have d2 := (blk_facts hbx1).1 2
      have d3 := (blk_facts hbx1).1 3
      have hz := (Array.getElem?_eq_some_iff.1 hbx1).1
      clear hbx1
      cases hbd : boundI c.s v with
      | false =>
        have hfin := Lib.hid (HL.out.symm.trans (by rw [hdr.out, Cod.row_out c last v _ (by rw [hbd]; simp)]; try rfl))
        go_wp2_with fail
        go_ret2
        exact rowRes_none hfin.out rfl HW1.out
      | true =>
        have hvb := boundI_in hbd
        have HBD := Lib.hid hbd
        clear hbd
        by_cases hd : c.d = 1
        · have q : ((c.d : Int) == 1) = true := by simp; omega
          have HXD := Lib.hid (show c.diff last v = roundI c.s (v - last) by unfold Cod.diff; rw [if_pos hd])
          have HS1 := Lib.hid (fun w => HRd.out (v - last) (by omega) w)
          clear hd
          go_wp2_with fail
          refine (HS1.out _).mono ?_
          rintro ex y3 ⟨rfl, hb3⟩
          have HR3 := Lib.hid (HR1.out.grow hb3)
          have HW3 := Lib.hid (Below.after' HW1.out hb3 (Nat.le_refl _))
          have hbx3 := HBX1.out.grow hb3
          have HBX3 := Lib.hid hbx3
          clear d0 d1 d2 d3 hz HR1 HW1 HBX1 hb3 q HS1
          have d0 := (blk_facts hbx3).1 0
          have d1 := (blk_facts hbx3).1 1
          have d2 := (blk_facts hbx3).1 2
          have d3 := (blk_facts hbx3).1 3
          have hz := (Array.getElem?_eq_some_iff.1 hbx3).1
          clear hbx3
          generalize roundI c.s (v - last) = X at *
          have hdb := boundI_in (c.diff_bound (last := last) HBD.out)
          rw [HXD.out] at hdb
          have hpin := plainI_in (s := c.s) HC.out.2.2.2.2.1 (v := X) (by omega) (by omega)
          have HP4 := Lib.hid (fun w => HPl.out X (by omega) (by omega) w)
          clear hdb
          go_wp2_with fail
          refine (HFt.out X _).mono ?_
          rintro ex y4 ⟨rfl, hb4⟩
          have HR4 := Lib.hid (HR3.out.grow hb4)
          have HW4 := Lib.hid (Below.after' HW3.out hb4 (Nat.le_refl _))
          have hbx4 := HBX3.out.grow hb4
          have HBX4 := Lib.hid hbx4
          clear d0 d1 d2 d3 hz HR3 HW3 HBX3 hb4
          have d0 := (blk_facts hbx4).1 0
          have d1 := (blk_facts hbx4).1 1
          have d2 := (blk_facts hbx4).1 2
          have d3 := (blk_facts hbx4).1 3
          have hz := (Array.getElem?_eq_some_iff.1 hbx4).1
          clear hbx4
          cases hf : c.fits (plainI c.s X) with
          | false =>
            have hfin := Lib.hid (HL.out.symm.trans (by rw [hdr.out, Cod.row_out c last v _ (by rw [HXD.out, hf]; simp)]; try rfl))
            go_wp2_with fail
            go_ret2
            exact rowRes_none hfin.out rfl HW4.out
          | true =>
            obtain ⟨f0, f1⟩ := fits_small hf
            obtain ⟨n, hn⟩ : ∃ n : Nat, plainI c.s X = (n : Int) := ⟨(plainI c.s X).toNat, by omega⟩
            have hL2 := Lib.hid (show preB (L ++ putU c.h (c.b - 1) n) (c.row v (l.drop (i + 1))) = c.row 0 l by
              rw [← HL.out, hdr.out, Cod.row_ok c last v _ HBD.out (by rw [HXD.out, hf]), HXD.out, hn, preB_pre]; rfl)
            have hpl := putU_le5 HC.out n
            rw [hn] at HP4 f1
            have hsz4 := HW4.out.size
            have HBn := Lib.hid (fun w => HBy.out n (by simpa using f1) w)
            clear hf f0 f1 hpin hn
            go_wp2_with fail
            refine (HP4.out _).mono ?_
            rintro ex y5 ⟨rfl, hb5⟩
            have HR5 := Lib.hid (HR4.out.grow hb5)
            have HW5 := Lib.hid (Below.after' HW4.out hb5 (Nat.le_refl _))
            have hbx5 := HBX4.out.grow hb5
            have HBX5 := Lib.hid hbx5
            clear d0 d1 d2 d3 hz HR4 HW4 HBX4 hb5
            have d0 := (blk_facts hbx5).1 0
            have d1 := (blk_facts hbx5).1 1
            have d2 := (blk_facts hbx5).1 2
            have d3 := (blk_facts hbx5).1 3
            have hz := (Array.getElem?_eq_some_iff.1 hbx5).1
            clear hbx5
            go_wp2_with fail
            refine (HBn.out _).mono ?_
            rintro ex y6 ⟨v', rfl, hr6, hb6⟩
            obtain ⟨A6, c6, rfl, hba⟩ := hr6.at_
            have HBA := Lib.hid hba
            have HR6 := Lib.hid (HR5.out.grow hb6)
            have HW6 := Lib.hid (Below.after' HW5.out hb6 (Nat.le_refl _))
            have HBX6 := Lib.hid (HBX5.out.grow hb6)
            clear d0 d1 d2 d3 hz HR5 HW5 HBX5 hb6 hr6 hba HBn HP4
            go_wp2_with (at_builtin; refine wpList_appBy rfl _ _ _ rfl w.heap.size _ L (putU c.h (c.b - 1) n) rfl HR6.out _ rfl HBA.out.src (by omega) HW6.out.size ?_; intro v7 w7 hr7 hp7; have HR7 := Lib.hid hr7; have HW7 := Lib.hid (HW6.out.trans (hop_base HR6.out hp7 (Nat.le_refl _) HW6.out.size)); have HBX7 := Lib.hid (show CBox w7 w.heap.size c from box_hop HR6.out hp7 HBX6.out (by decide)); clear hr7 hp7)
            go_roundw
            case rel => exact ⟨i + 1, v, _, by omega, by go_num, rfl, by omega, by omega, hL2.out, by simp only [List.length_append]; omega, HR7.out, HW7.out, HBX7.out⟩
            case measure => simp [intOf]; omega
        · have q : ((c.d : Int) == 1) = false := by simp; omega
          have HXD := Lib.hid (show c.diff last v = v by unfold Cod.diff; rw [if_neg hd])
          have HR3 := HR1
          have HW3 := HW1
          have HBX3 := HBX1
          clear hd HR1 HW1 HBX1
          have hdb := boundI_in (c.diff_bound (last := last) HBD.out)
          rw [HXD.out] at hdb
          have hpin := plainI_in (s := c.s) HC.out.2.2.2.2.1 (v := v) (by omega) (by omega)
          have HP4 := Lib.hid (fun w => HPl.out v (by omega) (by omega) w)
          clear hdb
          go_wp2_with fail
          refine (HFt.out v _).mono ?_
          rintro ex y4 ⟨rfl, hb4⟩
          have HR4 := Lib.hid (HR3.out.grow hb4)
          have HW4 := Lib.hid (Below.after' HW3.out hb4 (Nat.le_refl _))
          have hbx4 := HBX3.out.grow hb4
          have HBX4 := Lib.hid hbx4
          clear d0 d1 d2 d3 hz HR3 HW3 HBX3 hb4
          have d0 := (blk_facts hbx4).1 0
          have d1 := (blk_facts hbx4).1 1
          have d2 := (blk_facts hbx4).1 2
          have d3 := (blk_facts hbx4).1 3
          have hz := (Array.getElem?_eq_some_iff.1 hbx4).1
          clear hbx4
          cases hf : c.fits (plainI c.s v) with
          | false =>
            have hfin := Lib.hid (HL.out.symm.trans (by rw [hdr.out, Cod.row_out c last v _ (by rw [HXD.out, hf]; simp)]; try rfl))
            go_wp2_with fail
            go_ret2
            exact rowRes_none hfin.out rfl HW4.out
          | true =>
            obtain ⟨f0, f1⟩ := fits_small hf
            obtain ⟨n, hn⟩ : ∃ n : Nat, plainI c.s v = (n : Int) := ⟨(plainI c.s v).toNat, by omega⟩
            have hL2 := Lib.hid (show preB (L ++ putU c.h (c.b - 1) n) (c.row v (l.drop (i + 1))) = c.row 0 l by
              rw [← HL.out, hdr.out, Cod.row_ok c last v _ HBD.out (by rw [HXD.out, hf]), HXD.out, hn, preB_pre]; rfl)
            have hpl := putU_le5 HC.out n
            rw [hn] at HP4 f1
            have hsz4 := HW4.out.size
            have HBn := Lib.hid (fun w => HBy.out n (by simpa using f1) w)
            clear hf f0 f1 hpin hn
            go_wp2_with fail
            refine (HP4.out _).mono ?_
            rintro ex y5 ⟨rfl, hb5⟩
            have HR5 := Lib.hid (HR4.out.grow hb5)
            have HW5 := Lib.hid (Below.after' HW4.out hb5 (Nat.le_refl _))
            have hbx5 := HBX4.out.grow hb5
            have HBX5 := Lib.hid hbx5
            clear d0 d1 d2 d3 hz HR4 HW4 HBX4 hb5
            have d0 := (blk_facts hbx5).1 0
            have d1 := (blk_facts hbx5).1 1
            have d2 := (blk_facts hbx5).1 2
            have d3 := (blk_facts hbx5).1 3
            have hz := (Array.getElem?_eq_some_iff.1 hbx5).1
            clear hbx5
            go_wp2_with fail
            refine (HBn.out _).mono ?_
            rintro ex y6 ⟨v', rfl, hr6, hb6⟩
            obtain ⟨A6, c6, rfl, hba⟩ := hr6.at_
            have HBA := Lib.hid hba
            have HR6 := Lib.hid (HR5.out.grow hb6)
            have HW6 := Lib.hid (Below.after' HW5.out hb6 (Nat.le_refl _))
            have HBX6 := Lib.hid (HBX5.out.grow hb6)
            clear d0 d1 d2 d3 hz HR5 HW5 HBX5 hb6 hr6 hba HBn HP4
            go_wp2_with (at_builtin; refine wpList_appBy rfl _ _ _ rfl w.heap.size _ L (putU c.h (c.b - 1) n) rfl HR6.out _ rfl HBA.out.src (by omega) HW6.out.size ?_; intro v7 w7 hr7 hp7; have HR7 := Lib.hid hr7; have HW7 := Lib.hid (HW6.out.trans (hop_base HR6.out hp7 (Nat.le_refl _) HW6.out.size)); have HBX7 := Lib.hid (show CBox w7 w.heap.size c from box_hop HR6.out hp7 HBX6.out (by decide)); clear hr7 hp7)
            go_roundw
            case rel => exact ⟨i + 1, v, _, by omega, by go_num, rfl, by omega, by omega, hL2.out, by simp only [List.length_append]; omega, HR7.out, HW7.out, HBX7.out⟩
            case measure => simp [intOf]; omega
    · have hii : i = l.length := by omega
      subst hii
      have p1 : decide ((l.length : Int) < (l.length : Int)) = false := decide_eq_false (by omega)
      have hfin := Lib.hid (HL.out.symm.trans (show preB L (c.row last (l.drop l.length)) = some (L ++ []) by rw [List.drop_length]; rfl))
      clear hrow hbx
      go_wp2_with fail
      go_ret2
      exact rowRes_some hfin.out rfl (by rw [List.append_nil]; exact HR.out) HW.out
end Go.Proofs.Ytbdkoagagcemcaa

/- The walk of BandBack: what is written is read as it was, and it is no longer than by any coding. -/
namespace Go.Proofs.Ytbdkoagagcemcaa
open Go.RowKit Pp

set_option maxHeartbeats 8000000 in
set_option maxRecDepth 100000 in
theorem bandback_law (A B : Option Addr) (c d : Nat) (l : List Int) (q : List UInt8) (w : World) (hx : Ints w A c l) (hI : ∀ v ∈ l, I64 v) (hy : BAt w B d q) :
    Calls Try.prog 3 #[.slice A l.length c, .slice B q.length d] w fun e w' => e = .returned (.bool true) ∧ Below w.heap.size w w' := by
  have HX := Lib.hid hx
  have HY := Lib.hid hy
  have HI := Lib.hid hI
  clear hx hy hI
  go_enter Try.func3, Try.ntmps3
  go_wp2_with fail
  refine (bfixed_any w).mono ?_
  rintro ex w0 ⟨rfl, hb0⟩
  have HB0 := Lib.hid hb0
  clear hb0
  by_cases hl : 300 < l.length
  · have p1 : decide ((300 : Int) < (l.length : Int)) = true := decide_eq_true (by omega)
    have p2 : decide (300 < l.length) = true := decide_eq_true hl
    clear hl
    go_wp2_with fail
    go_ret
    exact ⟨rfl, HB0.out⟩
  have p1 : decide ((300 : Int) < (l.length : Int)) = false := decide_eq_false (by omega)
  have p2 : decide (300 < l.length) = false := decide_eq_false hl
  by_cases hq : 50 < q.length
  · have p3 : decide ((50 : Int) < (q.length : Int)) = true := decide_eq_true (by omega)
    have p4 : decide (50 < q.length) = true := decide_eq_true hq
    go_wp2_with fail
    go_ret
    exact ⟨rfl, HB0.out⟩
  have p3 : decide ((50 : Int) < (q.length : Int)) = false := decide_eq_false (by omega)
  have p4 : decide (50 < q.length) = false := decide_eq_false hq
  go_wp2_with fail
  refine (bwrite_any A c l w0 (HX.out.grow HB0.out) HI.out (by omega)).mono ?_
  intro ex w1 hres
  cases hbd : boundsI l with
  | false =>
    rw [bandW_no hbd] at hres
    obtain ⟨rfl, hb1⟩ := hres
    have HB1 := Lib.hid (Below.after' HB0.out hb1 (Nat.le_refl _))
    have HBn := Lib.hid (bounds_any A c l w1 (HX.out.grow HB1.out) (by omega))
    rw [hbd] at HBn
    clear hb1
    go_wp2_with fail
    refine HBn.out.mono ?_
    rintro ex w2 ⟨rfl, ew⟩
    subst ew
    go_wp2_with fail
    go_ret
    exact ⟨rfl, HB1.out⟩
  | true =>
    obtain ⟨x, hbw⟩ := bandW_of hbd
    rw [hbw] at hres
    obtain ⟨u, rfl, hr1, hb1⟩ := hres
    have hxl := bandW_len hbw
    obtain ⟨A1, c1, rfl, hba1⟩ := hr1.at_
    have HB1 := Lib.hid (Below.after' HB0.out hb1 (Nat.le_refl _))
    have HBn := Lib.hid (bounds_any A c l w1 (HX.out.grow HB1.out) (by omega))
    rw [hbd] at HBn
    have HBA := Lib.hid hba1
    have HBW := Lib.hid hbw
    have hrd := Lib.hid (bandN_back hbw (by omega) q)
    clear hb1 hr1 hba1 hbw hbd
    go_wp2_with fail
    refine HBn.out.mono ?_
    rintro ex w2 ⟨rfl, ew⟩
    subst ew
    have k1 := Lib.hid ((Below.refl w1.heap.size w1).alloc (Nat.le_refl _) (.cells #[] 5))
    go_wp2_with (first | (at_builtin; refine wpList_appBy rfl _ _ _ rfl w1.heap.size _ [] x rfl (freshB (heap_alloc_new _ _) (Nat.le_refl _)) _ rfl (HBA.out.grow k1.out).src (by simp; omega) (by simp) ?_; intro v2 w2 hr2 hp2; have HR2 := Lib.hid hr2; have hb2 := (k1.out.trans (hp2.below (by simp) (fun k hk => by cases hk; simp))); have HB2 := Lib.hid (Below.after' HB1.out hb2 (Nat.le_refl _)); have HK2 := Lib.hid hb2; clear hr2 hp2 hb2) | (at_builtin; refine wpList_appBy rfl _ _ _ rfl w1.heap.size _ ([] ++ x) q rfl HR2.out _ rfl (HY.out.grow HB2.out).src (by simp; omega) HK2.out.size ?_; intro v3 w3 hr3 hp3; have HR3 := Lib.hid hr3; have HK3 := Lib.hid (HK2.out.trans (hop_base HR2.out hp3 (Nat.le_refl _) HK2.out.size)); clear hr3 hp3))
    have hr3 := HR3.out
    rw [List.nil_append] at hr3
    obtain ⟨A3, c3, rfl, hba3, hA3⟩ := brow_at2 hr3
    have HN := Lib.hid (cnew_any A3 c3 (x ++ q) w3 hba3 (by simp; omega) hA3)
    have HB3 := Lib.hid (Below.after' HB1.out HK3.out (Nat.le_refl _))
    have hql : (x ++ q).length ≤ 100000 := by simp; omega
    clear hr3 hba3 hA3 HR3 HR2 HK2 HB2 HK3 k1 HBA
    refine HN.out.mono ?_
    rintro ex w4 ⟨b, A4, c4, rfl, hc4, hbn, hb4⟩
    have HB4 := Lib.hid (Below.after' HB3.out hb4 (Nat.le_refl _))
    have hwb := Lib.hid (Nat.le_trans HB3.out.size hbn)
    have HRd := Lib.hid (bread_any hc4 (l.length : Int) (by unfold I64; omega) hql)
    clear hc4 hb4 HN HB3 hbn
    go_wp2_with fail
    refine HRd.out.mono ?_
    rintro ex w5 ⟨u5, vs, m, e5, rfl, hi5, hc5, ho5, _, hg5⟩
    have ho := ho5 rfl
    rw [List.drop_zero, hrd.out] at ho
    obtain ⟨rfl, hvs, hm⟩ := ho
    dsimp only at hm hi5 hvs
    have hvs := hvs.symm
    subst hvs
    have hml : ((x ++ q).length - m : Nat) = q.length := by
      have h1 := congrArg List.length hm
      rw [List.length_drop] at h1
      omega
    have HB5 := Lib.hid (HB4.out.grown hg5 HB4.out.size (fun k hk => by cases hk; exact hwb.out))
    obtain ⟨A5, c5, rfl, hI5, _⟩ := hi5
    have HSm := Lib.hid (bsame_any A5 A c5 c l l w5 hI5 (HX.out.grow HB5.out) (by omega) (by omega))
    rw [decide_eq_true (rfl : l = l)] at HSm
    have HC5 := Lib.hid hc5
    have HML := Lib.hid hml
    clear hc5 ho5 hg5 hI5 hm HRd hrd hml HB4 hwb
    go_wp2_with fail
    refine HSm.out.mono ?_
    rintro ex w6 ⟨rfl, hb6⟩
    have hc6 := HC5.out.grow hb6
    have HE6 := Lib.hid (cerr_any hc6)
    have HL6 := Lib.hid (cleft_any hc6)
    rw [HML.out] at HL6
    have HB6 := Lib.hid (Below.after' HB5.out hb6 (Nat.le_refl _))
    clear hb6 hc6 HSm HC5 HML HB5
    go_wp2_with fail
    refine HE6.out.mono ?_
    rintro ex w7 ⟨rfl, ew⟩
    have ew := ew.symm
    subst ew
    go_wp2_with fail
    refine HL6.out.mono ?_
    rintro ex w7 ⟨rfl, hb7⟩
    have HB7 := Lib.hid (Below.after' HB6.out hb7 (Nat.le_refl _))
    have hqq : ((q.length : Int) != (q.length : Int)) = false := by simp
    clear hb7 HE6 HL6 HB6
    go_wp2_with fail
    refine (codings_any w7).mono ?_
    rintro ex w8 ⟨rfl, hcd, hb8⟩
    have HCD := Lib.hid hcd
    have HB8 := Lib.hid (Below.after' HB7.out hb8 (Nat.le_refl _))
    clear hcd hb8 HB7
    go_wp2_with fail
    go_loopw [68] (fun t wr => ∃ i : Nat, i ≤ 15 ∧ t = .int .i64 i ∧ CodsAt wr w7.heap.size ∧ Below w.heap.size w wr) (fun t _ => 15 - (intOf t).toNat)
    case atStart => exact ⟨0, by omega, rfl, HCD.out, HB8.out⟩
    case round =>
      obtain ⟨i, hi, rfl, hcd, hB⟩ := hrel
      have HCD := Lib.hid hcd
      have HW := Lib.hid hB
      by_cases h1 : i < 15
      · obtain ⟨k, hc⟩ : ∃ k, cods[i]? = some k := ⟨_, List.getElem?_eq_getElem (show i < cods.length from h1)⟩
        have HOK := Lib.hid (cods_ok k (List.mem_of_getElem? hc))
        obtain ⟨d0, d1, d2, d3⟩ := hcd.at_ hc
        have hz := hcd.lt
        have hsh := Lib.hid (fun y hr => band_short HBW.out hc (b := y) hr)
        have k1 := Lib.hid ((Below.refl wr.heap.size wr).alloc (Nat.le_refl _) (.cells #[.int .i64 k.b, .int .i64 k.h, .int .i64 k.s, .int .i64 k.d] 38))
        have hbx : CBox (wr.alloc (.cells #[.int .i64 k.b, .int .i64 k.h, .int .i64 k.s, .int .i64 k.d] 38)) wr.heap.size k := heap_alloc_new _ _
        have HBX := Lib.hid hbx
        have HRw := rrow_any k HOK.out A c l _ (HX.out.grow (Below.after' HW.out k1.out (Nat.le_refl _))) HI.out (by omega)
        have HRt := Lib.hid (fun w => rright_any k HOK.out w)
        unfold Cod.val at HRw HRt
        have HRw := Lib.hid HRw
        have p5 : decide ((i : Int) < 15) = true := decide_eq_true (by omega)
        clear hc hcd hB hbx
        go_wp2_with fail
        refine HRw.out.mono ?_
        intro ex w9 hres
        have hkey : ∃ (u9 : Value) (e9 : Int) (n9 : Nat), ex = .returned (.tuple #[u9, .int .i64 e9]) ∧ (∃ A9 c9, u9 = .slice A9 n9 c9) ∧ ((e9 == 0) = false ∨ ((e9 == 0) = true ∧ x.length ≤ n9 + 1 ∧ n9 ≤ 1000000)) ∧ Below (wr.alloc (.cells #[.int .i64 k.b, .int .i64 k.h, .int .i64 k.s, .int .i64 k.d] 38)).heap.size (wr.alloc (.cells #[.int .i64 k.b, .int .i64 k.h, .int .i64 k.s, .int .i64 k.d] 38)) w9 := by
          cases hr : k.row 0 l with
          | none =>
            rw [hr] at hres
            obtain ⟨rfl, hb⟩ := hres
            exact ⟨_, 5, 0, rfl, ⟨_, _, rfl⟩, .inl rfl, hb⟩
          | some y =>
            rw [hr] at hres
            obtain ⟨u, rfl, hr9, hb⟩ := hres
            obtain ⟨A9, c9, rfl, _⟩ := hr9.at_
            have := row_lenB k HOK.out l 0 y hr
            exact ⟨_, 0, y.length, rfl, ⟨_, _, rfl⟩, .inr ⟨rfl, hsh.out y hr, by omega⟩, hb⟩
        obtain ⟨u9, e9, n9, rfl, ⟨A9, c9, rfl⟩, hcase, hb9⟩ := hkey
        have hbx9 := HBX.out.grow hb9
        have e1 := (blk_facts hbx9).1
        have f0 := e1 0
        have f1 := e1 1
        have f2 := e1 2
        have f3 := e1 3
        have hz9 := (Array.getElem?_eq_some_iff.1 hbx9).1
        have kk := k1.out.trans (hb9.mono k1.out.size)
        have HCD9 := Lib.hid (HCD.out.grow kk)
        have HW9 := Lib.hid (Below.after' HW.out kk (Nat.le_refl _))
        clear hres hb9 kk d0 d1 d2 d3 hz HRw hbx9 e1
        go_wp2_with fail
        refine (HRt.out _).mono ?_
        rintro ex w10 ⟨rfl, hb10⟩
        have HCD10 := Lib.hid (HCD9.out.grow hb10)
        have HW10 := Lib.hid (Below.after' HW9.out hb10 (Nat.le_refl _))
        clear hb10 f0 f1 f2 f3 hz9
        rcases hcase with h9 | ⟨h9, hle, hn9⟩
        · go_wp2_with fail
          go_roundw
          case rel => exact ⟨i + 1, by omega, by go_num, HCD10.out, HW10.out⟩
          case measure => simp [intOf]; omega
        · have p6 : decide (((n9 : Int) + 1) < (x.length : Int)) = false := decide_eq_false (by omega)
          have p7 : decide (n9 + 1 < x.length) = false := decide_eq_false (by omega)
          go_wp2_with fail
          go_roundw
          case rel => exact ⟨i + 1, by omega, by go_num, HCD10.out, HW10.out⟩
          case measure => simp [intOf]; omega
      · have hii : i = 15 := by omega
        subst hii
        have p5 : decide ((15 : Int) < 15) = false := by decide
        clear hcd hB
        go_wp2_with fail
        go_ret
        exact ⟨rfl, HW.out⟩
end Go.Proofs.Ytbdkoagagcemcaa

/- What came in: a row of ints, a row of bytes. -/
namespace Go.Proofs.Ytbdkoagagcemcaa
open Go.ChangeShapes Go.WideShapes Go.ChangeAt Go.RowKit

theorem cellsInt : Try.prog.cellsOf 3 = 1 := by kernel_rfl
theorem laidOutP : laidOutB Try.prog = true := by kernel_rfl
set_option maxRecDepth 100000 in
theorem view {H : Type} {enc : TypeId × Value → H} {W : World} {base : Nat} {v : Value} {d : DataW H} {p : List MemPlace} (hv : Value.okWide Try.prog W .any base 22 v) (h : DataW.Trod enc Try.prog W 0 (fun _ => true) true 22 v d p) :
    ∃ A c Z, v = .slice A (List.length Z) c ∧ Ints W A c Z ∧ ∀ x ∈ Z, I64 x := by
  obtain ⟨a0, len, cap, rfl⟩ := okWide_slice Try.underlying22 hv
  obtain ⟨fuel, hf⟩ := h
  rcases open_ints Try.underlying22 Try.underlying3 cellsInt hf with ⟨hcs, hx⟩ | ⟨a, len', cap', zs, hcs, _, hl, hm, hz, hx, hcell, hwz⟩
  · simp [Value.cells] at hcs
    obtain ⟨rfl, rfl, rfl⟩ := hcs
    exact ⟨none, 0, [], rfl, Ints.nil _ _ _, fun x hx => by simp at hx⟩
  · simp [Value.cells] at hcs
    obtain ⟨rfl, rfl, rfl⟩ := hcs
    simp only [if_true] at hz
    have hlen : (zs.take len).length = len := by rw [List.length_take]; omega
    refine ⟨some a, cap, zs.take len, by rw [hlen], ⟨by rw [hlen]; exact hl, fun hp => ?_⟩, fun x hx => bounds_i64 (hwz x (List.mem_of_mem_take hx))⟩
    rw [hlen] at hp
    obtain ⟨g, o, s⟩ := a
    have h0 := hcell 0 (by omega)
    have hs : s = none := by simpa [Addr.add] using World.cell?_spot h0
    subst hs
    refine ⟨g, o, rfl, by simpa [Addr.add] using World.block_lt_of_cell? W _ h0, fun j x hx => ?_⟩
    obtain ⟨h1, h2⟩ := List.getElem?_eq_some_iff.1 hx
    have hj : j < zs.length := by rw [hlen] at h1; omega
    have h3 := hcell j hj
    have e : Addr.add ⟨g, o, none⟩ j = ⟨g, o + j, none⟩ := by unfold Addr.add; split <;> simp_all
    rw [e] at h3
    rw [h3]
    have e2 : zs.getD j 0 = x := by rw [← h2]; simp [List.getD, hj]
    rw [e2]
theorem cellsByte : Try.prog.cellsOf 5 = 1 := by kernel_rfl
set_option maxRecDepth 100000 in
theorem viewB {H : Type} {enc : TypeId × Value → H} {W : World} {base : Nat} {v : Value} {d : DataW H} {p : List MemPlace} (hv : Value.okWide Try.prog W .any base 23 v) (h : DataW.Trod enc Try.prog W 0 (fun _ => true) true 23 v d p) :
    ∃ A c l, v = .slice A (List.length l) c ∧ BAt W A c l ∧ (A = none → c = 0) := by
  obtain ⟨a0, len, cap, rfl⟩ := okWide_slice Try.underlying23 hv
  obtain ⟨fuel, hf⟩ := h
  rcases open_ints Try.underlying23 Try.underlying5 cellsByte hf with ⟨hcs, hx⟩ | ⟨a, len', cap', zs, hcs, _, hl, hm, hz, hx, hcell, hwz⟩
  · simp [Value.cells] at hcs
    obtain ⟨rfl, rfl, rfl⟩ := hcs
    exact ⟨none, 0, [], rfl, ⟨Nat.le_refl _, fun h => by simp at h⟩, fun _ => rfl⟩
  · simp [Value.cells] at hcs
    obtain ⟨rfl, rfl, rfl⟩ := hcs
    simp only [if_true] at hz
    have hlen : ((zs.take len).map fun n => UInt8.ofNat n.toNat).length = len := by simp; omega
    refine ⟨some a, cap, (zs.take len).map fun n => UInt8.ofNat n.toNat, by rw [hlen], ⟨by rw [hlen]; exact hl, fun hp => ?_⟩, fun e => by cases e⟩
    rw [hlen] at hp
    obtain ⟨g, o, s⟩ := a
    have h0 := hcell 0 (by omega)
    have hs : s = none := by simpa [Addr.add] using World.cell?_spot h0
    subst hs
    refine ⟨g, o, rfl, by simpa [Addr.add] using World.block_lt_of_cell? W _ h0, fun j x hx => ?_⟩
    obtain ⟨h1, h2⟩ := List.getElem?_eq_some_iff.1 hx
    have hj : j < zs.length := by rw [hlen] at h1; omega
    have h3 := hcell j hj
    rw [Addr.add_lit] at h3
    rw [h3]
    have hb := range_u8 hwz j
    simp only [List.getElem_map, List.getElem_take] at h2
    have e : zs.getD j 0 = zs[j]'hj := by simp [List.getD, List.getElem?_eq_getElem hj]
    have e' : zs[j]?.getD 0 = zs[j]'hj := by simp [List.getElem?_eq_getElem hj]
    rw [e'] at hb
    rw [e]
    rw [← h2]
    congr 2
    simp only [UInt8.toNat_ofNat']
    omega
end Go.Proofs.Ytbdkoagagcemcaa
