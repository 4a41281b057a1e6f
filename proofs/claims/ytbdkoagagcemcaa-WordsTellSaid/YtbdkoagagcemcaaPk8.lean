/- Joined texts: RhI, BdL, WdP, WdQ, WdE. -/
import Derived.Test.YtbdkoagagcemcaaPk7
import Derived.Deep.Cut
import Derived.Test.YtbdkoagagcemcaaPk5
import Derived.Test.YtbdkoagagcemcaaPk6
import Derived.Test.YtbdkoagagcemcaaPk3
import Derived.Below
import Derived.Deep.OwnRows
import Derived.Deep.DeepCutAuto
import Derived.Deep.RegionWith
import Derived.StillTailTactics
import Derived.LoopN
import Derived.Deep.Onto
/- The walk of layer 26's statement: a band, or one of three rows, read by the document. -/
namespace Go.Proofs.Ytbdkoagagcemcaa
open Go.RowKit Pp

section
variable {x : World} {b : Nat} {A : Option Addr} {cc : Nat} {l : List UInt8} {n : Nat} {e : Int}
set_option maxHeartbeats 8000000 in
set_option maxRecDepth 100000 in
theorem lread_any (h : RCur x b A cc l n 0) (k : Nat) (hk : k ≤ 9223372036854775807) (hl : l.length ≤ 100000) :
    Calls Try.prog 19 #[.pointer (some ⟨b, 0, none⟩), .int .i64 k, .bool true] x (RNext b A cc l n 0 (bandR k (l.drop n)) x) := by
  have H0 := Lib.hid h
  have hnl := h.le
  have hbl := h.lt
  by_cases hend : n < l.length
  · obtain ⟨a, ha⟩ : ∃ a, l[n]? = some a := ⟨_, List.getElem?_eq_getElem hend⟩
    have HB := Lib.hid (rbig_ok h ha)
    have hab := a.toNat_lt
    have hdr := Lib.hid (drop_atI ha)
    clear h ha
    go_enter Try.func19, Try.ntmps19
    go_wp2_with fail
    refine HB.out.mono ?_
    rintro ex z ⟨rfl, hc1, hg1⟩
    have HC1 := Lib.hid hc1
    have HG1 := Lib.hid hg1
    have f0 := hc1.cb
    have f1 := hc1.ca
    have f2 := hc1.ce
    have ff := hc1.frozen 2
    have fz := hc1.lt
    clear hc1 hg1 HB
    by_cases h255 : a = 255
    · have qa : ((a.toNat : Int) == 255) = true := by rw [h255]; rfl
      have hjn := Lib.hid (show bandR k (l.drop n) = joinR k (l.drop (n + 1)) by rw [hdr.out, h255]; exact bandR_join _ _)
      clear h255
      go_wp2_with fail
      refine (codings_any z).mono ?_
      rintro ex z1 ⟨rfl, _, hb2⟩
      have hc2 := HC1.out.grow hb2
      have HC2 := Lib.hid hc2
      have HG2 := Lib.hid (grownBy_trans HG1.out (grownBy_below hb2 none) (.inr fun g e => by cases e))
      clear f0 f1 f2 ff fz hb2 HC1 HG1
      have f0 := hc2.cb
      have f1 := hc2.ca
      have f2 := hc2.ce
      have ff := hc2.frozen 2
      have fz := hc2.lt
      have hmany : ∃ (mm m1 : Nat) (e1 : Int) (ca : Calls Try.prog 40 #[.pointer (some ⟨b, 0, none⟩), .int .i64 1] z1 fun ex y => ex = .returned (.int .u64 (mm : Int)) ∧ RCur y b A cc l m1 e1 ∧ z1.grownBy y (some b)),
          mm ≤ 255 ∧ ((e1 = 0 ∧ 1 ≤ mm ∧ mm ≤ 15 ∧ bandR k (l.drop n) = trio mm k (l.drop m1)) ∨ (e1 = 6 ∧ bandR k (l.drop n) = .error 6) ∨ (e1 = 0 ∧ (mm < 1 ∨ 15 < mm) ∧ bandR k (l.drop n) = .error 2)) := by
        rw [hjn.out]
        by_cases hend2 : n + 1 < l.length
        · obtain ⟨a2, ha2⟩ : ∃ a2, l[n + 1]? = some a2 := ⟨_, List.getElem?_eq_getElem hend2⟩
          have hab2 := a2.toNat_lt
          refine ⟨a2.toNat, n + 1 + 1, 0, rbig_ok hc2 ha2, by omega, ?_⟩
          rw [drop_atI ha2]
          by_cases hm : a2.toNat < 1 ∨ 15 < a2.toNat
          · exact .inr (.inr ⟨rfl, hm, joinR_bad hm _⟩)
          · exact .inl ⟨rfl, by omega, by omega, joinR_trio hm _⟩
        · refine ⟨0, n + 1, 6, rbig_end hc2 (by omega), by omega, .inr (.inl ⟨rfl, ?_⟩)⟩
          rw [List.drop_of_length_le (by omega)]
          rfl
      obtain ⟨mm, m1, e1, ca, hmm, hcase⟩ := hmany
      have HCA := Lib.hid ca
      have HCS0 := Lib.hid hcase
      clear ca hcase hc2
      go_wp2_with fail
      refine HCA.out.mono ?_
      rintro ex zm ⟨rfl, hcm, hgm⟩
      have HCM := Lib.hid hcm
      have HGM := Lib.hid (grownBy_trans HG2.out hgm (.inl rfl))
      clear f0 f1 f2 ff fz hgm HCA HC2 HG2
      have hcs := HCS0.out
      clear HCS0
      rcases hcs with ⟨rfl, q1, q2, hjo⟩ | ⟨rfl, hjo⟩ | ⟨rfl, q1, hjo⟩
      · have q3 : decide ((mm : Int) < 1) = false := decide_eq_false (by omega)
        have q4 : decide ((15 : Int) < (mm : Int)) = false := decide_eq_false (by omega)
        have q5 : decide (15 < mm) = false := decide_eq_false (by omega)
        have q6 : decide (mm < 1) = false := decide_eq_false (by omega)
        have HJO := Lib.hid hjo
        have f0 := hcm.cb
        have f1 := hcm.ca
        have f2 := hcm.ce
        have ff := hcm.frozen 2
        have fz := hcm.lt
        clear hjo hcm
        have HN1 := Lib.hid (lread_one HCM.out mm (by omega))
        go_wp2_with fail
        refine HN1.out.mono ?_
        rintro ex w1 ⟨u1, fs, n1, r1, rfl, hr1, hc1, ho1, hb1, hg1⟩
        have HR1 := Lib.hid hr1
        have HD1 := Lib.hid hc1
        have HO1 := Lib.hid ho1
        have HB1 := Lib.hid hb1
        have HG1b := Lib.hid (grownBy_trans HGM.out hg1 (.inl rfl))
        clear hr1 hc1 ho1 hb1 hg1 HN1 f0 f1 f2 ff fz
        have HN2 := Lib.hid (lread_one HD1.out k hk)
        go_wp2_with fail
        refine HN2.out.mono ?_
        rintro ex w2 ⟨u2, ts, n2, r2, rfl, hr2, hc2, ho2, hb2, hg2⟩
        have HR12 := Lib.hid (HR1.out.kept hg2 (by have := HCM.out.lt; omega))
        have HD2 := Lib.hid hc2
        have HO2 := Lib.hid ho2
        have HB2 := Lib.hid hb2
        have HG2 := Lib.hid (grownBy_trans HG1b.out hg2 (.inl rfl))
        obtain ⟨A2, c2, rfl, hi2, hf2⟩ := hr2
        have htl : ts.length ≤ 100000 := by
          by_cases h0 : r1 = 0
          · have g1 := outc_len (ho2 h0)
            rw [List.length_drop] at g1
            omega
          · rw [(hb2 h0).1]; simp
        have HR2 := Lib.hid (show IRead w2 w1.heap.size (.slice A2 ts.length c2) ts from ⟨A2, c2, rfl, hi2, hf2⟩)
        have HCn := Lib.hid (count_any A2 c2 ts 0 w2 hi2 (by omega))
        have hcl : ts.count 0 ≤ ts.length := List.count_le_length
        clear hc2 ho2 hb2 hg2 HN2 HR1 hi2 hf2
        go_wp2_with fail
        refine HCn.out.mono ?_
        rintro ex w2b ⟨rfl, ew⟩
        subst ew
        have HN3 := Lib.hid (lread_one HD2.out (ts.count 0) (by omega))
        go_wp2_with fail
        refine HN3.out.mono ?_
        rintro ex w3 ⟨u3, rs, n3, r3, rfl, hr3, hc3, ho3, hb3, hg3⟩
        have HR13 := Lib.hid (HR12.out.kept hg3 (by have := HCM.out.lt; omega))
        have HR23 := Lib.hid (HR2.out.kept hg3 (by have := HD1.out.lt; omega))
        have HR3 := Lib.hid hr3
        have HD3 := Lib.hid hc3
        have HO3 := Lib.hid ho3
        have HB3 := Lib.hid hb3
        have HG3 := Lib.hid (grownBy_trans HG2.out hg3 (.inl rfl))
        have f0 := hc3.cb
        have f1 := hc3.ca
        have f2 := hc3.ce
        have ff := hc3.frozen 2
        have fz := hc3.lt
        clear hr3 hc3 ho3 hb3 hg3 HN3 HR12 HR2 HCn
        have hkey := trio_of (m := mm) (n := k) (HO1.out (by trivial)) HO2.out HB2.out HO3.out HB3.out
        have HK := Lib.hid hkey
        clear hkey
        by_cases hr0 : r3 = 0
        · subst hr0
          obtain ⟨hj, hfl, htl2, _, hkl, hrl, hI, hJ⟩ : (trio mm k (l.drop m1) = if Po.err fs ts rs = 0 then .ok (Po.out fs ts rs, l.drop n3) else .error (Po.err fs ts rs)) ∧ fs.length = mm ∧ ts.length = k ∧ mm ≤ (l.drop m1).length ∧ k ≤ (l.drop n1).length ∧ rs.length = ts.count 0 ∧ (∀ v ∈ fs, I64 v) ∧ (∀ v ∈ rs, I64 v) := by
            rcases HK.out with ⟨h, _⟩ | ⟨_, h⟩
            · exact absurd rfl h
            · exact h
          have HJ := Lib.hid (HJO.out.trans hj)
          obtain ⟨A1, k1, rfl, hi1, _⟩ := HR13.out
          obtain ⟨A2', k2, e2', hi2, _⟩ := HR23.out
          cases e2'
          obtain ⟨A3, k3, rfl, hi3, _⟩ := HR3.out
          have HJn := Lib.hid (rjoin_any A1 A2 A3 k1 c2 k3 fs ts rs w3 hi1 hi2 hi3 (by omega) (by omega) (by omega))
          clear hi1 hi2 hi3 hI hJ hj HR13 HR23 HR3 HK hfl htl2 hrl hkl
          go_wp2_with fail
          refine HJn.out.mono ?_
          rintro ex w5 ⟨A5, k5, rfl, ⟨hi5, hf5⟩, hb5⟩
          have hc5 := HD3.out.grow hb5
          have HG5 := grownBy_trans HG3.out (grownBy_below hb5 none) (.inr fun g e => by cases e)
          have hst5 := hc5.turned 2 (.int .i64 (Po.err fs ts rs))
          have HC6 := Lib.hid (hc5.setErr (Po.err fs ts rs))
          have HG6 := Lib.hid (grownBy_trans HG5 hst5 (.inl rfl))
          have hI5 : IRead w5 x.heap.size (.slice A5 (Po.out fs ts rs).length k5) (Po.out fs ts rs) := ⟨A5, k5, rfl, hi5, fun g o e => Nat.le_trans HG3.out.size (hf5 g o e)⟩
          have HI6 := Lib.hid (hI5.kept hst5 hbl)
          clear f0 f1 f2 ff fz
          have f0 := hc5.cb
          have f1 := hc5.ca
          have f2 := hc5.ce
          have ff := hc5.frozen 2
          have fz := hc5.lt
          clear hi5 hf5 hb5 hc5 HG5 hst5 hI5 HJn
          go_wp2_with fail
          go_ret
          refine ⟨_, _, _, _, rfl, HI6.out, HC6.out, fun _ => ?_, fun h => absurd rfl h, HG6.out⟩
          rw [HJ.out]
          by_cases her : Po.err fs ts rs = 0
          · rw [if_pos her]; exact ⟨her, rfl, rfl⟩
          · rw [if_neg her, po_out_err her]; exact ⟨rfl, her, rfl⟩
        · have q7 : (r3 != 0) = true := by simpa using hr0
          have hfin := Lib.hid (show bandR k (l.drop n) = .error r3 by
            rcases HK.out with ⟨_, h⟩ | ⟨h, _⟩
            · exact HJO.out.trans h
            · exact absurd h hr0)
          have HRN := Lib.hid hr0
          clear hr0
          go_wp2_with fail
          go_ret
          exact ⟨_, [], _, r3, rfl, IRead.nil _ _, HD3.out, fun _ => outc_error hfin.out HRN.out, fun h => absurd rfl h, HG3.out⟩
      · have q8 : ((6 : Int) == 0) = false := rfl
        have HJO := Lib.hid hjo
        have HNE := Lib.hid (show (6 : Int) ≠ 0 by decide)
        have f0 := hcm.cb
        have f1 := hcm.ca
        have f2 := hcm.ce
        have ff := hcm.frozen 2
        have fz := hcm.lt
        clear hjo hcm
        have HN1 := Lib.hid (lread_one (e := 6) HCM.out mm (by omega))
        go_wp2_with fail
        refine HN1.out.mono ?_
        rintro ex w1 ⟨u1, fs, n1, r1, rfl, hr1, hc1, ho1, hb1, hg1⟩
        have HR1 := Lib.hid hr1
        have HD1 := Lib.hid hc1
        have HO1 := Lib.hid ho1
        have HB1 := Lib.hid hb1
        have HG1b := Lib.hid (grownBy_trans HGM.out hg1 (.inl rfl))
        clear hr1 hc1 ho1 hb1 hg1 HN1 f0 f1 f2 ff fz
        have HN2 := Lib.hid (lread_one HD1.out k hk)
        go_wp2_with fail
        refine HN2.out.mono ?_
        rintro ex w2 ⟨u2, ts, n2, r2, rfl, hr2, hc2, ho2, hb2, hg2⟩
        have HR12 := Lib.hid (HR1.out.kept hg2 (by have := HCM.out.lt; omega))
        have HD2 := Lib.hid hc2
        have HO2 := Lib.hid ho2
        have HB2 := Lib.hid hb2
        have HG2 := Lib.hid (grownBy_trans HG1b.out hg2 (.inl rfl))
        obtain ⟨A2, c2, rfl, hi2, hf2⟩ := hr2
        have htl : ts.length ≤ 100000 := by
          by_cases h0 : r1 = 0
          · have g1 := outc_len (ho2 h0)
            rw [List.length_drop] at g1
            omega
          · rw [(hb2 h0).1]; simp
        have HR2 := Lib.hid (show IRead w2 w1.heap.size (.slice A2 ts.length c2) ts from ⟨A2, c2, rfl, hi2, hf2⟩)
        have HCn := Lib.hid (count_any A2 c2 ts 0 w2 hi2 (by omega))
        have hcl : ts.count 0 ≤ ts.length := List.count_le_length
        clear hc2 ho2 hb2 hg2 HN2 HR1 hi2 hf2
        go_wp2_with fail
        refine HCn.out.mono ?_
        rintro ex w2b ⟨rfl, ew⟩
        subst ew
        have HN3 := Lib.hid (lread_one HD2.out (ts.count 0) (by omega))
        go_wp2_with fail
        refine HN3.out.mono ?_
        rintro ex w3 ⟨u3, rs, n3, r3, rfl, hr3, hc3, ho3, hb3, hg3⟩
        have HR13 := Lib.hid (HR12.out.kept hg3 (by have := HCM.out.lt; omega))
        have HR23 := Lib.hid (HR2.out.kept hg3 (by have := HD1.out.lt; omega))
        have HR3 := Lib.hid hr3
        have HD3 := Lib.hid hc3
        have HO3 := Lib.hid ho3
        have HB3 := Lib.hid hb3
        have HG3 := Lib.hid (grownBy_trans HG2.out hg3 (.inl rfl))
        have f0 := hc3.cb
        have f1 := hc3.ca
        have f2 := hc3.ce
        have ff := hc3.frozen 2
        have fz := hc3.lt
        clear hr3 hc3 ho3 hb3 hg3 HN3 HR12 HR2 HCn
        obtain ⟨rfl, rfl⟩ := HB1.out HNE.out
        obtain ⟨rfl, rfl⟩ := HB2.out HNE.out
        obtain ⟨rfl, rfl⟩ := HB3.out HNE.out
        have q7 : ((6 : Int) != 0) = true := by decide
        go_wp2_with fail
        go_ret
        exact ⟨_, [], _, 6, rfl, IRead.nil _ _, HD3.out, fun _ => outc_error HJO.out HNE.out, fun h => absurd rfl h, HG3.out⟩
      · have HJO := Lib.hid hjo
        have HNE := Lib.hid (show (2 : Int) ≠ 0 by decide)
        have HCS := Lib.hid (HCM.out.setErr 2)
        have HGS := Lib.hid (grownBy_trans HGM.out (HCM.out.turned 2 (.int .i64 2)) (.inl rfl))
        have hbm := HCM.out.lt
        have f0 := hcm.cb
        have f1 := hcm.ca
        have f2 := hcm.ce
        have ff := hcm.frozen 2
        have fz := hcm.lt
        clear hjo hcm
        rcases q1 with q1 | q1
        · have q3 : decide ((mm : Int) < 1) = true := decide_eq_true (by omega)
          have q6 : decide (mm < 1) = true := decide_eq_true (by omega)
          go_upto_region 9 with fail
          generalize hZ : zm.setCell ⟨b, 2, none⟩ (.int .i64 2) = zs at *
          clear hZ
          have HN1 := Lib.hid (lread_one HCS.out mm (by omega))
          go_wp2_with fail
          refine HN1.out.mono ?_
          rintro ex w1 ⟨u1, fs, n1, r1, rfl, hr1, hc1, ho1, hb1, hg1⟩
          have HR1 := Lib.hid hr1
          have HD1 := Lib.hid hc1
          have HO1 := Lib.hid ho1
          have HB1 := Lib.hid hb1
          have HG1b := Lib.hid (grownBy_trans HGS.out hg1 (.inl rfl))
          clear hr1 hc1 ho1 hb1 hg1 HN1 f0 f1 f2 ff fz
          have HN2 := Lib.hid (lread_one HD1.out k hk)
          go_wp2_with fail
          refine HN2.out.mono ?_
          rintro ex w2 ⟨u2, ts, n2, r2, rfl, hr2, hc2, ho2, hb2, hg2⟩
          have HR12 := Lib.hid (HR1.out.kept hg2 (by have := HCS.out.lt; omega))
          have HD2 := Lib.hid hc2
          have HO2 := Lib.hid ho2
          have HB2 := Lib.hid hb2
          have HG2 := Lib.hid (grownBy_trans HG1b.out hg2 (.inl rfl))
          obtain ⟨A2, c2, rfl, hi2, hf2⟩ := hr2
          have htl : ts.length ≤ 100000 := by
            by_cases h0 : r1 = 0
            · have g1 := outc_len (ho2 h0)
              rw [List.length_drop] at g1
              omega
            · rw [(hb2 h0).1]; simp
          have HR2 := Lib.hid (show IRead w2 w1.heap.size (.slice A2 ts.length c2) ts from ⟨A2, c2, rfl, hi2, hf2⟩)
          have HCn := Lib.hid (count_any A2 c2 ts 0 w2 hi2 (by omega))
          have hcl : ts.count 0 ≤ ts.length := List.count_le_length
          clear hc2 ho2 hb2 hg2 HN2 HR1 hi2 hf2
          go_wp2_with fail
          refine HCn.out.mono ?_
          rintro ex w2b ⟨rfl, ew⟩
          subst ew
          have HN3 := Lib.hid (lread_one HD2.out (ts.count 0) (by omega))
          go_wp2_with fail
          refine HN3.out.mono ?_
          rintro ex w3 ⟨u3, rs, n3, r3, rfl, hr3, hc3, ho3, hb3, hg3⟩
          have HR13 := Lib.hid (HR12.out.kept hg3 (by have := HCS.out.lt; omega))
          have HR23 := Lib.hid (HR2.out.kept hg3 (by have := HD1.out.lt; omega))
          have HR3 := Lib.hid hr3
          have HD3 := Lib.hid hc3
          have HO3 := Lib.hid ho3
          have HB3 := Lib.hid hb3
          have HG3 := Lib.hid (grownBy_trans HG2.out hg3 (.inl rfl))
          have f0 := hc3.cb
          have f1 := hc3.ca
          have f2 := hc3.ce
          have ff := hc3.frozen 2
          have fz := hc3.lt
          clear hr3 hc3 ho3 hb3 hg3 HN3 HR12 HR2 HCn
          obtain ⟨rfl, rfl⟩ := HB1.out HNE.out
          obtain ⟨rfl, rfl⟩ := HB2.out HNE.out
          obtain ⟨rfl, rfl⟩ := HB3.out HNE.out
          have q7 : ((2 : Int) != 0) = true := by decide
          go_wp2_with fail
          go_ret
          exact ⟨_, [], _, 2, rfl, IRead.nil _ _, HD3.out, fun _ => outc_error HJO.out HNE.out, fun h => absurd rfl h, HG3.out⟩
        · have q3 : decide ((mm : Int) < 1) = false := decide_eq_false (by omega)
          have q4 : decide ((15 : Int) < (mm : Int)) = true := decide_eq_true (by omega)
          have q5 : decide (15 < mm) = true := decide_eq_true (by omega)
          have q6 : decide (mm < 1) = false := decide_eq_false (by omega)
          go_upto_region 9 with fail
          generalize hZ : zm.setCell ⟨b, 2, none⟩ (.int .i64 2) = zs at *
          clear hZ
          have HN1 := Lib.hid (lread_one HCS.out mm (by omega))
          go_wp2_with fail
          refine HN1.out.mono ?_
          rintro ex w1 ⟨u1, fs, n1, r1, rfl, hr1, hc1, ho1, hb1, hg1⟩
          have HR1 := Lib.hid hr1
          have HD1 := Lib.hid hc1
          have HO1 := Lib.hid ho1
          have HB1 := Lib.hid hb1
          have HG1b := Lib.hid (grownBy_trans HGS.out hg1 (.inl rfl))
          clear hr1 hc1 ho1 hb1 hg1 HN1 f0 f1 f2 ff fz
          have HN2 := Lib.hid (lread_one HD1.out k hk)
          go_wp2_with fail
          refine HN2.out.mono ?_
          rintro ex w2 ⟨u2, ts, n2, r2, rfl, hr2, hc2, ho2, hb2, hg2⟩
          have HR12 := Lib.hid (HR1.out.kept hg2 (by have := HCS.out.lt; omega))
          have HD2 := Lib.hid hc2
          have HO2 := Lib.hid ho2
          have HB2 := Lib.hid hb2
          have HG2 := Lib.hid (grownBy_trans HG1b.out hg2 (.inl rfl))
          obtain ⟨A2, c2, rfl, hi2, hf2⟩ := hr2
          have htl : ts.length ≤ 100000 := by
            by_cases h0 : r1 = 0
            · have g1 := outc_len (ho2 h0)
              rw [List.length_drop] at g1
              omega
            · rw [(hb2 h0).1]; simp
          have HR2 := Lib.hid (show IRead w2 w1.heap.size (.slice A2 ts.length c2) ts from ⟨A2, c2, rfl, hi2, hf2⟩)
          have HCn := Lib.hid (count_any A2 c2 ts 0 w2 hi2 (by omega))
          have hcl : ts.count 0 ≤ ts.length := List.count_le_length
          clear hc2 ho2 hb2 hg2 HN2 HR1 hi2 hf2
          go_wp2_with fail
          refine HCn.out.mono ?_
          rintro ex w2b ⟨rfl, ew⟩
          subst ew
          have HN3 := Lib.hid (lread_one HD2.out (ts.count 0) (by omega))
          go_wp2_with fail
          refine HN3.out.mono ?_
          rintro ex w3 ⟨u3, rs, n3, r3, rfl, hr3, hc3, ho3, hb3, hg3⟩
          have HR13 := Lib.hid (HR12.out.kept hg3 (by have := HCS.out.lt; omega))
          have HR23 := Lib.hid (HR2.out.kept hg3 (by have := HD1.out.lt; omega))
          have HR3 := Lib.hid hr3
          have HD3 := Lib.hid hc3
          have HO3 := Lib.hid ho3
          have HB3 := Lib.hid hb3
          have HG3 := Lib.hid (grownBy_trans HG2.out hg3 (.inl rfl))
          have f0 := hc3.cb
          have f1 := hc3.ca
          have f2 := hc3.ce
          have ff := hc3.frozen 2
          have fz := hc3.lt
          clear hr3 hc3 ho3 hb3 hg3 HN3 HR12 HR2 HCn
          obtain ⟨rfl, rfl⟩ := HB1.out HNE.out
          obtain ⟨rfl, rfl⟩ := HB2.out HNE.out
          obtain ⟨rfl, rfl⟩ := HB3.out HNE.out
          have q7 : ((2 : Int) != 0) = true := by decide
          go_wp2_with fail
          go_ret
          exact ⟨_, [], _, 2, rfl, IRead.nil _ _, HD3.out, fun _ => outc_error HJO.out HNE.out, fun h => absurd rfl h, HG3.out⟩
    · have hne : a.toNat ≠ 255 := fun e => h255 (UInt8.toNat_inj.1 (by rw [e]; rfl))
      have qa : ((a.toNat : Int) == 255) = false := by simp; omega
      have hfin := Lib.hid (show bandR k (l.drop n) = plainR a.toNat k (l.drop (n + 1)) by rw [hdr.out]; exact bandR_cons h255 _)
      clear h255 hne
      go_wp2_with fail
      refine (codings_any z).mono ?_
      rintro ex z1 ⟨rfl, hcd, hb2⟩
      have hc2 := HC1.out.grow hb2
      have HC2 := Lib.hid hc2
      have HG2 := Lib.hid (grownBy_trans HG1.out (grownBy_below hb2 none) (.inr fun g e => by cases e))
      have HCD := Lib.hid hcd
      have hzx := Lib.hid HG1.out.size
      have hm2 := hc2.le
      have hs2 := hc2.small
      clear f0 f1 f2 ff fz hb2 hcd HC1 HG1
      have f0 := hc2.cb
      have f1 := hc2.ca
      have f2 := hc2.ce
      have ff := hc2.frozen 2
      have fz := hc2.lt
      clear hc2
      by_cases hkd : a.toNat < 15
      · have q1 : decide ((15 : Int) ≤ (a.toNat : Int)) = false := decide_eq_false (by omega)
        have q2 : decide (15 ≤ a.toNat) = false := decide_eq_false (by omega)
        obtain ⟨c, hc⟩ : ∃ c, cods[a.toNat]? = some c := ⟨_, List.getElem?_eq_getElem (show a.toNat < cods.length from hkd)⟩
        have hok := Lib.hid (cods_ok c (List.mem_of_getElem? hc))
        have HCC := Lib.hid hc
        clear hc
        by_cases hlt : l.length - (n + 1) < k
        · have q3 : decide ((l.length : Int) - ((n : Int) + 1) < (k : Int)) = true := decide_eq_true (by omega)
          have hfin2 := Lib.hid (show bandR k (l.drop n) = .error 6 by
            rw [hfin.out]
            unfold plainR; rw [HCC.out]; dsimp only; rw [if_pos (by rw [List.length_drop]; exact hlt)])
          have HS := Lib.hid (fun y (k : Below z1.heap.size z1 y) => (HC2.out.grow k).setErr 6)
          have HT := Lib.hid (fun y (k : Below z1.heap.size z1 y) => grownBy_trans (grownBy_trans HG2.out (grownBy_below k none) (.inr fun g e => by cases e)) ((HC2.out.grow k).turned 2 (.int .i64 6)) (.inl rfl))
          clear hlt
          go_wp2_with fail
          go_region
          go_wp2_with fail
          go_ret
          exact ⟨_, [], _, 6, rfl, IRead.nil _ _, HS.out _ (Below.refl _ _).drew, fun _ => outc_error hfin2.out (by decide), fun h => absurd rfl h, HT.out _ (Below.refl _ _).drew⟩
        · have q3 : decide ((l.length : Int) - ((n : Int) + 1) < (k : Int)) = false := decide_eq_false (by omega)
          have hfin2 := Lib.hid (show bandR k (l.drop n) = c.read k 0 (l.drop (n + 1)) by
            rw [hfin.out]
            unfold plainR; rw [HCC.out]; dsimp only; rw [if_neg (by rw [List.length_drop]; exact hlt)])
          have HRR := Lib.hid (fun y (kk : Below z1.heap.size z1 y) => rreadrow_any c hok.out (HC2.out.grow kk) k hk)
          unfold Cod.val at HRR
          have HAT := Lib.hid (fun y (kk : Below z1.heap.size z1 y) => (HCD.out.grow kk).at_ HCC.out)
          obtain ⟨g0, g1, g2, g3⟩ := HCD.out.at_ HCC.out
          have gz := HCD.out.lt
          clear hlt
          go_wp2_with fail
          go_region
          go_wp2_with fail
          refine (HRR.out _ (Below.refl _ _).drew).mono ?_
          rintro ex z3 ⟨u, vs, m, e, rfl, hr4, hc4, ho4, hg4⟩
          have HC4 := Lib.hid hc4
          have HG4 := Lib.hid (grownBy_trans (grownBy_trans HG2.out (grownBy_below (Below.refl _ _).drew none) (.inr fun g e => by cases e)) hg4 (.inl rfl))
          have HR4 := Lib.hid ((IRead.of hr4).lower (Nat.le_trans HG2.out.size (Nat.le_refl _)))
          have HO4 := Lib.hid ho4
          clear hc4 hg4 hr4 ho4 HRR
          go_wp2_with fail
          go_ret
          exact ⟨u, vs, m, e, rfl, HR4.out, HC4.out, fun _ => by rw [hfin2.out]; exact HO4.out, fun h => absurd rfl h, HG4.out⟩
      · have q1 : decide ((15 : Int) ≤ (a.toNat : Int)) = true := decide_eq_true (by omega)
        have q2 : decide (15 ≤ a.toNat) = true := decide_eq_true (by omega)
        have hfin2 := Lib.hid (show bandR k (l.drop n) = .error 9 by rw [hfin.out]; exact plainR_kind hkd _)
        have HS := Lib.hid (HC2.out.setErr 9)
        have HT := Lib.hid (grownBy_trans HG2.out (HC2.out.turned 2 (.int .i64 9)) (.inl rfl))
        clear hkd
        go_wp2_with fail
        go_ret
        exact ⟨_, [], _, 9, rfl, IRead.nil _ _, HS.out, fun _ => outc_error hfin2.out (by decide), fun h => absurd rfl h, HT.out⟩
  · have HB := Lib.hid (rbig_end h (by omega))
    have hfin := Lib.hid (show bandR k (l.drop n) = .error 6 by rw [List.drop_of_length_le (by omega)]; rfl)
    clear h
    go_enter Try.func19, Try.ntmps19
    go_wp2_with fail
    refine HB.out.mono ?_
    rintro ex z ⟨rfl, hc1, hg1⟩
    have HC1 := Lib.hid hc1
    have HG1 := Lib.hid hg1
    clear hc1 hg1 HB
    go_wp2_with fail
    refine (codings_any z).mono ?_
    rintro ex z1 ⟨rfl, _, hb2⟩
    have hc2 := HC1.out.grow hb2
    have HC2 := Lib.hid hc2
    have HG2 := Lib.hid (grownBy_trans HG1.out (grownBy_below hb2 none) (.inr fun g e => by cases e))
    have f0 := hc2.cb
    have f1 := hc2.ca
    have f2 := hc2.ce
    have ff := hc2.frozen 2
    have fz := hc2.lt
    clear hc2 hb2
    go_wp2_with fail
    go_ret
    exact ⟨_, [], _, 6, rfl, IRead.nil _ _, HC2.out, fun _ => outc_error hfin.out (by decide), fun h => absurd rfl h, HG2.out⟩
end
end Go.Proofs.Ytbdkoagagcemcaa

/- The walk of BandReads: which row any bytes tell, and what is wrong, is what the document says. -/
namespace Go.Proofs.Ytbdkoagagcemcaa
open Go.RowKit Pp

theorem read_rest (c : Cod) : ∀ (n : Nat) (last : Int) (r : List UInt8) (q : List Int × List UInt8), c.read n last r = .ok q → ∃ j, n ≤ j ∧ j ≤ r.length ∧ q.2 = r.drop j
  | 0, last, r, q, h => by
    simp only [Cod.read, Except.ok.injEq] at h
    subst h
    exact ⟨0, Nat.le_refl _, Nat.zero_le _, rfl⟩
  | n + 1, last, r, q, h => by
    rw [Cod.read_succ] at h
    cases hg : c.get r with
    | error e => rw [hg] at h; cases h
    | ok p =>
      obtain ⟨j1, a1, a2, a3⟩ := Cod.get_moves (v := p.1) (r := p.2) hg
      rw [hg] at h
      dsimp only at h
      split at h
      · cases hr : c.read n (c.sum last p.1) p.2 with
        | error e => rw [hr] at h; cases h
        | ok q2 =>
          rw [hr] at h
          simp only [pre, Except.ok.injEq] at h
          subst h
          obtain ⟨j2, b1, b2, b3⟩ := read_rest c n _ _ _ hr
          rw [a3, List.length_drop] at b2
          refine ⟨j1 + j2, by omega, by omega, ?_⟩
          dsimp only
          rw [b3, a3, List.drop_drop]
      · cases h
theorem plainR_rest {kind n : Nat} {r : List UInt8} {q : List Int × List UInt8} (h : plainR kind n r = .ok q) : ∃ j, n ≤ j ∧ j ≤ r.length ∧ q.2 = r.drop j := by
  unfold plainR at h
  cases hc : cods[kind]? with
  | none => rw [hc] at h; cases h
  | some c =>
    rw [hc] at h
    dsimp only at h
    split at h
    · cases h
    · exact read_rest c n 0 r q h
theorem nextR_rest {n : Nat} {r : List UInt8} {q : List Int × List UInt8} (h : nextR n r = .ok q) : ∃ j, n + 1 ≤ j ∧ j ≤ r.length ∧ q.2 = r.drop j := by
  cases r with
  | nil => cases h
  | cons k r =>
    obtain ⟨j, h1, h2, h3⟩ := plainR_rest (show plainR k.toNat n r = .ok q from h)
    exact ⟨j + 1, by omega, by simp; omega, by rw [h3]; rfl⟩
theorem trio_facts {m n : Nat} {L : List UInt8} {q : List Int × List UInt8} (h : trio m n L = .ok q) : q.1.length = n ∧ ∃ j, n ≤ j ∧ j ≤ L.length ∧ q.2 = L.drop j := by
  unfold trio at h
  cases g1 : nextR m L with
  | error e => rw [g1] at h; cases h
  | ok p1 =>
    obtain ⟨fs, r1⟩ := p1
    rw [g1] at h
    dsimp only at h
    cases g2 : nextR n r1 with
    | error e => rw [g2] at h; cases h
    | ok p2 =>
      obtain ⟨ts, r2⟩ := p2
      rw [g2] at h
      dsimp only at h
      cases g3 : nextR (ts.count 0) r2 with
      | error e => rw [g3] at h; cases h
      | ok p3 =>
        obtain ⟨rs, r3⟩ := p3
        rw [g3] at h
        dsimp only at h
        split at h
        · rename_i he
          cases h
          dsimp only
          obtain ⟨j1, a1, a2, a3⟩ := nextR_rest g1
          obtain ⟨j2, b1, b2, b3⟩ := nextR_rest g2
          obtain ⟨j3, c1, c2, c3⟩ := nextR_rest g3
          dsimp only at a3 b3 c3
          have hts := (nextR_facts g2).1
          dsimp only at hts
          rw [a3, List.length_drop] at b2
          rw [b3, a3, List.length_drop, List.length_drop] at c2
          refine ⟨by unfold Po.out; rw [if_pos he, Po.rowN_length, hts], j1 + j2 + j3, by omega, by omega, ?_⟩
          rw [c3, b3, a3, List.drop_drop, List.drop_drop, Nat.add_assoc]
        · cases h
/-- A band that is read has no more numbers than bytes. -/
theorem bandR_facts {n : Nat} {L : List UInt8} {q : List Int × List UInt8} (h : bandR n L = .ok q) : q.1.length = n ∧ ∃ j, n ≤ j ∧ j ≤ L.length ∧ q.2 = L.drop j := by
  cases L with
  | nil => cases h
  | cons k r =>
    by_cases hk : k = 255
    · subst hk
      rw [bandR_join] at h
      cases r with
      | nil => cases h
      | cons m r =>
        by_cases hm : m.toNat < 1 ∨ 15 < m.toNat
        · rw [joinR_bad hm] at h; cases h
        · rw [joinR_trio hm] at h
          obtain ⟨h1, j, h2, h3, h4⟩ := trio_facts h
          exact ⟨h1, j + 2, by omega, by simp; omega, by rw [h4]; rfl⟩
    · rw [bandR_cons hk] at h
      have h1 := (plainR_facts h).1
      obtain ⟨j, h2, h3, h4⟩ := plainR_rest h
      exact ⟨h1, j + 1, by omega, by simp; omega, by rw [h4]; rfl⟩
theorem outc_band_len {n : Nat} {L r : List UInt8} {vs : List Int} {e : Int} (h : Outc (bandR n L) [] vs e r) : vs.length ≤ L.length := by
  cases g : bandR n L with
  | error e2 =>
    rw [g] at h
    rw [h.2.2]
    simp
  | ok p =>
    rw [g] at h
    obtain ⟨h1, j, h2, h3, _⟩ := bandR_facts g
    rw [h.2.1]
    omega
theorem outc_same {o : Except Int (List Int × List UInt8)} {v v' : List Int} {e e' : Int} {r r' : List UInt8} (h : Outc o [] v e r) (k : Outc o [] v' e' r') : v' = v ∧ e' = e ∧ (e = 0 → r' = r) := by
  cases o with
  | error q =>
    obtain ⟨rfl, h1, rfl⟩ := h
    obtain ⟨rfl, _, rfl⟩ := k
    exact ⟨rfl, rfl, fun h => absurd h h1⟩
  | ok p =>
    obtain ⟨rfl, rfl, rfl⟩ := h
    obtain ⟨rfl, rfl, rfl⟩ := k
    exact ⟨rfl, rfl, fun _ => rfl⟩
theorem drop_same {l : List UInt8} {m m' : Nat} (h : m ≤ l.length) (h' : m' ≤ l.length) (e : l.drop m' = l.drop m) : m' = m := by
  have := congrArg List.length e
  simp only [List.length_drop] at this
  omega
set_option maxHeartbeats 8000000 in
set_option maxRecDepth 100000 in
theorem bandreads_law (A : Option Addr) (c : Nat) (l : List UInt8) (n : Int) (w : World) (hx : BAt w A c l) (hA : A = none → c = 0) (hn : I64 n) :
    Calls Try.prog 4 #[.slice A l.length c, .int .i64 n] w fun e w' => e = .returned (.bool true) ∧ Below w.heap.size w w' := by
  have HX := Lib.hid hx
  have HA := Lib.hid hA
  have HN := Lib.hid hn
  unfold I64 at hn
  clear hx hA
  go_enter Try.func4, Try.ntmps4
  go_wp2_with fail
  refine (bfixed_any w).mono ?_
  rintro ex w0 ⟨rfl, hb0⟩
  have HB0 := Lib.hid hb0
  clear hb0
  by_cases hl : 300 < l.length
  · have p1 : decide ((300 : Int) < (l.length : Int)) = true := decide_eq_true (by omega)
    have p2 : decide (300 < l.length) = true := decide_eq_true hl
    clear hl
    go_wp2_with fail
    go_ret
    exact ⟨rfl, HB0.out⟩
  have p1 : decide ((300 : Int) < (l.length : Int)) = false := decide_eq_false (by omega)
  have p2 : decide (300 < l.length) = false := decide_eq_false hl
  go_wp2_with fail
  refine (cnew_any A c l w0 (HX.out.grow HB0.out) (by omega) HA.out).mono ?_
  rintro ex w1 ⟨b, A1, c1, rfl, hc1, hbn, hb1⟩
  have HB1 := Lib.hid (Below.after' HB0.out hb1 (Nat.le_refl _))
  have hwb := Lib.hid (Nat.le_trans HB0.out.size hbn)
  have hw1b := hc1.lt
  have HC0 := Lib.hid hc1
  have k2 := (Below.refl w1.heap.size w1).alloc (Nat.le_refl _) (.cells #[.slice A l.length c, .int .i64 0, .int .i64 0] 44)
  have hr2 : RCur (w1.alloc (.cells #[.slice A l.length c, .int .i64 0, .int .i64 0] 44)) w1.heap.size A c l 0 0 := ⟨heap_alloc_new _ _, HX.out.grow (Below.after' HB1.out k2 (Nat.le_refl _)), Nat.zero_le _, by omega⟩
  have HRd := Lib.hid (bread_any (hc1.grow k2) n HN.out (by omega))
  have HR2 := Lib.hid hr2
  have HB2 := Lib.hid (Below.after' HB1.out k2 (Nat.le_refl _))
  have hws := Lib.hid HB1.out.size
  clear hc1 hb1 hbn k2 hr2
  go_wp2_with fail
  refine HRd.out.mono ?_
  rintro ex w3 ⟨u3, vs, m, e3, rfl, hi3, hc3, ho3, _, hg3⟩
  have ho := ho3 rfl
  rw [List.drop_zero] at ho
  have HB3 := Lib.hid (HB2.out.grown hg3 HB2.out.size (fun k hk => by cases hk; exact hwb.out))
  obtain ⟨A3, c3, rfl, hI3, hf3⟩ := hi3
  have HE3 := Lib.hid (cerr_any hc3)
  have hm3 := hc3.le
  have HC3 := Lib.hid hc3
  have hr3 : RCur w3 w1.heap.size A c l 0 0 := ⟨(hg3.block w1.heap.size (by simp) (by intro e; injection e with e; omega)).trans HR2.out.box, HX.out.grow HB3.out, Nat.zero_le _, by omega⟩
  have HR3 := Lib.hid hr3
  have HI3 := Lib.hid (show IRead w3 (w1.heap.size + 1) (.slice A3 vs.length c3) vs from ⟨A3, c3, rfl, hI3, fun g o e => by simpa using hf3 g o e⟩)
  clear ho3 hg3 hI3 hf3 HRd hr3 hc3
  by_cases hr : n < 0 ∨ 16777216 < n
  · rw [bandN_out hr] at ho
    obtain ⟨rfl, _, rfl⟩ := ho
    have hcase : decide (n < 0) = true ∨ (decide (n < 0) = false ∧ decide (16777216 < n) = true) := by
      rcases hr with h | h
      · exact .inl (decide_eq_true h)
      · exact .inr ⟨decide_eq_false (by omega), decide_eq_true h⟩
    clear hr
    simp only [List.length_nil]
    rcases hcase with q1 | ⟨q1, q2⟩
    all_goals
      go_wp2_with fail
      refine HE3.out.mono ?_
      rintro ex w4 ⟨rfl, ew⟩
      have ew := ew.symm
      subst ew
      go_wp2_with fail
      go_ret
      exact ⟨rfl, HB3.out⟩
  · have q1 : decide (n < 0) = false := decide_eq_false (by omega)
    have q2 : decide (16777216 < n) = false := decide_eq_false (by omega)
    rw [bandN_in hr] at ho
    obtain ⟨k, rfl⟩ : ∃ k : Nat, n = (k : Int) := ⟨n.toNat, by omega⟩
    rw [Int.toNat_natCast] at ho
    have HO := Lib.hid ho
    have HLr := Lib.hid (lread_any HR3.out k (by omega) (by omega))
    clear hr ho
    go_wp2_with fail
    refine HLr.out.mono ?_
    rintro ex w5 ⟨u5, vs5, m5, e5, rfl, hi5, hc5, ho5, _, hg5⟩
    have ho := ho5 (by trivial)
    rw [List.drop_zero] at ho
    obtain ⟨rfl, rfl, hrest⟩ := outc_same HO.out ho
    have hm5 := hc5.le
    have hvl := outc_band_len HO.out
    have hmm : e5 = 0 → m5 = m := fun h => drop_same hm3 hm5 (hrest h)
    have HI3b := HI3.out.kept hg5 (Nat.lt_succ_self _)
    obtain ⟨A6, c6, e6, hI6, _⟩ := HI3b
    cases e6
    obtain ⟨A5, c5, rfl, hI5, _⟩ := hi5
    have hc5b := HC0.out.hop HC3.out hg5 (fun g e => by cases e; exact Nat.le_refl _)
    have HB5 := Lib.hid (HB3.out.grown hg5 HB3.out.size (fun k hk => by cases hk; exact hws.out))
    have f1 := hc5.ca
    have f2 := hc5.ce
    have fz := hc5.lt
    have HSm := Lib.hid (fun g : Gr w5 => bsame_any A3 A5 c3 c5 vs5 vs5 g.1 (hI6.grow g.2) (hI5.grow g.2) (by omega) (by omega))
    rw [show decide (vs5 = vs5) = true from decide_eq_true rfl] at HSm
    have HE5 := Lib.hid (fun g : Gr w5 => cerr_any (hc5b.grow g.2))
    have HA5 := Lib.hid (fun g : Gr w5 => cat_any (hc5b.grow g.2))
    clear hc5 ho5 ho hI6 hI5 hc5b hrest
    by_cases he : e5 = 0
    · have hm9 := hmm he
      subst he
      subst hm9
      have q3 : ((m5 : Int) == (m5 : Int)) = true := by simp
      have fz9 : w1.heap.size < w5.heap.size := fz
      clear hmm
      go_wp2_with fail
      refine wp_region_grow (by kernel_rfl) (by kernel_rfl) ?_
      repeat (go_big_quiet_step ((first | (go_at_call 12; with_reducible exact Gr.call (HSm.out _)) | (go_at_call 14; exact Gr.same ((HE5.out _).mono fun _ _ h => ⟨h.1, h.2.symm⟩)) | (go_at_call 20; exact Gr.same ((HA5.out _).mono fun _ _ h => ⟨h.1, h.2.symm⟩)))))
      refine wpQuiet_nil ?_
      intro g1
      obtain ⟨w1, hb1⟩ := g1
      have HB6 := Lib.hid (Below.after' HB5.out hb1 (Nat.le_refl _))
      dsimp only
      clear hb1
      go_wp2_with fail
      go_ret
      exact ⟨rfl, HB6.out⟩
    · have q3 : (e5 == e5) = true := by simp
      have q4 : (e5 != 0) = true := by simpa using he
      clear hmm he
      have fz9 : w1.heap.size < w5.heap.size := fz
      go_wp2_with fail
      refine wp_region_grow (by kernel_rfl) (by kernel_rfl) ?_
      repeat (go_big_quiet_step ((first | (go_at_call 12; with_reducible exact Gr.call (HSm.out _)) | (go_at_call 14; exact Gr.same ((HE5.out _).mono fun _ _ h => ⟨h.1, h.2.symm⟩)) | (go_at_call 20; exact Gr.same ((HA5.out _).mono fun _ _ h => ⟨h.1, h.2.symm⟩)))))
      refine wpQuiet_nil ?_
      intro g1
      obtain ⟨w1, hb1⟩ := g1
      have HB6 := Lib.hid (Below.after' HB5.out hb1 (Nat.le_refl _))
      dsimp only
      clear hb1
      go_wp2_with fail
      go_ret
      exact ⟨rfl, HB6.out⟩
end Go.Proofs.Ytbdkoagagcemcaa

/- Plain facts of layer 27 for its walks: columns by place; a row of numbers that is made; what is written. -/
namespace Go.Proofs.Ytbdkoagagcemcaa
open Go.RowKit Pp

/-- The text ahead of place i. -/
def wPrev (last : List UInt8) (l : List (List UInt8)) (i : Nat) : List UInt8 := if i = 0 then last else (l[i - 1]?).getD []
theorem wPrev_succ {last : List UInt8} {l : List (List UInt8)} {i : Nat} {s : List UInt8} (h : l[i]? = some s) : wPrev last l (i + 1) = s := by simp [wPrev, h]
theorem wPrev_cons (a : List UInt8) (last : List UInt8) (l : List (List UInt8)) (i : Nat) : wPrev last (a :: l) (i + 1) = wPrev a l i := by
  unfold wPrev
  cases i <;> simp
theorem wBegins_get {l : List (List UInt8)} : ∀ {i : Nat} {last s : List UInt8}, l[i]? = some s → (wBegins last l)[i]? = some ((shared (wPrev last l i) s : Nat) : Int) := by
  induction l with
  | nil => intro i last s h; simp at h
  | cons a l ih =>
    intro i last s h
    cases i with
    | zero =>
      simp at h
      subst h
      simp [wBegins, wPrev]
    | succ i =>
      rw [wPrev_cons]
      simpa [wBegins] using ih (last := a) (by simpa using h)
theorem wMore_get {l : List (List UInt8)} : ∀ {i : Nat} {last s : List UInt8}, l[i]? = some s → (wMore last l)[i]? = some ((s.length - shared (wPrev last l i) s : Nat) : Int) := by
  induction l with
  | nil => intro i last s h; simp at h
  | cons a l ih =>
    intro i last s h
    cases i with
    | zero =>
      simp at h
      subst h
      simp [wMore, wPrev]
    | succ i =>
      rw [wPrev_cons]
      simpa [wMore] using ih (last := a) (by simpa using h)
theorem wTail_at {l : List (List UInt8)} {i : Nat} {s p : List UInt8} (h : l[i]? = some s) : wTail p (l.drop i) = s.drop (shared p s) ++ wTail s (l.drop (i + 1)) := by
  rw [drop_atW h]
  rfl
theorem wTail_len : ∀ (l : List (List UInt8)) (last : List UInt8), (wTail last l).length ≤ sumL l
  | [], _ => by simp [wTail]
  | s :: l, last => by
    have := wTail_len l s
    have hs : sumL (s :: l) = s.length + sumL l := by simp [sumL]
    simp only [wTail, List.length_append, List.length_drop, hs]
    omega
theorem sumL_mem {l : List (List UInt8)} {i : Nat} {s : List UInt8} (h : l[i]? = some s) : s.length ≤ sumL l := by
  have h1 := sumL_take_succ h
  have h2 := sumL_take_le l (i + 1)
  omega
theorem wBegins_mem : ∀ (l : List (List UInt8)) (last : List UInt8), ∀ v ∈ wBegins last l, 0 ≤ v ∧ v ≤ (sumL l : Nat)
  | [], _, v, hv => by cases hv
  | s :: l, last, v, hv => by
    have hs : sumL (s :: l) = s.length + sumL l := by simp [sumL]
    rcases List.mem_cons.1 hv with rfl | hv
    · have := shared_le_r last s
      omega
    · have := wBegins_mem l s v hv
      omega
theorem wMore_mem : ∀ (l : List (List UInt8)) (last : List UInt8), ∀ v ∈ wMore last l, 0 ≤ v ∧ v ≤ (sumL l : Nat)
  | [], _, v, hv => by cases hv
  | s :: l, last, v, hv => by
    have hs : sumL (s :: l) = s.length + sumL l := by simp [sumL]
    rcases List.mem_cons.1 hv with rfl | hv
    · omega
    · have := wMore_mem l s v hv
      omega
theorem nat_bounds {xs : List Int} (h : ∀ v ∈ xs, 0 ≤ v ∧ v ≤ 1000000000) : boundsI xs = true := by
  unfold boundsI
  rw [Bool.or_eq_true]
  refine .inl (List.all_eq_true.2 fun v hv => ?_)
  have := h v hv
  unfold boundI
  rw [if_pos rfl]
  exact decide_eq_true ⟨this.1, by omega⟩
theorem nat_i64 {xs : List Int} (h : ∀ v ∈ xs, 0 ≤ v ∧ v ≤ 1000000000) : ∀ v ∈ xs, I64 v := fun v hv => by
  have := h v hv
  unfold I64
  omega
/-- What is written of a list that may be. -/
theorem words_some (l : List (List UInt8)) (hl : l.length ≤ 100000) (hs : sumL l ≤ 1000000000) : ∃ a b c, bandW [(l.length : Int)] = some a ∧ bandW (wBegins [] l) = some b ∧ bandW (wMore [] l) = some c ∧ wordsB l = some (a ++ b ++ c ++ wTail [] l) := by
  obtain ⟨a, ha⟩ := bandW_of (nat_bounds (xs := [(l.length : Int)]) fun v hv => by rw [List.mem_singleton] at hv; omega)
  obtain ⟨b, hb⟩ := bandW_of (nat_bounds (xs := wBegins [] l) fun v hv => by have := wBegins_mem l [] v hv; omega)
  obtain ⟨c, hc⟩ := bandW_of (nat_bounds (xs := wMore [] l) fun v hv => by have := wMore_mem l [] v hv; omega)
  refine ⟨a, b, c, ha, hb, hc, ?_⟩
  unfold wordsB
  rw [ha, hb, hc]
  rfl
theorem words_len {l : List (List UInt8)} {x : List UInt8} (h : wordsB l = some x) : x.length ≤ sumL l + 10 * l.length + 20 := by
  obtain ⟨a, b, c, ha, hb, hc, rfl⟩ := wordsB_some h
  have h1 := bandW_len ha
  have h2 := bandW_len hb
  have h3 := bandW_len hc
  have h4 := wTail_len l []
  rw [wBegins_len] at h2
  rw [wMore_len] at h3
  simp only [List.length_append, List.length_cons, List.length_nil] at h1 ⊢
  omega
theorem getD_of {xs : List Int} {i : Nat} {v : Int} (h : xs[i]? = some v) : xs.getD i 0 = v := by rw [List.getD_eq_getElem?_getD, h]; rfl
/-- A made row, filled. -/
theorem ints_full {w : World} {g n : Nat} {f : Nat → Value} {xs : List Int} (h : w.rowIs g 3 n f) (hn : xs.length = n) (hf : ∀ j, j < n → f j = .int .i64 (xs.getD j 0)) : Ints w (some ⟨g, 0, none⟩) n xs :=
  ⟨by omega, fun _ => ⟨g, 0, rfl, h.lt, fun j x hx => by
    have hj : j < n := by have := (List.getElem?_eq_some_iff.1 hx).1; omega
    rw [Nat.zero_add, h.cell hj, hf j hj, getD_of hx]⟩⟩
theorem rows_below {w y : World} {g n : Nat} {t : TypeId} {f : Nat → Value} (h : w.rowIs g t n f) (k : Below w.heap.size w y) : y.rowIs g t n f := h.of_block (k.block g h.lt)
theorem brow_set {w : World} {base : Nat} {v : Value} {l : List UInt8} (h : BRow w base 5 v l) {g : Nat} (hg : g < base) (o : Nat) (u : Value) : BRow (w.setCell ⟨g, o, none⟩ u) base 5 v l := ownsRow_setCell_below h hg u
theorem brow_mono {w : World} {base base2 : Nat} {v : Value} {l : List UInt8} (h : BRow w base 5 v l) (hb : base2 ≤ base) : BRow w base2 5 v l :=
  ⟨h.1, h.2.imp id fun ⟨g, cap, cur, e, h1, r⟩ => ⟨g, cap, cur, e, Nat.le_trans hb h1, r⟩⟩
theorem three_get {a b c x : List UInt8} {i : Nat} (h : [a, b, c][i]? = some x) : (([a, b, c].take (i + 1)).flatten : List UInt8) = ([a, b, c].take i).flatten ++ x := by
  match i, h with
  | 0, h => simp at h; subst h; simp
  | 1, h => simp at h; subst h; simp
  | 2, h => simp at h; subst h; simp
  | i + 3, h => simp at h
theorem three_len {a b c : List UInt8} (i : Nat) : (([a, b, c].take i).flatten : List UInt8).length ≤ a.length + b.length + c.length := by
  match i with
  | 0 => simp
  | 1 => simp; omega
  | 2 => simp
  | i + 3 => simp; omega
theorem wd_from (s : List UInt8) (k : Nat) (hk : k ≤ s.length) (w : World) : (Instr.slice 9 (.string (bs s)) (some (.int .i64 (k : Nat))) none none).run Try.prog w = .ok (.string (bs (s.drop k))) w := by
  have hz := bs_size s
  rw [run_slice_string_from_if w 9 (bs s) .i64 k (by kernel_rfl), if_pos (by omega), bs_extract, Int.toNat_natCast, List.take_of_length_le (by rw [List.length_drop]; omega)]
end Go.Proofs.Ytbdkoagagcemcaa

/- Plain facts of layer 27 for reading, and the cursor's bytes beyond the end. -/
namespace Go.Proofs.Ytbdkoagagcemcaa
open Go.RowKit Pp

theorem getD_in {l : List Int} (h : ∀ v ∈ l, -2147483648 ≤ v ∧ v < 4294967296) (i : Nat) : -2147483648 ≤ l.getD i 0 ∧ l.getD i 0 < 4294967296 := by
  rw [List.getD_eq_getElem?_getD]
  cases hi : l[i]? with
  | none => simp
  | some v => exact h v (List.mem_of_getElem? hi)
theorem trio_in {m n : Nat} {L : List UInt8} {q : List Int × List UInt8} (h : trio m n L = .ok q) : ∀ v ∈ q.1, -2147483648 ≤ v ∧ v < 4294967296 := by
  unfold trio at h
  cases g1 : nextR m L with
  | error e => rw [g1] at h; cases h
  | ok p1 =>
    obtain ⟨fs, r1⟩ := p1
    rw [g1] at h
    dsimp only at h
    cases g2 : nextR n r1 with
    | error e => rw [g2] at h; cases h
    | ok p2 =>
      obtain ⟨ts, r2⟩ := p2
      rw [g2] at h
      dsimp only at h
      cases g3 : nextR (ts.count 0) r2 with
      | error e => rw [g3] at h; cases h
      | ok p3 =>
        obtain ⟨rs, r3⟩ := p3
        rw [g3] at h
        dsimp only at h
        split at h
        · rename_i he
          cases h
          intro v hv
          unfold Po.out at hv
          rw [if_pos he] at hv
          unfold Po.rowN at hv
          obtain ⟨j, _, rfl⟩ := List.mem_map.1 hv
          unfold Po.el
          split
          · exact getD_in (nextR_facts g1).2.2 _
          · exact getD_in (nextR_facts g3).2.2 _
        · cases h
theorem band_in {n : Nat} {L : List UInt8} {q : List Int × List UInt8} (h : bandR n L = .ok q) : ∀ v ∈ q.1, -2147483648 ≤ v ∧ v < 4294967296 := by
  cases L with
  | nil => cases h
  | cons k r =>
    by_cases hk : k = 255
    · subst hk
      rw [bandR_join] at h
      cases r with
      | nil => cases h
      | cons m r =>
        by_cases hm : m.toNat < 1 ∨ 15 < m.toNat
        · rw [joinR_bad hm] at h; cases h
        · rw [joinR_trio hm] at h
          exact trio_in h
    · rw [bandR_cons hk] at h
      exact (plainR_facts h).2.2
/-- What a band's call has told: the numbers, or a reason. -/
theorem outc_band {k : Int} {L r : List UInt8} {vs : List Int} (h : Outc (bandN k L) [] vs 0 r) : bandN k L = .ok (vs, r) ∧ 0 ≤ k ∧ (vs.length : Int) = k ∧ vs.length ≤ L.length ∧ ∀ v ∈ vs, -2147483648 ≤ v ∧ v < 4294967296 := by
  unfold bandN at h ⊢
  split at h
  · exact absurd h.1.symm h.2.1
  · rename_i hk
    rw [if_neg hk]
    cases g : bandR k.toNat L with
    | error e => rw [g] at h; exact absurd h.1.symm h.2.1
    | ok q =>
      rw [g] at h
      obtain ⟨_, rfl, rfl⟩ := h
      obtain ⟨h1, j, h2, h3, _⟩ := bandR_facts g
      exact ⟨rfl, by omega, by omega, by omega, band_in g⟩
theorem outc_err {α : Type} {o : Except Int (α × List UInt8)} {d v : α} {e : Int} {r : List UInt8} (h : Outc o d v e r) (he : e ≠ 0) : o = .error e ∧ v = d := by
  cases o with
  | error q => obtain ⟨rfl, _, rfl⟩ := h; exact ⟨rfl, rfl⟩
  | ok p => exact absurd h.1 he
/-- Texts that are there already, ahead of what is read. -/
def preW (acc : List (List UInt8)) : Except Int (List (List UInt8) × List UInt8) → Except Int (List (List UInt8) × List UInt8)
  | .error e => .error e
  | .ok (l, r) => .ok (acc ++ l, r)
theorem preW_nil (o : Except Int (List (List UInt8) × List UInt8)) : preW [] o = o := by
  cases o with
  | error e => rfl
  | ok q => rfl
theorem wgo_nil (most : Int) (f : Bool) (W : List UInt8) (S : Int) (ms : List Int) (r : List UInt8) : wGo most f W S [] ms r = .ok ([], r) := by unfold wGo; rfl
section
variable {most : Int} {f : Bool} {W : List UInt8} {S n m : Int} {ns ms : List Int} {r : List UInt8}
theorem wgo_bad (h : n < 0 ∨ (W.length : Int) < n ∨ m < 0) : wGo most f W S (n :: ns) (m :: ms) r = .error 2 := by
  conv => lhs; unfold wGo
  rw [if_pos h]
theorem wgo_most (h : ¬ (n < 0 ∨ (W.length : Int) < n ∨ m < 0)) (h2 : most < S + (n + m)) : wGo most f W S (n :: ns) (m :: ms) r = .error 3 := by
  conv => lhs; unfold wGo
  rw [if_neg h, if_pos h2]
theorem wgo_end (h : ¬ (n < 0 ∨ (W.length : Int) < n ∨ m < 0)) (h2 : ¬ most < S + (n + m)) (h3 : (r.length : Int) < m) : wGo most f W S (n :: ns) (m :: ms) r = .error 6 := by
  conv => lhs; unfold wGo
  rw [if_neg h, if_neg h2, if_pos h3]
theorem wgo_low (h : ¬ (n < 0 ∨ (W.length : Int) < n ∨ m < 0)) (h2 : ¬ most < S + (n + m)) (h3 : ¬ (r.length : Int) < m) (h4 : f = false ∧ ¬ W < W.take n.toNat ++ r.take m.toNat) : wGo most f W S (n :: ns) (m :: ms) r = .error 2 := by
  conv => lhs; unfold wGo
  rw [if_neg h, if_neg h2, if_neg h3, if_pos h4]
theorem wgo_ok (acc : List (List UInt8)) (h : ¬ (n < 0 ∨ (W.length : Int) < n ∨ m < 0)) (h2 : ¬ most < S + (n + m)) (h3 : ¬ (r.length : Int) < m) (h4 : ¬ (f = false ∧ ¬ W < W.take n.toNat ++ r.take m.toNat)) :
    preW acc (wGo most f W S (n :: ns) (m :: ms) r) = preW (acc ++ [W.take n.toNat ++ r.take m.toNat]) (wGo most false (W.take n.toNat ++ r.take m.toNat) (S + (n + m)) ns ms (r.drop m.toNat)) := by
  conv => lhs; unfold wGo
  rw [if_neg h, if_neg h2, if_neg h3, if_neg h4]
  cases wGo most false (W.take n.toNat ++ r.take m.toNat) (S + (n + m)) ns ms (r.drop m.toNat) with
  | error e => rfl
  | ok q =>
    obtain ⟨a, c⟩ := q
    simp [preW]
end
section
variable {x : World} {b : Nat} {A : Option Addr} {c : Nat} {l : List UInt8} {n : Nat}
theorem ctake_end (h : CurS x b A c l n 0) {k : Nat} (hk : l.length - n < k) : Calls Try.prog 49 #[.pointer (some ⟨b, 0, none⟩), .int .i64 k] x fun ex y => (∃ u, ex = .returned u ∧ BRow y x.heap.size 5 u []) ∧ CurS y b A c l n 6 ∧ x.grownBy y (some b) := by
  have HN := Lib.hid (cnext_end h hk)
  clear h
  go_enter Try.func49, Try.ntmps49
  go_wp2_with fail
  refine HN.out.mono ?_
  rintro ex y ⟨rfl, h1, hg⟩
  have HC := Lib.hid (bclone_any none 0 [] y (BAt.nil _ _ _) (by simp) (fun _ => rfl))
  have H1 := Lib.hid h1
  have G1 := Lib.hid hg
  clear h1 hg
  go_wp2_with fail
  refine HC.out.mono ?_
  rintro ex z ⟨u, rfl, hr, hb⟩
  have HR := Lib.hid hr
  have HB := Lib.hid hb
  clear hr hb
  go_wp2_with fail
  go_ret
  exact ⟨⟨u, rfl, brow_lower HR.out G1.out.size⟩, H1.out.grow HB.out, grownBy_trans G1.out (grownBy_below HB.out none) (.inr fun g e => by cases e)⟩
end
theorem wd_to (s : List UInt8) (k : Nat) (hk : k ≤ s.length) (w : World) : (Instr.slice 9 (.string (bs s)) none (some (.int .i64 (k : Nat))) none).run Try.prog w = .ok (.string (bs (s.take k))) w := by
  have hz := bs_size s
  rw [run_slice_string_to_if w 9 (bs s) .i64 k (by kernel_rfl), if_pos (by omega), bs_extract, Int.toNat_natCast, List.drop_zero, Nat.sub_zero]
theorem wd_leq (W q : List UInt8) : (Op.bytesLess (bs q).toList (bs W).toList || (bs q).toList == (bs W).toList) = !decide (W < q) := by
  rw [wd_less, bs_beq]
  by_cases h : W < q
  · have h1 : ¬ q < W := fun h2 => Wo.lt_irrefl W (List.lt_trans h h2)
    have h2 : ¬ q = W := fun e => by rw [e] at h; exact Wo.lt_irrefl W h
    simp [h, h1, h2]
  · rcases List.le_iff_lt_or_eq.1 (List.not_lt.1 h) with h1 | h1
    · simp [h, h1]
    · simp [h1]
theorem wd_add (a q : List UInt8) (ha : a.length ≤ 1000000) (hq : q.length ≤ 1000000) (w : World) : (Op.stringOp .add (bs a) (bs q)).run Try.prog w = .ok (.string (bs (a ++ q))) w := by
  have h1 := bs_size a
  have h2 := bs_size q
  rw [run_string_add w _ _ (by omega) (by omega), bs_append]
theorem make_texts (w : World) (n : Nat) (hn : n ≤ 1000000) : ∃ w', (Instr.makeSlice 47 (.int .i64 0) (.int .i64 (n : Int))).run Try.prog w = .ok (.slice (some ⟨w.heap.size, 0, none⟩) 0 n) w' ∧ TRow w' w.heap.size (.slice (some ⟨w.heap.size, 0, none⟩) 0 n) [] ∧ Below w.heap.size w w' ∧ w'.heap.size = w.heap.size + 1 := by
  obtain ⟨i0, hi, hz0, hz1, hz2⟩ := info_parts infoStr
  have hr := run_make (P := Try.prog) w 47 9 i0 _ Try.underlying47 hi hz0 .i64 .i64 0 (n : Int) (Int.le_refl _) (by omega) (by rw [hz2]; omega) (by omega)
  simp only [Int.toNat_zero, Int.toNat_natCast] at hr
  refine ⟨_, hr, ?_, (Below.refl _ _).alloc (Nat.le_refl _) _, by simp⟩
  have := World.ownsRow_made (base := w.heap.size) (e := 9) (size := 1) w (madeCells (Value.string ⟨#[]⟩).cells (n * i0.size)) n (Nat.le_refl _) (by unfold maxLen; omega) (by rw [hz1]; exact size_madeCells _ _)
  exact this
end Go.Proofs.Ytbdkoagagcemcaa

/- The walk of layer 27: texts are read. -/
namespace Go.Proofs.Ytbdkoagagcemcaa
open Go.RowKit Pp

/-- What the call comes to. -/
def WRes (b : Nat) (A : Option Addr) (cc : Nat) (l : List UInt8) (n : Nat) (most : Int) (x : World) (ex : Ending) (y : World) : Prop :=
  ∃ (u : Value) (vs : List (List UInt8)) (m : Nat) (e' : Int), ex = .returned u ∧ TRow y x.heap.size u vs ∧ CurS y b A cc l m e' ∧ Outc (wordsR most (l.drop n)) [] vs e' (l.drop m) ∧ x.grownBy y (some b)
theorem wres_err {b : Nat} {A : Option Addr} {cc : Nat} {l : List UInt8} {n m : Nat} {most e' : Int} {x y : World} (h : wordsR most (l.drop n) = .error e') (he : e' ≠ 0) (hc : CurS y b A cc l m e') (hg : x.grownBy y (some b)) : WRes b A cc l n most x (.returned (.slice none 0 0)) y :=
  ⟨_, [], m, e', rfl, TRow.nil _ _, hc, outc_error h he, hg⟩
theorem words_most {most : Int} (h : most < 0 ∨ 16777216 < most) (r : List UInt8) : wordsR most r = .error 1 := by unfold wordsR; rw [if_pos h]
theorem words_e1 {most : Int} (hm : ¬ (most < 0 ∨ 16777216 < most)) {r : List UInt8} {e : Int} (h : bandN 1 r = .error e) : wordsR most r = .error e := by
  unfold wordsR
  rw [if_neg hm, show bandR 1 r = .error e from h]
theorem words_e2 {most : Int} (hm : ¬ (most < 0 ∨ 16777216 < most)) {r r0 : List UInt8} {k : List Int} {e : Int} (h1 : bandN 1 r = .ok (k, r0)) (h : bandN (k.getD 0 0) r0 = .error e) : wordsR most r = .error e := by
  unfold wordsR
  rw [if_neg hm, show bandR 1 r = .ok (k, r0) from h1]
  dsimp only
  rw [h]
theorem words_e3 {most : Int} (hm : ¬ (most < 0 ∨ 16777216 < most)) {r r0 r1 : List UInt8} {k ns : List Int} {e : Int} (h1 : bandN 1 r = .ok (k, r0)) (h2 : bandN (k.getD 0 0) r0 = .ok (ns, r1)) (h : bandN (k.getD 0 0) r1 = .error e) : wordsR most r = .error e := by
  unfold wordsR
  rw [if_neg hm, show bandR 1 r = .ok (k, r0) from h1]
  dsimp only
  rw [h2]
  dsimp only
  rw [h]
theorem words_go {most : Int} (hm : ¬ (most < 0 ∨ 16777216 < most)) {r r0 r1 r2 : List UInt8} {k ns ms : List Int} (h1 : bandN 1 r = .ok (k, r0)) (h2 : bandN (k.getD 0 0) r0 = .ok (ns, r1)) (h3 : bandN (k.getD 0 0) r1 = .ok (ms, r2)) : wordsR most r = wGo most true [] 0 ns ms r2 := wordsR_eq hm (show bandR 1 r = .ok (k, r0) from h1) h2 h3
section
variable {x : World} {b : Nat} {A : Option Addr} {cc : Nat} {l : List UInt8} {n : Nat}
set_option maxHeartbeats 16000000 in
set_option maxRecDepth 100000 in
theorem wread_any (h : CurS x b A cc l n 0) (most : Int) (hk : I64 most) (hl : l.length ≤ 100000) :
    Calls Try.prog 25 #[.pointer (some ⟨b, 0, none⟩), .int .i64 most] x (WRes b A cc l n most x) := by
  have H0 := Lib.hid h
  unfold I64 at hk
  by_cases hr : most < 0 ∨ 16777216 < most
  · have HF := Lib.hid (cfail_any 1 h)
    have hfin := Lib.hid (words_most hr (l.drop n))
    have hcase : decide (most < 0) = true ∨ (decide (most < 0) = false ∧ decide (16777216 < most) = true) := by
      rcases hr with h | h
      · exact .inl (decide_eq_true h)
      · exact .inr ⟨decide_eq_false (by omega), decide_eq_true h⟩
    clear hr h
    rcases hcase with q1 | ⟨q1, q2⟩
    all_goals
      go_enter Try.func25, Try.ntmps25
      go_wp2_with fail
      refine HF.out.mono ?_
      rintro ex y ⟨rfl, hc1, hg1⟩
      have HBb := Lib.hid (bread_any hc1 1 (by unfold I64; omega) hl)
      have HG := Lib.hid hg1
      clear hc1 hg1 HF
      go_wp2_with fail
      refine HBb.out.mono ?_
      rintro ex y1 ⟨u1, ks, m1, e1, rfl, _, hc1, _, hn1, hg1⟩
      obtain ⟨_, he1⟩ := hn1 (by decide)
      have he2 : e1 = 1 := he1
      subst he2
      have HE := Lib.hid (cerr_any hc1)
      have HC := Lib.hid hc1
      have HG2 := Lib.hid (grownBy_trans HG.out hg1 (.inl rfl))
      clear hc1 hg1 hn1 he1 HBb
      go_wp2_with fail
      refine HE.out.mono ?_
      rintro ex z ⟨rfl, ez⟩
      have ez := ez.symm
      subst ez
      go_wp2_with fail
      go_ret
      exact wres_err hfin.out (by decide) HC.out HG2.out
  · have q1 : decide (most < 0) = false := decide_eq_false (by omega)
    have q2 : decide (16777216 < most) = false := decide_eq_false (by omega)
    have HM := Lib.hid hr
    have hm0 : 0 ≤ most := by omega
    have hm1 : most ≤ 16777216 := by omega
    have HB1 := Lib.hid (bread_any h 1 (by unfold I64; omega) hl)
    have hbx := h.lt
    clear hr h
    go_enter Try.func25, Try.ntmps25
    go_wp2_with fail
    refine HB1.out.mono ?_
    rintro ex y1 ⟨u1, ks, m1, e1, rfl, hr1, hc1, ho1, _, hg1⟩
    obtain ⟨A1, c1, rfl, hi1, hf1⟩ := hr1
    have HE := Lib.hid (cerr_any hc1)
    have HC1 := Lib.hid hc1
    have HG1 := Lib.hid hg1
    have HO1 := Lib.hid (ho1 rfl)
    have HI1 := Lib.hid hi1
    have HF1 := Lib.hid hf1
    clear hc1 hg1 ho1 hi1 hf1 HB1
    go_wp2_with fail
    refine HE.out.mono ?_
    rintro ex z ⟨rfl, ez⟩
    have ez := ez.symm
    subst ez
    clear HE
    by_cases he1 : e1 = 0
    rotate_left
    · have q3 : (e1 != 0) = true := by simpa using he1
      have hfin := Lib.hid (words_e1 HM.out (outc_err HO1.out he1).1)
      have HN := Lib.hid he1
      clear he1
      go_wp2_with fail
      go_ret
      exact wres_err hfin.out HN.out HC1.out HG1.out
    · subst he1
      obtain ⟨hb1, _, hkl, _, hkin⟩ := outc_band HO1.out
      have hkl1 : ks.length = 1 := by omega
      obtain ⟨k, rfl⟩ : ∃ k, ks = [k] := by
        match ks, hkl1 with
        | [k], _ => exact ⟨k, rfl⟩
      have hkk := hkin k (by simp)
      have HK := Lib.hid (show [k].getD 0 0 = k from rfl)
      have HBB := Lib.hid hb1
      obtain ⟨g1, o1, k', rfl, hgs, hk0, hcell⟩ := HI1.out.at_ (i := 0) (by simp)
      simp at hk0
      subst hk0
      rw [Nat.add_zero] at hcell
      have hcp := HI1.out.1
      have HB2 := Lib.hid (bread_any HC1.out k (by unfold I64; omega) hl)
      have hg1b : some g1 ≠ some b := fun e => by
        have := HF1.out g1 o1 rfl
        injection e with e
        omega
      have HKC := Lib.hid (fun z (hz : y1.grownBy z (some b)) => (show Ints z (some ⟨g1, o1, none⟩) c1 [k] from HI1.out.kept hz (fun g o' e => by cases e; exact hg1b)))
      have hbz := HG1.out.size
      clear hb1 hkl hkin hkl1 HO1
      go_wp2_with fail
      refine HB2.out.mono ?_
      rintro ex y2 ⟨u2, ns, m2, e2, rfl, hr2, hc2, ho2, _, hg2⟩
      obtain ⟨A2, c2, rfl, hi2, hf2⟩ := hr2
      have HB3 := Lib.hid (bread_any hc2 k (by unfold I64; omega) hl)
      obtain ⟨g1', o1', k', ee, hgs2, hk0, hcell2⟩ := (HKC.out y2 hg2).at_ (i := 0) (by simp)
      cases ee
      simp at hk0
      subst hk0
      rw [Nat.add_zero] at hcell2
      have HO2 := Lib.hid (ho2 rfl)
      have HG2 := Lib.hid hg2
      have HI2 := Lib.hid hi2
      have HF2 := Lib.hid (show ∀ g o, A2 = some ⟨g, o, none⟩ → x.heap.size ≤ g from fun g o e => Nat.le_trans hbz (hf2 g o e))
      clear hc2 ho2 hg2 hi2 hf2 HB2
      go_wp2_with fail
      refine HB3.out.mono ?_
      rintro ex y3 ⟨u3, ms, m3, e3, rfl, hr3, hc3, ho3, hn3, hg3⟩
      obtain ⟨A3, c3, rfl, hi3, hf3⟩ := hr3
      have HE := Lib.hid (cerr_any hc3)
      have HC3 := Lib.hid hc3
      have HO3 := Lib.hid ho3
      have HN3 := Lib.hid hn3
      have HG3 := Lib.hid (grownBy_trans HG1.out (grownBy_trans HG2.out hg3 (.inl rfl)) (.inl rfl))
      have HJ3 := Lib.hid hg3
      have HI3 := Lib.hid hi3
      have hbz2 := HG2.out.size
      have HF3 := Lib.hid (show ∀ g o, A3 = some ⟨g, o, none⟩ → x.heap.size ≤ g from fun g o e => Nat.le_trans hbz (Nat.le_trans hbz2 (hf3 g o e)))
      clear hc3 ho3 hn3 hg3 hi3 hf3 HB3
      go_wp2_with fail
      refine HE.out.mono ?_
      rintro ex z ⟨rfl, ez⟩
      have ez := ez.symm
      subst ez
      clear HE
      by_cases he3 : e3 = 0
      rotate_left
      · have q3 : (e3 != 0) = true := by simpa using he3
        have hfin : wordsR most (l.drop n) = .error e3 := by
          by_cases he2 : e2 = 0
          · subst he2
            exact words_e3 HM.out HBB.out (outc_band HO2.out).1 (outc_err (HO3.out rfl) he3).1
          · obtain ⟨_, rfl⟩ := HN3.out he2
            exact words_e2 HM.out HBB.out (outc_err HO2.out he3).1
        have HFN := Lib.hid hfin
        have HN := Lib.hid he3
        clear he3 hfin HN3 HO3 HO2
        go_wp2_with fail
        go_ret
        exact wres_err HFN.out HN.out HC3.out HG3.out
      · subst he3
        have he2 : e2 = 0 := by
          by_cases he2 : e2 = 0
          · exact he2
          · exact absurd (HN3.out he2).2.symm he2
        subst he2
        obtain ⟨hb2, hk9, hnl, hnl2, hnin⟩ := outc_band HO2.out
        obtain ⟨hb3, _, hml, hml2, hmin⟩ := outc_band (HO3.out rfl)
        have hlm : ms.length = ns.length := by omega
        have hns : ns.length ≤ 100000 := by rw [List.length_drop] at hnl2; omega
        have hOUT := words_go HM.out HBB.out hb2 hb3
        obtain ⟨OUT, hOUTd⟩ : ∃ OUT, OUT = wordsR most (l.drop n) := ⟨_, rfl⟩
        rw [← hOUTd] at hOUT
        have HOUT := Lib.hid hOUT
        have HOD := Lib.hid hOUTd
        have HNI := Lib.hid hnin
        have HMI := Lib.hid hmin
        have HLM := Lib.hid hlm
        have HJ2 := Lib.hid (HI2.out.kept HJ3.out (fun g o e e2 => by have := HF2.out g o e; injection e2 with e2; omega))
        obtain ⟨w4, hmk, htr, hbm, hms⟩ := make_texts y3 ns.length (by omega)
        have HTR := Lib.hid htr
        have HBM := Lib.hid hbm
        clear hb2 hk9 hnl hnl2 hnin hb3 hml hml2 hmin hOUT hOUTd hlm htr hbm HO2 HO3 HN3 HG2 HJ3 HI2 HBB HKC HI1 HF1 HC1 HG1
        have hy3 := HG3.out.size
        have HL2 := Lib.hid (show ∀ g o, A2 = some ⟨g, o, none⟩ → 0 < ns.length → g < y3.heap.size from fun g o e hp => by
          obtain ⟨g', o', e', hg', _⟩ := HJ2.out.2 hp
          rw [e] at e'
          cases e'
          exact hg')
        have HL3 := Lib.hid (show ∀ g o, A3 = some ⟨g, o, none⟩ → 0 < ns.length → g < y3.heap.size from fun g o e hp => by
          obtain ⟨g', o', e', hg', _⟩ := HI3.out.2 (by rw [HLM.out]; exact hp)
          rw [e] at e'
          cases e'
          exact hg')
        go_wp2_with fail
        go_loopw [8, 9, 10, 45] (fun v s t u wr => ∃ (i p : Nat) (acc : List (List UInt8)) (W : List UInt8) (S : Int), i ≤ ns.length ∧ u = .int .i64 i ∧ s = .string (bs W) ∧ t = .int .i64 S ∧ TRow wr y3.heap.size v acc ∧ CurS wr b A cc l p 0 ∧ W.length ≤ p ∧ 0 ≤ S ∧ S ≤ most ∧ acc.length = i ∧ preW acc (wGo most (decide (i = 0)) W S (ns.drop i) (ms.drop i) (l.drop p)) = OUT ∧ Ints wr A2 c2 ns ∧ Ints wr A3 c3 ms ∧ y3.heap.size ≤ wr.heap.size ∧ x.grownBy wr (some b)) (fun _ _ _ u _ => ns.length - (intOf u).toNat)
        case atStart => exact ⟨0, m3, [], [], 0, Nat.zero_le _, rfl, rfl, rfl, HTR.out, HC3.out.grow HBM.out, Nat.zero_le _, by omega, by omega, rfl, by rw [preW_nil]; exact HOUT.out.symm, HJ2.out.grow HBM.out, HI3.out.grow HBM.out, HBM.out.size, grownBy_trans HG3.out (grownBy_below HBM.out none) (.inr fun g e => by cases e)⟩
        case round =>
          obtain ⟨i, p, acc, W, S, hi, rfl, rfl, rfl, htr, hc, hWp, hS0, hSm, hacc, hgo, hj2, hj3, hys, hg⟩ := hrel
          have HT := Lib.hid htr
          have HC := Lib.hid hc
          have HGO := Lib.hid hgo
          have HP2 := Lib.hid hj2
          have HP3 := Lib.hid hj3
          have HG := Lib.hid hg
          have hpl := hc.le
          have HACC := Lib.hid hacc
          have hacc9 : acc.length ≤ 1000000 := by omega
          clear htr hgo hj2 hj3 hg hacc HTR HC3 HJ2 HI3 HBM HG3
          by_cases h1 : i < ns.length
          · obtain ⟨ga, oa, nn, eA, hga, hni, hcn⟩ := HP2.out.at_ h1
            obtain ⟨gb, ob, mm, eB, hgb, hmi, hcm⟩ := HP3.out.at_ (i := i) (by rw [HLM.out]; exact h1)
            subst eA
            subst eB
            have hnb := HNI.out nn (List.mem_of_getElem? hni)
            have hmb := HMI.out mm (List.mem_of_getElem? hmi)
            have hca := HP2.out.1
            have hcb := HP3.out.1
            rw [HLM.out] at hcb
            have p1 : decide ((i : Int) < (ns.length : Int)) = true := decide_eq_true (by omega)
            have hgo2 := HGO.out
            rw [drop_atW hni, drop_atW hmi] at hgo2
            have hsz := bs_size W
            have hms3 : i < ms.length := by rw [HLM.out]; exact h1
            by_cases hbad : nn < 0 ∨ (W.length : Int) < nn ∨ mm < 0
            · have hfin := Lib.hid (show wordsR most (l.drop n) = .error 2 by rw [← HOD.out, ← hgo2, wgo_bad hbad]; rfl)
              have HF := Lib.hid (cfail_any 2 hc)
              have hcase : decide (nn < 0) = true ∨ (decide (nn < 0) = false ∧ decide ((W.length : Int) < nn) = true) ∨ (decide (nn < 0) = false ∧ decide ((W.length : Int) < nn) = false ∧ decide (mm < 0) = true) := by
                by_cases a1 : nn < 0
                · exact .inl (decide_eq_true a1)
                · by_cases a2 : (W.length : Int) < nn
                  · exact .inr (.inl ⟨decide_eq_false a1, decide_eq_true a2⟩)
                  · exact .inr (.inr ⟨decide_eq_false a1, decide_eq_false a2, decide_eq_true (by omega)⟩)
              clear hbad hc hgo2 hni hmi
              rcases hcase with q1 | ⟨q1, q2⟩ | ⟨q1, q2, q3⟩
              all_goals
                go_wp2_with fail
                refine HF.out.mono ?_
                rintro ex z ⟨rfl, hc2, hg2⟩
                have HC2 := Lib.hid hc2
                have HG2 := Lib.hid (grownBy_trans HG.out hg2 (.inl rfl))
                clear hc2 hg2 HF
                go_wp2_with fail
                go_ret
                exact wres_err hfin.out (by decide) HC2.out HG2.out
            · have HNB := Lib.hid hbad
              obtain ⟨nk, rfl⟩ : ∃ nk : Nat, nn = (nk : Int) := ⟨nn.toNat, by omega⟩
              obtain ⟨mk, rfl⟩ : ∃ mk : Nat, mm = (mk : Int) := ⟨mm.toNat, by omega⟩
              have hnW : nk ≤ W.length := by omega
              have hmk9 : mk < 4294967296 := by omega
              have q1 : decide ((nk : Int) < 0) = false := decide_eq_false (by omega)
              have q2 : decide ((W.length : Int) < (nk : Int)) = false := decide_eq_false (by omega)
              have q2' : decide (W.length < nk) = false := decide_eq_false (by omega)
              have q3 : decide ((mk : Int) < 0) = false := decide_eq_false (by omega)
              clear hbad hnb hmb
              by_cases hsum : most < S + ((nk : Int) + (mk : Int))
              · have hfin := Lib.hid (show wordsR most (l.drop n) = .error 3 by rw [← HOD.out, ← hgo2, wgo_most HNB.out hsum]; rfl)
                have HF := Lib.hid (cfail_any 3 hc)
                have q4 : decide (most < S + ((nk : Int) + (mk : Int))) = true := decide_eq_true hsum
                clear hsum hc hgo2 hni hmi
                go_wp2_with fail
                refine HF.out.mono ?_
                rintro ex z ⟨rfl, hc2, hg2⟩
                have HC2 := Lib.hid hc2
                have HG2 := Lib.hid (grownBy_trans HG.out hg2 (.inl rfl))
                clear hc2 hg2 HF
                go_wp2_with fail
                go_ret
                exact wres_err hfin.out (by decide) HC2.out HG2.out
              · have HSM := Lib.hid hsum
                have q4 : decide (most < S + ((nk : Int) + (mk : Int))) = false := decide_eq_false hsum
                have hsumle : S + ((nk : Int) + (mk : Int)) ≤ most := by omega
                have hto := fun w => wd_to W nk hnW w
                clear hsum hni hmi
                by_cases hend : l.length - p < mk
                · have HTk := Lib.hid (fun z (hz : Below wr.heap.size wr z) => ctake_end (hc.grow hz) hend)
                  have hfin := Lib.hid (show wordsR most (l.drop n) = .error 6 by rw [← HOD.out, ← hgo2, wgo_end HNB.out HSM.out (by rw [List.length_drop]; omega)]; rfl)
                  clear hc hgo2 hend
                  go_upto_region 22 with fail
                  go_cut [13] (fun s13 wx => (∃ q : List UInt8, s13 = .string (bs q)) ∧ CurS wx b A cc l p 6 ∧ wr.grownBy wx (some b))
                  case first =>
                    have hadd := fun w => wd_add (W.take nk) [] (by rw [List.length_take]; omega) (by simp) w
                    go_region_with (go_at_call 49; refine (HTk.out _ (Below.refl _ _).drew).mono ?_; rintro ex z ⟨⟨u, rfl, hr9⟩, hc9, hg9⟩; have hcv := BRow.string 23 9 5 Try.underlying23 Try.underlying5 Try.underlying9 hr9; clear hr9)
                    all_goals
                      have hg10 := grownBy_trans (grownBy_below (Below.refl wr.heap.size wr).drew (some b)) hg9 (.inl rfl)
                      have HC9 := Lib.hid hc9
                      have HG9 := Lib.hid hg10
                      clear hc9 hg9 hg10
                      go_wp2_with fail
                      go_meet
                      case rel => exact ⟨⟨_, rfl⟩, HC9.out, HG9.out⟩
                  case rest =>
                    obtain ⟨⟨q, rfl⟩, hc9, hg9⟩ := hcut
                    have HF := Lib.hid (cfail_any 2 hc9)
                    have HE := Lib.hid (cerr_any hc9)
                    have HC9 := Lib.hid hc9
                    have HG9 := Lib.hid (grownBy_trans HG.out hg9 (.inl rfl))
                    have hle := wd_leq W q
                    clear hc9 hg9 HTk hto
                    have hcase : (decide ((0 : Int) < (i : Int)) = false ∧ decide (0 < i) = false) ∨ ((decide ((0 : Int) < (i : Int)) = true ∧ decide (0 < i) = true) ∧ (W < q)) ∨ ((decide ((0 : Int) < (i : Int)) = true ∧ decide (0 < i) = true) ∧ ¬ (W < q)) := by
                      by_cases a1 : 0 < i
                      · by_cases a2 : W < q
                        · exact .inr (.inl ⟨⟨decide_eq_true (by omega), decide_eq_true a1⟩, a2⟩)
                        · exact .inr (.inr ⟨⟨decide_eq_true (by omega), decide_eq_true a1⟩, a2⟩)
                      · exact .inl ⟨decide_eq_false (by omega), decide_eq_false a1⟩
                    rcases hcase with ⟨a1, a1'⟩ | ⟨⟨a1, a1'⟩, a2⟩ | ⟨⟨a1, a1'⟩, a2⟩
                    · go_wp2_with fail
                      refine HE.out.mono ?_
                      rintro ex z ⟨rfl, ez⟩
                      have ez := ez.symm
                      subst ez
                      go_wp2_with fail
                      go_ret
                      exact wres_err hfin.out (by decide) HC9.out HG9.out
                    · rw [decide_eq_true a2] at hle
                      clear a2
                      go_wp2_with fail
                      refine HE.out.mono ?_
                      rintro ex z ⟨rfl, ez⟩
                      have ez := ez.symm
                      subst ez
                      go_wp2_with fail
                      go_ret
                      exact wres_err hfin.out (by decide) HC9.out HG9.out
                    · rw [decide_eq_false a2] at hle
                      clear a2
                      go_wp2_with fail
                      refine HF.out.mono ?_
                      rintro ex z ⟨rfl, hc10, hg10⟩
                      have HE2 := Lib.hid (cerr_any hc10)
                      have HC10 := Lib.hid hc10
                      have HG10 := Lib.hid (grownBy_trans HG9.out hg10 (.inl rfl))
                      clear hc10 hg10 HF
                      go_wp2_with fail
                      refine HE2.out.mono ?_
                      rintro ex z2 ⟨rfl, ez⟩
                      have ez := ez.symm
                      subst ez
                      rw [show fe 6 2 = 6 from rfl] at *
                      go_wp2_with fail
                      go_ret
                      exact wres_err hfin.out (by decide) HC10.out HG10.out
                · have hkp : p + mk ≤ l.length := by omega
                  have HTk := Lib.hid (fun z (hz : Below wr.heap.size wr z) => ctake_ok (hc.grow hz) hkp)
                  have hq2 : ((l.drop p).take mk).length = mk := by rw [List.length_take, List.length_drop]; omega
                  have hnw2 : (W.take nk).length = nk := by rw [List.length_take]; omega
                  have hlo := Lib.hid (fun (h4 : decide (i = 0) = false ∧ ¬ W < W.take (nk : Int).toNat ++ (l.drop p).take (mk : Int).toNat) => (show wordsR most (l.drop n) = .error 2 by rw [← HOD.out, ← hgo2, wgo_low HNB.out HSM.out (by rw [List.length_drop]; omega) h4]; rfl))
                  have hok := Lib.hid (fun (h4 : ¬ (decide (i = 0) = false ∧ ¬ W < W.take (nk : Int).toNat ++ (l.drop p).take (mk : Int).toNat)) => (show preW (acc ++ [W.take (nk : Int).toNat ++ (l.drop p).take (mk : Int).toNat]) (wGo most false (W.take (nk : Int).toNat ++ (l.drop p).take (mk : Int).toNat) (S + ((nk : Int) + (mk : Int))) (ns.drop (i + 1)) (ms.drop (i + 1)) ((l.drop p).drop (mk : Int).toNat)) = OUT from (wgo_ok acc HNB.out HSM.out (by rw [List.length_drop]; omega) h4).symm.trans hgo2))
                  simp only [Int.toNat_natCast, List.drop_drop] at hlo hok
                  clear hc hgo2 hend
                  obtain ⟨q2, hq2e⟩ : ∃ q2, q2 = (l.drop p).take mk := ⟨_, rfl⟩
                  obtain ⟨qw, hqwe⟩ : ∃ qw, qw = W.take nk := ⟨_, rfl⟩
                  rw [← hq2e] at hlo hok hq2 HTk
                  rw [← hqwe] at hlo hok hnw2 hto
                  go_upto_region 22 with fail
                  go_cut [13] (fun s13 wx => s13 = .string (bs (qw ++ q2)) ∧ CurS wx b A cc l (p + mk) 0 ∧ wr.grownBy wx (some b))
                  case first =>
                    have hadd := fun w => wd_add qw q2 (by omega) (by omega) w
                    clear hq2e hqwe hq2 hnw2
                    go_region_with (go_at_call 49; refine (HTk.out _ (Below.refl _ _).drew).mono ?_; rintro ex z ⟨⟨u, rfl, hr9⟩, hc9, hg9⟩; have hcv := BRow.string 23 9 5 Try.underlying23 Try.underlying5 Try.underlying9 hr9; clear hr9)
                    all_goals
                      have hg10 := grownBy_trans (grownBy_below (Below.refl wr.heap.size wr).drew (some b)) hg9 (.inl rfl)
                      have HC9 := Lib.hid hc9
                      have HG9 := Lib.hid hg10
                      clear hc9 hg9 hg10
                      go_wp2_with fail
                      go_meet
                      case rel => exact ⟨rfl, HC9.out, HG9.out⟩
                  case rest =>
                    obtain ⟨rfl, hc9, hg9⟩ := hcut
                    have HF := Lib.hid (cfail_any 2 hc9)
                    have HE := Lib.hid (cerr_any hc9)
                    have HC9 := Lib.hid hc9
                    have HG9 := Lib.hid (grownBy_trans HG.out hg9 (.inl rfl))
                    have HT9 := Lib.hid (HT.out.kept hg9 (fun k9 e9 e8 => by have := (World.ownsRow.lt HT.out k9 e9).1; injection e8 with e8; omega))
                    have HP29 := Lib.hid (HP2.out.kept hg9 (fun g o e e8 => by have := HF2.out g o e; injection e8 with e8; omega))
                    have HP39 := Lib.hid (HP3.out.kept hg9 (fun g o e e8 => by have := HF3.out g o e; injection e8 with e8; omega))
                    have hys9 : y3.heap.size ≤ wc.heap.size := Nat.le_trans hys hg9.size
                    have hql : (qw ++ q2).length = nk + mk := by rw [List.length_append, hq2, hnw2]
                    have HQL := Lib.hid hql
                    clear hc9 hg9 HTk hto hq2e hqwe hq2 hnw2 hql
                    generalize hqq : qw ++ q2 = q at *
                    clear hqq
                    have hle := wd_leq W q
                    have hcase : (decide ((0 : Int) < (i : Int)) = true ∧ decide (0 < i) = true ∧ (¬ W < q)) ∨ (((decide ((0 : Int) < (i : Int)) = true ∧ decide (0 < i) = true ∧ (W < q)) ∨ (decide ((0 : Int) < (i : Int)) = false ∧ decide (0 < i) = false)) ∧ ¬ (decide (i = 0) = false ∧ ¬ W < q)) := by
                      by_cases a1 : 0 < i
                      · by_cases a2 : W < q
                        · exact .inr ⟨.inl ⟨decide_eq_true (by omega), decide_eq_true a1, a2⟩, fun h => h.2 a2⟩
                        · exact .inl ⟨decide_eq_true (by omega), decide_eq_true a1, a2⟩
                      · exact .inr ⟨.inr ⟨decide_eq_false (by omega), decide_eq_false a1⟩, fun h => by have := of_decide_eq_false h.1; omega⟩
                    rcases hcase with ⟨a1, a1', a2⟩ | ⟨a12, a3⟩
                    · have hfin := Lib.hid (hlo.out ⟨decide_eq_false (by have := of_decide_eq_true a1'; omega), a2⟩)
                      rw [decide_eq_false a2] at hle
                      clear a2
                      go_wp2_with fail
                      refine HF.out.mono ?_
                      rintro ex z ⟨rfl, hc10, hg10⟩
                      have HE2 := Lib.hid (cerr_any hc10)
                      have HC10 := Lib.hid hc10
                      have HG10 := Lib.hid (grownBy_trans HG9.out hg10 (.inl rfl))
                      clear hc10 hg10 HF
                      unfold fe at *
                      rw [if_pos rfl] at *
                      go_wp2_with fail
                      refine HE2.out.mono ?_
                      rintro ex z2 ⟨rfl, ez⟩
                      have ez := ez.symm
                      subst ez
                      go_wp2_with fail
                      go_ret
                      exact wres_err hfin.out (by decide) HC10.out HG10.out
                    · have HN := Lib.hid (hok.out a3)
                      clear a3
                      rcases a12 with ⟨a1, a1', a2⟩ | ⟨a1, a1'⟩
                      all_goals
                        first | rw [decide_eq_true a2] at hle | skip
                        try clear a2
                        go_wp2_with fail
                        refine HE.out.mono ?_
                        rintro ex z2 ⟨rfl, ez⟩
                        have ez := ez.symm
                        subst ez
                        obtain ⟨At, ct, rfl, _⟩ := HT9.out.reads
                        have k1 := Lib.hid ((Below.refl wc.heap.size wc).alloc (Nat.le_refl _) (.cells #[.string (bs q)] 9))
                        have HT10 := Lib.hid (HT9.out.grow k1.out)
                        have hsz1 : (wc.alloc (.cells #[.string (bs q)] 9)).heap.size = wc.heap.size + 1 := by simp
                        have HAL := Lib.hid (heap_alloc_new wc (.cells #[.string (bs q)] 9))
                        go_upto_region 27 with fail
                        go_wp2_with (at_builtin; refine wpList_appS rfl _ _ rfl y3.heap.size (.slice At acc.length ct) acc rfl HT10.out wc.heap.size q 9 (0, 0) rfl HAL.out (by omega) (by omega) ?_; intro v6 w6 hr6 hp6; have HR6 := Lib.hid hr6; have HP6 := Lib.hid hp6; clear hr6 hp6)
                        have how : ∀ g, (Value.slice At acc.length ct).ownBlock = some g → y3.heap.size ≤ g := fun g e => (World.ownsRow.lt HT10.out g e).1
                        have c6 := H0.out.hop (HC9.out.grow k1.out) HP6.out.1 (fun g e => Nat.le_trans hy3 (how g e))
                        have g6 := (hop_grown (grownBy_trans HG9.out (grownBy_below k1.out (some b)) (.inl rfl)) HP6.out (.inr fun g e => Nat.le_trans hy3 (how g e))).1
                        have i26 := (HP29.out.grow k1.out).kept HP6.out.1 (fun g o e e8 => by have h8 := HL2.out g o e (by omega); have h9 := how g e8.symm; omega)
                        have i36 := (HP39.out.grow k1.out).kept HP6.out.1 (fun g o e e8 => by have h8 := HL3.out g o e (by omega); have h9 := how g e8.symm; omega)
                        have s6 : y3.heap.size ≤ w6.heap.size := by have h8 := HP6.out.1.size; omega
                        have n6 : preW (acc ++ [q]) (wGo most (decide (i + 1 = 0)) q (S + ((nk : Int) + (mk : Int))) (ns.drop (i + 1)) (ms.drop (i + 1)) (l.drop (p + mk))) = OUT := HN.out
                        have l6 : (acc ++ [q]).length = i + 1 := by rw [List.length_append, HACC.out]; rfl
                        have hq6 : q.length ≤ p + mk := by have := HQL.out; omega
                        go_roundw
                        case rel => exact ⟨i + 1, p + mk, acc ++ [q], q, S + ((nk : Int) + (mk : Int)), by omega, by go_num, rfl, rfl, HR6.out, c6, hq6, by omega, by omega, l6, n6, i26, i36, s6, g6⟩
                        case measure => simp [intOf]; omega
          · have hii : i = ns.length := by omega
            subst hii
            have p1 : decide ((ns.length : Int) < (ns.length : Int)) = false := decide_eq_false (by omega)
            have hgo2 := HGO.out
            rw [List.drop_length, wgo_nil] at hgo2
            have hfin := Lib.hid (show wordsR most (l.drop n) = .ok (acc, l.drop p) by rw [← HOD.out, ← hgo2]; simp [preW])
            clear hgo2 hi h1
            go_wp2_with fail
            go_ret
            exact ⟨_, acc, p, 0, rfl, World.ownsRow.mono HT.out hy3, hc, outc_ok hfin.out, HG.out⟩
end
end Go.Proofs.Ytbdkoagagcemcaa
