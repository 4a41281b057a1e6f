/- Joined texts: BdD, Wd, BdE, BdF, PpMapD, PpWalksI, PpWalksJ, PpWalksG, PpWalksH. -/
import Derived.Test.YtbdkoagagcemcaaPk4
import Derived.Test.YtbdkoagagcemcaaPk3
import Derived.Lib.SliceRun
import Derived.Test.YtbdkoagagcemcaaPk2
import Derived.Test.YtbdkoagagcemcaaPk1
import Derived.Lib.SlMapFilter
import Derived.Lib.SlKeysI
import Derived.WideAt
import Derived.OpenShut
import Derived.Shelf.SlSortCmp.Whole1
import Derived.Shelf.SlMaps.DeleteFunc
import Derived.Shelf.SlIterI.Collect
import Derived.Shelf.SlSortCmp.NoneTotal
/- The walk of layer 26: a row that is read by its favorites. -/
namespace Go.Proofs.Ytbdkoagagcemcaa
open Go.RowKit Pp

theorem outc_len {k : Nat} {L r : List UInt8} {vs : List Int} {e : Int} (h : Outc (nextR k L) [] vs e r) : vs.length ≤ L.length := by
  cases g : nextR k L with
  | error e2 =>
    rw [g] at h
    rw [h.2.2]
    simp
  | ok p =>
    rw [g] at h
    have := nextR_facts g
    rw [h.2.1]
    omega
/-- A row that is read. -/
def IRead (y : World) (base : Nat) (u : Value) (vs : List Int) : Prop := ∃ A c, u = .slice A vs.length c ∧ Ints y A c vs ∧ ∀ g o, A = some ⟨g, o, none⟩ → base ≤ g
theorem IRead.of {y : World} {base : Nat} {u : Value} {vs : List Int} (h : IRow y base u vs) : IRead y base u vs := h.readsB
theorem IRead.lower {y : World} {base b' : Nat} {u : Value} {vs : List Int} (h : IRead y base u vs) (hb : b' ≤ base) : IRead y b' u vs := by
  obtain ⟨A, c, rfl, h1, h2⟩ := h
  exact ⟨A, c, rfl, h1, fun g o e => Nat.le_trans hb (h2 g o e)⟩
theorem Ints.kept {w w1 : World} {A : Option Addr} {c : Nat} {xs : List Int} (h : Ints w A c xs) {o : Option Nat} (k : w.grownBy w1 o) (hne : ∀ g o', A = some ⟨g, o', none⟩ → some g ≠ o) : Ints w1 A c xs :=
  ⟨h.1, fun hp => by
    obtain ⟨g, o', e, hg, hc⟩ := h.2 hp
    exact ⟨g, o', e, Nat.lt_of_lt_of_le hg k.size, fun j x hx => (World.cell?_of_block (k.block g hg (hne g o' e))).trans (hc j x hx)⟩⟩
theorem IRead.kept {y z : World} {base b : Nat} {u : Value} {vs : List Int} (h : IRead y base u vs) (k : y.grownBy z (some b)) (hb : b < base) : IRead z base u vs := by
  obtain ⟨A, c, rfl, h1, h2⟩ := h
  exact ⟨A, c, rfl, h1.kept k (fun g o e e2 => by have := h2 g o e; injection e2 with e2; omega), h2⟩
theorem IRead.grow {y z : World} {base : Nat} {u : Value} {vs : List Int} (h : IRead y base u vs) (k : Below y.heap.size y z) : IRead z base u vs := by
  obtain ⟨A, c, rfl, h1, h2⟩ := h
  exact ⟨A, c, rfl, h1.grow k, h2⟩
theorem IRead.nil (y : World) (base : Nat) : IRead y base (.slice none 0 0) [] := ⟨none, 0, rfl, Ints.nil _ _ _, fun g o e => by cases e⟩
section
variable {x : World} {b : Nat} {A : Option Addr} {cc : Nat} {l : List UInt8} {n : Nat}
set_option maxHeartbeats 8000000 in
set_option maxRecDepth 100000 in
theorem joined_any (h : CurS x b A cc l n 0) (k : Nat) (hk : k ≤ 9223372036854775807) (hl : l.length ≤ 100000) :
    Calls Try.prog 33 #[.pointer (some ⟨b, 0, none⟩), .int .i64 k] x fun ex y => ∃ (u : Value) (vs : List Int) (m : Nat) (e : Int), ex = .returned u ∧ IRead y x.heap.size u vs ∧ CurS y b A cc l m e ∧ Outc (joinR k (l.drop n)) [] vs e (l.drop m) ∧ x.grownBy y (some b) := by
  have H0 := Lib.hid h
  have hbl := h.lt
  have hnl := h.le
  have k1 := (Below.refl x.heap.size x).alloc (Nat.le_refl _) (.cells #[.pointer (some ⟨b, 0, none⟩)] 29)
  have hp0 : PcBox (x.alloc (.cells #[.pointer (some ⟨b, 0, none⟩)] 29)) x.heap.size b := heap_alloc_new _ _
  have h1 := h.grow k1
  have HP0 := Lib.hid hp0
  have HG0 := Lib.hid (grownBy_below k1 (some b))
  have H1 := Lib.hid h1
  -- what is read first, and the error then
  have hmany : ∃ (mm m1 : Nat) (e1 : Int) (ca : Calls Try.prog 32 #[.pointer (some ⟨b, 0, none⟩), .int .i64 1] (x.alloc (.cells #[.pointer (some ⟨b, 0, none⟩)] 29)) fun ex y => ex = .returned (.int .u64 (mm : Int)) ∧ CurS y b A cc l m1 e1 ∧ (x.alloc (.cells #[.pointer (some ⟨b, 0, none⟩)] 29)).grownBy y (some b)),
      mm ≤ 255 ∧ ((e1 = 0 ∧ 1 ≤ mm ∧ mm ≤ 15 ∧ joinR k (l.drop n) = trio mm k (l.drop m1)) ∨ ((mm < 1 ∨ 15 < mm) ∧ ∃ e2, fe e1 2 = e2 ∧ e2 ≠ 0 ∧ joinR k (l.drop n) = .error e2)) := by
    by_cases hend : n < l.length
    · obtain ⟨a, ha⟩ : ∃ a, l[n]? = some a := ⟨_, List.getElem?_eq_getElem hend⟩
      have hab := a.toNat_lt
      refine ⟨a.toNat, n + 1, 0, cbig_ok h1 ha, by omega, ?_⟩
      rw [drop_atI ha]
      by_cases hm : a.toNat < 1 ∨ 15 < a.toNat
      · exact .inr ⟨hm, 2, rfl, by decide, joinR_bad hm _⟩
      · exact .inl ⟨rfl, by omega, by omega, joinR_trio hm _⟩
    · refine ⟨0, n, 6, cbig_end h1 (by omega), by omega, .inr ⟨.inl (by omega), 6, rfl, by decide, ?_⟩⟩
      rw [List.drop_of_length_le (by omega)]
      rfl
  obtain ⟨mm, m1, e1, ca, hmm, hcase⟩ := hmany
  have HCA := Lib.hid ca
  have HCS := Lib.hid hcase
  clear ca hcase h hp0 k1 h1
  go_enter Try.func33, Try.ntmps33
  go_wp2_with fail
  refine HCA.out.mono ?_
  rintro ex y ⟨rfl, hc1, hg1⟩
  have hp1 := HP0.out.kept hg1 (HP0.out.ne H1.out)
  have c1 : y.cell? ⟨x.heap.size, 0, none⟩ = some (.pointer (some ⟨b, 0, none⟩)) := (blk_facts hp1).1 0
  have hz1 := hp1.lt
  have HP1 := Lib.hid hp1
  have HG1 := Lib.hid (grownBy_trans HG0.out hg1 (.inl rfl))
  have HC1 := Lib.hid hc1
  clear hp1 hg1 hc1 HP0 HG0 H1 HCA
  have hcs := HCS.out
  rcases hcs with ⟨rfl, q1, q2, hjo⟩ | ⟨q1, e2, hfe, hne2, hjo⟩
  · -- good
    have q3 : decide ((mm : Int) < 1) = false := decide_eq_false (by omega)
    have q4 : decide ((15 : Int) < (mm : Int)) = false := decide_eq_false (by omega)
    have q5 : decide (15 < mm) = false := decide_eq_false (by omega)
    have q6 : decide (mm < 1) = false := decide_eq_false (by omega)
    have HJO := Lib.hid hjo
    clear hjo
    have HN1 := Lib.hid (next_any x.heap.size HC1.out HP1.out mm (by omega))
    go_wp2_with fail
    refine HN1.out.mono ?_
    rintro ex w1 ⟨u1, fs, n1, r1, rfl, hr1, hc1, ho1, hb1, hg1⟩
    have HQ1 := Lib.hid (HP1.out.kept hg1 (HP1.out.ne HC1.out))
    have HR1 := Lib.hid hr1
    have HD1 := Lib.hid hc1
    have HO1 := Lib.hid ho1
    have HB1 := Lib.hid hb1
    have HG1b := Lib.hid (grownBy_trans HG1.out hg1 (.inl rfl))
    clear hr1 hc1 ho1 hb1 hg1 HN1
    have HN2 := Lib.hid (next_any x.heap.size HD1.out HQ1.out k hk)
    go_wp2_with fail
    refine HN2.out.mono ?_
    rintro ex w2 ⟨u2, ts, n2, r2, rfl, hr2, hc2, ho2, hb2, hg2⟩
    have HQ2 := Lib.hid (HQ1.out.kept hg2 (HQ1.out.ne HD1.out))
    have HR12 := Lib.hid (irow_kept HR1.out hg2 HD1.out.box (by decide))
    have HR2 := Lib.hid hr2
    have HD2 := Lib.hid hc2
    have HO2 := Lib.hid ho2
    have HB2 := Lib.hid hb2
    have HG2 := Lib.hid (grownBy_trans HG1b.out hg2 (.inl rfl))
    have HS12 := Lib.hid hg2.size
    obtain ⟨A2, c2, rfl, hi2⟩ := hr2.reads
    have htl : ts.length ≤ 100000 := by
      by_cases h0 : r1 = 0
      · have g1 := outc_len (ho2 h0)
        rw [List.length_drop] at g1
        omega
      · rw [(hb2 h0).1]; simp
    have HCn := Lib.hid (bcount_any A2 c2 ts w2 hi2 (by omega))
    have hcl : ts.count 0 ≤ ts.length := List.count_le_length
    clear hr2 hc2 ho2 hb2 hg2 HN2 HR1 hi2
    go_wp2_with fail
    refine HCn.out.mono ?_
    rintro ex w2b ⟨rfl, ew⟩
    have ew := ew.symm
    subst ew
    have HN3 := Lib.hid (next_any x.heap.size HD2.out HQ2.out (ts.count 0) (by omega))
    go_wp2_with fail
    refine HN3.out.mono ?_
    rintro ex w3 ⟨u3, rs, n3, r3, rfl, hr3, hc3, ho3, hb3, hg3⟩
    have hq3 := HQ2.out.kept hg3 (HQ2.out.ne HD2.out)
    have d1 : w3.cell? ⟨x.heap.size, 0, none⟩ = some (.pointer (some ⟨b, 0, none⟩)) := (blk_facts hq3).1 0
    have hz3 := hq3.lt
    have HR13 := Lib.hid (irow_kept HR12.out hg3 HD2.out.box (by decide))
    have HR23 := Lib.hid (irow_kept HR2.out hg3 HD2.out.box (by decide))
    have HR3 := Lib.hid hr3
    have HD3 := Lib.hid hc3
    have HO3 := Lib.hid ho3
    have HB3 := Lib.hid hb3
    have HG3 := Lib.hid (grownBy_trans HG2.out hg3 (.inl rfl))
    have HE3 := Lib.hid (cerr_any hc3)
    have HS3 := Lib.hid hg3.size
    have HQ3 := Lib.hid hq3
    clear hr3 hc3 ho3 hb3 hg3 HN3 HR12 HR2 hq3 HCn
    go_wp2_with fail
    refine HE3.out.mono ?_
    rintro ex w4 ⟨rfl, ew⟩
    have ew := ew.symm
    subst ew
    clear HE3
    have hkey := trio_of (m := mm) (n := k) (HO1.out (by trivial)) HO2.out HB2.out HO3.out HB3.out
    have HK := Lib.hid hkey
    clear hkey
    by_cases hr0 : r3 = 0
    · subst hr0
      obtain ⟨hj, hfl, htl2, _, hkl, hrl, hI, hJ⟩ : (trio mm k (l.drop m1) = if Po.err fs ts rs = 0 then .ok (Po.out fs ts rs, l.drop n3) else .error (Po.err fs ts rs)) ∧ fs.length = mm ∧ ts.length = k ∧ mm ≤ (l.drop m1).length ∧ k ≤ (l.drop n1).length ∧ rs.length = ts.count 0 ∧ (∀ v ∈ fs, I64 v) ∧ (∀ v ∈ rs, I64 v) := by
        rcases HK.out with ⟨h, _⟩ | ⟨_, h⟩
        · exact absurd rfl h
        · exact h
      have HJ := Lib.hid (HJO.out.trans hj)
      obtain ⟨A1, k1, rfl, hi1⟩ := HR13.out.reads
      obtain ⟨A2', k2, e2', hi2⟩ := HR23.out.reads
      cases e2'
      obtain ⟨A3, k3, rfl, hi3⟩ := HR3.out.reads
      have HJn := Lib.hid (join_any A1 A2 A3 k1 c2 k3 fs ts rs w3 hi1 hi2 hi3 hI hJ (by omega) (by omega) (by omega))
      clear hi1 hi2 hi3 hI hJ hj HR13 HR23 HR3 HK hfl htl2 hrl hkl
      go_wp2_with fail
      refine HJn.out.mono ?_
      rintro ex w5 ⟨A5, k5, rfl, ⟨hi5, hf5⟩, hb5⟩
      have hq5 := HQ3.out.grow hb5
      have d5 : w5.cell? ⟨x.heap.size, 0, none⟩ = some (.pointer (some ⟨b, 0, none⟩)) := (blk_facts hq5).1 0
      have hz5 := hq5.lt
      have HD5 := Lib.hid (HD3.out.grow hb5)
      have HG5 := Lib.hid (grownBy_trans HG3.out (grownBy_below hb5 none) (.inr fun g e => by cases e))
      have HI5 := Lib.hid (show IRead w5 x.heap.size (.slice A5 (Po.out fs ts rs).length k5) (Po.out fs ts rs) from ⟨A5, k5, rfl, hi5, fun g o e => Nat.le_trans HG3.out.size (hf5 g o e)⟩)
      clear hi5 hf5 hb5 hq5 HJn d1 hz3
      by_cases her : Po.err fs ts rs = 0
      · have q7 : (Po.err fs ts rs != 0) = false := by simp [her]
        have hfin := Lib.hid (HJ.out.trans (if_pos her))
        clear her
        go_wp2_with fail
        go_ret
        exact ⟨_, _, _, 0, rfl, HI5.out, HD5.out, outc_ok hfin.out, HG5.out⟩
      · have q7 : (Po.err fs ts rs != 0) = true := by simp [her]
        have hfin := Lib.hid (HJ.out.trans (if_neg her))
        have HFl := Lib.hid (cfail_any (Po.err fs ts rs) HD5.out)
        have HER := Lib.hid her
        have hno := Lib.hid (po_out_err her)
        clear her
        go_wp2_with fail
        refine HFl.out.mono ?_
        rintro ex w6 ⟨rfl, hc6, hg6⟩
        have e9 : fe 0 (Po.err fs ts rs) = Po.err fs ts rs := rfl
        rw [e9] at hc6
        have HD6 := Lib.hid hc6
        have HG6 := Lib.hid (grownBy_trans HG5.out hg6 (.inl rfl))
        have HI6 := Lib.hid (HI5.out.kept hg6 hbl)
        clear hc6 hg6 HFl e9
        go_wp2_with fail
        go_ret
        exact ⟨_, [], _, _, rfl, hno.out ▸ HI6.out, HD6.out, outc_error hfin.out HER.out, HG6.out⟩
    · have q7 : (r3 != 0) = true := by simpa using hr0
      have hfin := Lib.hid (show joinR k (l.drop n) = .error r3 by
        rcases HK.out with ⟨_, h⟩ | ⟨h, _⟩
        · exact HJO.out.trans h
        · exact absurd h hr0)
      have HRN := Lib.hid hr0
      clear hr0
      go_wp2_with fail
      go_ret
      exact ⟨_, [], _, r3, rfl, IRead.nil _ _, HD3.out, outc_error hfin.out HRN.out, HG3.out⟩
  · -- bad
    rcases q1 with q1 | q1
    · have q3 : decide ((mm : Int) < 1) = true := decide_eq_true (by omega)
      have q6 : decide (mm < 1) = true := decide_eq_true (by omega)
      have HFl := Lib.hid (cfail_any 2 HC1.out)
      have HJO := Lib.hid hjo
      have HN2E := Lib.hid hne2
      clear hjo hne2
      go_wp2_with fail
      refine HFl.out.mono ?_
      rintro ex yb ⟨rfl, hcb, hgb⟩
      rw [hfe] at hcb
      have HPb := Lib.hid (HP1.out.kept hgb (HP1.out.ne HC1.out))
      have HCb := Lib.hid hcb
      have HGb := Lib.hid (grownBy_trans HG1.out hgb (.inl rfl))
      have db : yb.cell? ⟨x.heap.size, 0, none⟩ = some (.pointer (some ⟨b, 0, none⟩)) := (blk_facts HPb.out).1 0
      have hzb := HPb.out.lt
      clear hcb hgb HFl c1 hz1 HP1 HG1 HC1 hfe
      have HN1 := Lib.hid (next_any x.heap.size HCb.out HPb.out mm (by omega))
      go_wp2_with fail
      refine HN1.out.mono ?_
      rintro ex w1 ⟨u1, fs, n1, r1, rfl, hr1, hc1, ho1, hb1, hg1⟩
      have HQ1 := Lib.hid (HPb.out.kept hg1 (HPb.out.ne HCb.out))
      have HR1 := Lib.hid hr1
      have HD1 := Lib.hid hc1
      have HO1 := Lib.hid ho1
      have HB1 := Lib.hid hb1
      have HG1b := Lib.hid (grownBy_trans HGb.out hg1 (.inl rfl))
      clear hr1 hc1 ho1 hb1 hg1 HN1
      have HN2 := Lib.hid (next_any x.heap.size HD1.out HQ1.out k hk)
      go_wp2_with fail
      refine HN2.out.mono ?_
      rintro ex w2 ⟨u2, ts, n2, r2, rfl, hr2, hc2, ho2, hb2, hg2⟩
      have HQ2 := Lib.hid (HQ1.out.kept hg2 (HQ1.out.ne HD1.out))
      have HR12 := Lib.hid (irow_kept HR1.out hg2 HD1.out.box (by decide))
      have HR2 := Lib.hid hr2
      have HD2 := Lib.hid hc2
      have HO2 := Lib.hid ho2
      have HB2 := Lib.hid hb2
      have HG2 := Lib.hid (grownBy_trans HG1b.out hg2 (.inl rfl))
      have HS12 := Lib.hid hg2.size
      obtain ⟨A2, c2, rfl, hi2⟩ := hr2.reads
      have htl : ts.length ≤ 100000 := by
        by_cases h0 : r1 = 0
        · have g1 := outc_len (ho2 h0)
          rw [List.length_drop] at g1
          omega
        · rw [(hb2 h0).1]; simp
      have HCn := Lib.hid (bcount_any A2 c2 ts w2 hi2 (by omega))
      have hcl : ts.count 0 ≤ ts.length := List.count_le_length
      clear hr2 hc2 ho2 hb2 hg2 HN2 HR1 hi2
      go_wp2_with fail
      refine HCn.out.mono ?_
      rintro ex w2b ⟨rfl, ew⟩
      have ew := ew.symm
      subst ew
      have HN3 := Lib.hid (next_any x.heap.size HD2.out HQ2.out (ts.count 0) (by omega))
      go_wp2_with fail
      refine HN3.out.mono ?_
      rintro ex w3 ⟨u3, rs, n3, r3, rfl, hr3, hc3, ho3, hb3, hg3⟩
      have hq3 := HQ2.out.kept hg3 (HQ2.out.ne HD2.out)
      have d1 : w3.cell? ⟨x.heap.size, 0, none⟩ = some (.pointer (some ⟨b, 0, none⟩)) := (blk_facts hq3).1 0
      have hz3 := hq3.lt
      have HR13 := Lib.hid (irow_kept HR12.out hg3 HD2.out.box (by decide))
      have HR23 := Lib.hid (irow_kept HR2.out hg3 HD2.out.box (by decide))
      have HR3 := Lib.hid hr3
      have HD3 := Lib.hid hc3
      have HO3 := Lib.hid ho3
      have HB3 := Lib.hid hb3
      have HG3 := Lib.hid (grownBy_trans HG2.out hg3 (.inl rfl))
      have HE3 := Lib.hid (cerr_any hc3)
      have HS3 := Lib.hid hg3.size
      have HQ3 := Lib.hid hq3
      clear hr3 hc3 ho3 hb3 hg3 HN3 HR12 HR2 hq3 HCn
      go_wp2_with fail
      refine HE3.out.mono ?_
      rintro ex w4 ⟨rfl, ew⟩
      have ew := ew.symm
      subst ew
      clear HE3
      obtain ⟨rfl, rfl⟩ := HB1.out HN2E.out
      obtain ⟨rfl, rfl⟩ := HB2.out HN2E.out
      obtain ⟨rfl, rfl⟩ := HB3.out HN2E.out
      have q7 : (r3 != 0) = true := by simpa using HN2E.out
      go_wp2_with fail
      go_ret
      exact ⟨_, [], _, r3, rfl, IRead.nil _ _, HD3.out, outc_error HJO.out HN2E.out, HG3.out⟩
    · have q3 : decide ((mm : Int) < 1) = false := decide_eq_false (by omega)
      have q4 : decide ((15 : Int) < (mm : Int)) = true := decide_eq_true (by omega)
      have q5 : decide (15 < mm) = true := decide_eq_true (by omega)
      have q6 : decide (mm < 1) = false := decide_eq_false (by omega)
      have HFl := Lib.hid (cfail_any 2 HC1.out)
      have HJO := Lib.hid hjo
      have HN2E := Lib.hid hne2
      clear hjo hne2
      go_wp2_with fail
      refine HFl.out.mono ?_
      rintro ex yb ⟨rfl, hcb, hgb⟩
      rw [hfe] at hcb
      have HPb := Lib.hid (HP1.out.kept hgb (HP1.out.ne HC1.out))
      have HCb := Lib.hid hcb
      have HGb := Lib.hid (grownBy_trans HG1.out hgb (.inl rfl))
      have db : yb.cell? ⟨x.heap.size, 0, none⟩ = some (.pointer (some ⟨b, 0, none⟩)) := (blk_facts HPb.out).1 0
      have hzb := HPb.out.lt
      clear hcb hgb HFl c1 hz1 HP1 HG1 HC1 hfe
      have HN1 := Lib.hid (next_any x.heap.size HCb.out HPb.out mm (by omega))
      go_wp2_with fail
      refine HN1.out.mono ?_
      rintro ex w1 ⟨u1, fs, n1, r1, rfl, hr1, hc1, ho1, hb1, hg1⟩
      have HQ1 := Lib.hid (HPb.out.kept hg1 (HPb.out.ne HCb.out))
      have HR1 := Lib.hid hr1
      have HD1 := Lib.hid hc1
      have HO1 := Lib.hid ho1
      have HB1 := Lib.hid hb1
      have HG1b := Lib.hid (grownBy_trans HGb.out hg1 (.inl rfl))
      clear hr1 hc1 ho1 hb1 hg1 HN1
      have HN2 := Lib.hid (next_any x.heap.size HD1.out HQ1.out k hk)
      go_wp2_with fail
      refine HN2.out.mono ?_
      rintro ex w2 ⟨u2, ts, n2, r2, rfl, hr2, hc2, ho2, hb2, hg2⟩
      have HQ2 := Lib.hid (HQ1.out.kept hg2 (HQ1.out.ne HD1.out))
      have HR12 := Lib.hid (irow_kept HR1.out hg2 HD1.out.box (by decide))
      have HR2 := Lib.hid hr2
      have HD2 := Lib.hid hc2
      have HO2 := Lib.hid ho2
      have HB2 := Lib.hid hb2
      have HG2 := Lib.hid (grownBy_trans HG1b.out hg2 (.inl rfl))
      have HS12 := Lib.hid hg2.size
      obtain ⟨A2, c2, rfl, hi2⟩ := hr2.reads
      have htl : ts.length ≤ 100000 := by
        by_cases h0 : r1 = 0
        · have g1 := outc_len (ho2 h0)
          rw [List.length_drop] at g1
          omega
        · rw [(hb2 h0).1]; simp
      have HCn := Lib.hid (bcount_any A2 c2 ts w2 hi2 (by omega))
      have hcl : ts.count 0 ≤ ts.length := List.count_le_length
      clear hr2 hc2 ho2 hb2 hg2 HN2 HR1 hi2
      go_wp2_with fail
      refine HCn.out.mono ?_
      rintro ex w2b ⟨rfl, ew⟩
      have ew := ew.symm
      subst ew
      have HN3 := Lib.hid (next_any x.heap.size HD2.out HQ2.out (ts.count 0) (by omega))
      go_wp2_with fail
      refine HN3.out.mono ?_
      rintro ex w3 ⟨u3, rs, n3, r3, rfl, hr3, hc3, ho3, hb3, hg3⟩
      have hq3 := HQ2.out.kept hg3 (HQ2.out.ne HD2.out)
      have d1 : w3.cell? ⟨x.heap.size, 0, none⟩ = some (.pointer (some ⟨b, 0, none⟩)) := (blk_facts hq3).1 0
      have hz3 := hq3.lt
      have HR13 := Lib.hid (irow_kept HR12.out hg3 HD2.out.box (by decide))
      have HR23 := Lib.hid (irow_kept HR2.out hg3 HD2.out.box (by decide))
      have HR3 := Lib.hid hr3
      have HD3 := Lib.hid hc3
      have HO3 := Lib.hid ho3
      have HB3 := Lib.hid hb3
      have HG3 := Lib.hid (grownBy_trans HG2.out hg3 (.inl rfl))
      have HE3 := Lib.hid (cerr_any hc3)
      have HS3 := Lib.hid hg3.size
      have HQ3 := Lib.hid hq3
      clear hr3 hc3 ho3 hb3 hg3 HN3 HR12 HR2 hq3 HCn
      go_wp2_with fail
      refine HE3.out.mono ?_
      rintro ex w4 ⟨rfl, ew⟩
      have ew := ew.symm
      subst ew
      clear HE3
      obtain ⟨rfl, rfl⟩ := HB1.out HN2E.out
      obtain ⟨rfl, rfl⟩ := HB2.out HN2E.out
      obtain ⟨rfl, rfl⟩ := HB3.out HN2E.out
      have q7 : (r3 != 0) = true := by simpa using HN2E.out
      go_wp2_with fail
      go_ret
      exact ⟨_, [], _, r3, rfl, IRead.nil _ _, HD3.out, outc_error HJO.out HN2E.out, HG3.out⟩
end
end Go.Proofs.Ytbdkoagagcemcaa

/- Layer 27 plain: texts in order, as bytes; what is written is read as it was. No program. -/
namespace Go.Proofs.Ytbdkoagagcemcaa
open Pp

/-- How many bytes two texts begin with alike. -/
def shared : List UInt8 → List UInt8 → Nat
  | a :: x, b :: y => if a = b then shared x y + 1 else 0
  | _, _ => 0
theorem shared_le_l : ∀ a b : List UInt8, shared a b ≤ a.length
  | [], b => by simp [shared]
  | a :: x, [] => by simp [shared]
  | a :: x, b :: y => by
    unfold shared
    split
    · have := shared_le_l x y; simp only [List.length_cons]; omega
    · omega
theorem shared_le_r : ∀ a b : List UInt8, shared a b ≤ b.length
  | [], b => by simp [shared]
  | a :: x, [] => by simp [shared]
  | a :: x, b :: y => by
    unfold shared
    split
    · have := shared_le_r x y; simp only [List.length_cons]; omega
    · omega
theorem shared_take : ∀ a b : List UInt8, a.take (shared a b) = b.take (shared a b)
  | [], b => by simp [shared]
  | a :: x, [] => by simp [shared]
  | a :: x, b :: y => by
    unfold shared
    split
    · rename_i h
      rw [h, List.take_succ_cons, List.take_succ_cons, shared_take x y]
    · simp
/-- The columns of texts behind another one. -/
def wBegins : List UInt8 → List (List UInt8) → List Int
  | _, [] => []
  | last, s :: l => (shared last s : Int) :: wBegins s l
def wMore : List UInt8 → List (List UInt8) → List Int
  | _, [] => []
  | last, s :: l => ((s.length - shared last s : Nat) : Int) :: wMore s l
def wTail : List UInt8 → List (List UInt8) → List UInt8
  | _, [] => []
  | last, s :: l => s.drop (shared last s) ++ wTail s l
theorem wBegins_len : ∀ (l : List (List UInt8)) (last : List UInt8), (wBegins last l).length = l.length
  | [], _ => rfl
  | s :: l, last => by simp [wBegins, wBegins_len l s]
theorem wMore_len : ∀ (l : List (List UInt8)) (last : List UInt8), (wMore last l).length = l.length
  | [], _ => rfl
  | s :: l, last => by simp [wMore, wMore_len l s]
def sumL (l : List (List UInt8)) : Nat := (l.map List.length).sum
/-- Each behind the one ahead of it. -/
def risesL : List (List UInt8) → Prop
  | [] => True
  | [_] => True
  | a :: b :: l => a < b ∧ risesL (b :: l)
instance decRises : ∀ l : List (List UInt8), Decidable (risesL l)
  | [] => .isTrue trivial
  | [_] => .isTrue trivial
  | a :: b :: l => by
    unfold risesL
    have := decRises (b :: l)
    infer_instance
/-- Why texts aren't written, or nought. -/
def wordsE (l : List (List UInt8)) : Int := if 16777216 ≤ l.length then 4 else if ¬ risesL l then 2 else if 16777216 < sumL l then 3 else 0
def join3 : Option (List UInt8) → Option (List UInt8) → Option (List UInt8) → List UInt8 → Option (List UInt8)
  | some a, some b, some c, d => some (a ++ b ++ c ++ d)
  | _, _, _, _ => none
theorem join3_some : ∀ {a b c : Option (List UInt8)} {d x : List UInt8}, join3 a b c d = some x → ∃ a' b' c', a = some a' ∧ b = some b' ∧ c = some c' ∧ x = a' ++ b' ++ c' ++ d
  | some a, some b, some c, d, x, h => ⟨a, b, c, rfl, rfl, rfl, (Option.some.inj h).symm⟩
  | none, _, _, _, _, h => by simp [join3] at h
  | some _, none, _, _, _, h => by simp [join3] at h
  | some _, some _, none, _, _, h => by simp [join3] at h
def wordsB (l : List (List UInt8)) : Option (List UInt8) := join3 (bandW [(l.length : Int)]) (bandW (wBegins [] l)) (bandW (wMore [] l)) (wTail [] l)
/-- A band of so many numbers, that may be too many. -/
def bandN (n : Int) (r : List UInt8) : Except Int (List Int × List UInt8) := if n < 0 ∨ 16777216 < n then .error 1 else bandR n.toNat r
/-- The texts, by their columns: behind the last one, with so many bytes told. -/
def wGo (most : Int) (first : Bool) (last : List UInt8) (sum : Int) : List Int → List Int → List UInt8 → Except Int (List (List UInt8) × List UInt8)
  | n :: ns, m :: ms, r =>
    if n < 0 ∨ (last.length : Int) < n ∨ m < 0 then .error 2
    else if most < sum + (n + m) then .error 3
    else if (r.length : Int) < m then .error 6
    else if first = false ∧ ¬ last < last.take n.toNat ++ r.take m.toNat then .error 2
    else match wGo most false (last.take n.toNat ++ r.take m.toNat) (sum + (n + m)) ns ms (r.drop m.toNat) with
      | .error e => .error e
      | .ok (l, r') => .ok ((last.take n.toNat ++ r.take m.toNat) :: l, r')
  | [], _, r => .ok ([], r)
  | _, [], r => .ok ([], r)
def wordsR (most : Int) (r : List UInt8) : Except Int (List (List UInt8) × List UInt8) :=
  if most < 0 ∨ 16777216 < most then .error 1 else
  match bandR 1 r with
  | .error e => .error e
  | .ok (k, r0) => match bandN (k.getD 0 0) r0 with
    | .error e => .error e
    | .ok (ns, r1) => match bandN (k.getD 0 0) r1 with
      | .error e => .error e
      | .ok (ms, r2) => wGo most true [] 0 ns ms r2
theorem wGo_back (most : Int) : ∀ (l : List (List UInt8)) (first : Bool) (last : List UInt8) (sum : Int) (r : List UInt8), (first = true → True) → (first = false → risesL (last :: l)) → risesL l → sum + (sumL l : Int) ≤ most → wGo most first last sum (wBegins last l) (wMore last l) (wTail last l ++ r) = .ok (l, r)
  | [], first, last, sum, r, _, _, _, _ => by simp [wBegins, wGo, wTail]
  | s :: l, first, last, sum, r, _, h2, h3, h4 => by
    have hl := shared_le_l last s
    have hr := shared_le_r last s
    have hsum : sumL (s :: l) = s.length + sumL l := by simp [sumL]
    have htk : last.take (shared last s) ++ (s.drop (shared last s) ++ wTail s l ++ r).take (s.length - shared last s) = s := by
      have e1 : (s.drop (shared last s)).take (s.length - shared last s) = s.drop (shared last s) := List.take_of_length_le (by rw [List.length_drop]; exact Nat.le_refl _)
      rw [shared_take, List.append_assoc, List.take_append_of_le_length (by rw [List.length_drop]; exact Nat.le_refl _), e1, List.take_append_drop]
    have hdr : (s.drop (shared last s) ++ wTail s l ++ r).drop (s.length - shared last s) = wTail s l ++ r := by
      have e1 : (s.drop (shared last s)).drop (s.length - shared last s) = [] := List.drop_of_length_le (by rw [List.length_drop]; exact Nat.le_refl _)
      rw [List.append_assoc, List.drop_append_of_le_length (by rw [List.length_drop]; exact Nat.le_refl _), e1, List.nil_append]
    have hrest : risesL l := by
      cases l with
      | nil => trivial
      | cons b l => exact h3.2
    unfold wBegins wMore wTail
    unfold wGo
    rw [if_neg (by omega), if_neg (by rw [hsum] at h4; omega), if_neg (by simp only [List.length_append, List.length_drop]; omega)]
    simp only [Int.toNat_natCast]
    rw [htk, hdr, if_neg (fun h => h.2 (h2 h.1).1), wGo_back most l false s _ r (fun h => by cases h) (fun _ => h3) hrest (by rw [hsum] at h4; omega)]
theorem bandN_back {l : List Int} {x : List UInt8} (h : bandW l = some x) (hl : l.length ≤ 16777216) (r : List UInt8) : bandN (l.length : Int) (x ++ r) = .ok (l, r) := by
  unfold bandN
  rw [if_neg (by omega), Int.toNat_natCast]
  exact band_back h r
theorem wordsE_zero {l : List (List UInt8)} (h : wordsE l = 0) : l.length < 16777216 ∧ risesL l := by
  unfold wordsE at h
  by_cases h1 : 16777216 ≤ l.length
  · rw [if_pos h1] at h
    exact absurd h (by decide)
  · rw [if_neg h1] at h
    by_cases h2 : risesL l
    · exact ⟨Nat.lt_of_not_le h1, h2⟩
    · rw [if_pos h2] at h
      exact absurd h (by decide)
theorem wordsB_some {l : List (List UInt8)} {x : List UInt8} (h : wordsB l = some x) : ∃ a b c, bandW [(l.length : Int)] = some a ∧ bandW (wBegins [] l) = some b ∧ bandW (wMore [] l) = some c ∧ x = a ++ b ++ c ++ wTail [] l := join3_some h
theorem wordsR_eq {most : Int} (hm : ¬ (most < 0 ∨ 16777216 < most)) {x r0 r1 r2 : List UInt8} {k ns ms : List Int} (h1 : bandR 1 x = .ok (k, r0)) (h2 : bandN (k.getD 0 0) r0 = .ok (ns, r1)) (h3 : bandN (k.getD 0 0) r1 = .ok (ms, r2)) : wordsR most x = wGo most true [] 0 ns ms r2 := by
  unfold wordsR
  rw [if_neg hm, h1]
  dsimp only
  rw [h2]
  dsimp only
  rw [h3]
theorem head_len {most : Int} (hm0 : 0 ≤ most) (hmost : most ≤ 16777216) : ¬ (most < 0 ∨ 16777216 < most) := by omega
/-- The first three bands of what is written. -/
theorem words_head {l : List (List UInt8)} {x : List UInt8} (h : wordsB l = some x) (hlen : l.length < 16777216) {most : Int} (hm0 : 0 ≤ most) (hmost : most ≤ 16777216) (r : List UInt8) : wordsR most (x ++ r) = wGo most true [] 0 (wBegins [] l) (wMore [] l) (wTail [] l ++ r) := by
  obtain ⟨a, b, c, ha, hb, hc, rfl⟩ := wordsB_some h
  have e : a ++ b ++ c ++ wTail [] l ++ r = a ++ (b ++ (c ++ (wTail [] l ++ r))) := by simp only [List.append_assoc]
  have h1 : bandR 1 (a ++ (b ++ (c ++ (wTail [] l ++ r)))) = _ := band_back ha _
  have h2 := bandN_back hb (by rw [wBegins_len]; exact Nat.le_of_lt hlen) (c ++ (wTail [] l ++ r))
  rw [wBegins_len] at h2
  have h3 := bandN_back hc (by rw [wMore_len]; exact Nat.le_of_lt hlen) (wTail [] l ++ r)
  rw [wMore_len] at h3
  rw [e]
  exact wordsR_eq (head_len hm0 hmost) h1 h2 h3
/-- What is written is read as it was, by just that room or more. -/
theorem words_back {l : List (List UInt8)} {x : List UInt8} (h : wordsB l = some x) (he : wordsE l = 0) {most : Int} (hm : (sumL l : Int) ≤ most) (hmost : most ≤ 16777216) (r : List UInt8) : wordsR most (x ++ r) = .ok (l, r) := by
  obtain ⟨hlen, hris⟩ := wordsE_zero he
  rw [words_head h hlen (by omega) hmost r]
  exact wGo_back most l true [] 0 r (fun _ => trivial) (fun h => by cases h) hris (by omega)
/-- By less room it isn't. -/
theorem wGo_less (most : Int) : ∀ (l : List (List UInt8)) (first : Bool) (last : List UInt8) (sum : Int) (r : List UInt8), (first = false → risesL (last :: l)) → risesL l → sum ≤ most → most < sum + (sumL l : Int) → wGo most first last sum (wBegins last l) (wMore last l) (wTail last l ++ r) = .error 3
  | [], first, last, sum, r, _, _, h3, h4 => by simp [sumL] at h4; omega
  | s :: l, first, last, sum, r, h2, h3, h5, h4 => by
    have hl := shared_le_l last s
    have hr := shared_le_r last s
    have hsum : sumL (s :: l) = s.length + sumL l := by simp [sumL]
    have e0 : (s.drop (shared last s)).take (s.length - shared last s) = s.drop (shared last s) := List.take_of_length_le (by rw [List.length_drop]; exact Nat.le_refl _)
    have htk : last.take (shared last s) ++ (s.drop (shared last s) ++ wTail s l ++ r).take (s.length - shared last s) = s := by
      rw [shared_take, List.append_assoc, List.take_append_of_le_length (by rw [List.length_drop]; exact Nat.le_refl _), e0, List.take_append_drop]
    have e1 : (s.drop (shared last s)).drop (s.length - shared last s) = [] := List.drop_of_length_le (by rw [List.length_drop]; exact Nat.le_refl _)
    have hdr : (s.drop (shared last s) ++ wTail s l ++ r).drop (s.length - shared last s) = wTail s l ++ r := by
      rw [List.append_assoc, List.drop_append_of_le_length (by rw [List.length_drop]; exact Nat.le_refl _), e1, List.nil_append]
    have hrest : risesL l := by
      cases l with
      | nil => trivial
      | cons b l => exact h3.2
    unfold wBegins wMore wTail
    unfold wGo
    rw [if_neg (by omega)]
    by_cases h6 : most < sum + (((shared last s : Nat) : Int) + ((s.length - shared last s : Nat) : Int))
    · rw [if_pos h6]
    · rw [if_neg h6, if_neg (by simp only [List.length_append, List.length_drop]; omega)]
      simp only [Int.toNat_natCast]
      rw [htk, hdr, if_neg (fun h => h.2 (h2 h.1).1), wGo_less most l false s _ r (fun _ => h3) hrest (by omega) (by rw [hsum] at h4; omega)]
theorem words_less {l : List (List UInt8)} {x : List UInt8} (h : wordsB l = some x) (he : wordsE l = 0) {most : Int} (hm0 : 0 ≤ most) (hm : most < (sumL l : Int)) (hmost : most ≤ 16777216) (r : List UInt8) : wordsR most (x ++ r) = .error 3 := by
  obtain ⟨hlen, hris⟩ := wordsE_zero he
  rw [words_head h hlen hm0 hmost r]
  exact wGo_less most l true [] 0 r (fun h => by cases h) hris hm0 (by omega)
end Go.Proofs.Ytbdkoagagcemcaa

/- The walk of layer 26: a band that is read. -/
namespace Go.Proofs.Ytbdkoagagcemcaa
open Go.RowKit Pp

/-- What a band's reading comes to, whether there is an error ahead or not. -/
def BandRes (b : Nat) (A : Option Addr) (cc : Nat) (l : List UInt8) (n : Nat) (e : Int) (k : Int) (x : World) (ex : Ending) (y : World) : Prop :=
  ∃ (u : Value) (vs : List Int) (m : Nat) (e' : Int), ex = .returned u ∧ IRead y x.heap.size u vs ∧ CurS y b A cc l m e' ∧ (e = 0 → Outc (bandN k (l.drop n)) [] vs e' (l.drop m)) ∧ (e ≠ 0 → vs = [] ∧ e' = e) ∧ x.grownBy y (some b)
theorem bandN_out {k : Int} (h : k < 0 ∨ 16777216 < k) (r : List UInt8) : bandN k r = .error 1 := if_pos h
theorem bandN_in {k : Int} (h : ¬ (k < 0 ∨ 16777216 < k)) (r : List UInt8) : bandN k r = bandR k.toNat r := if_neg h
section
variable {x : World} {b : Nat} {A : Option Addr} {cc : Nat} {l : List UInt8} {n : Nat} {e : Int}
set_option maxHeartbeats 8000000 in
set_option maxRecDepth 100000 in
theorem bread_any (h : CurS x b A cc l n e) (k : Int) (hk : I64 k) (hl : l.length ≤ 100000) :
    Calls Try.prog 13 #[.pointer (some ⟨b, 0, none⟩), .int .i64 k] x (BandRes b A cc l n e k x) := by
  have H0 := Lib.hid h
  have hnl := h.le
  unfold I64 at hk
  by_cases hr : k < 0 ∨ 16777216 < k
  · have HFl := Lib.hid (cfail_any 1 h)
    have hn1 : fe e 1 ≠ 0 := by unfold fe; split <;> omega
    have hn2 := Lib.hid (show (e = 0 → fe e 1 = 1) ∧ (e ≠ 0 → fe e 1 = e) from ⟨fun h => by unfold fe; rw [if_pos h], fun h => by unfold fe; rw [if_neg h]⟩)
    have hfin := Lib.hid (bandN_out hr (l.drop n))
    have q9 : (fe e 1 != 0) = true := by simpa using hn1
    have HN1 := Lib.hid hn1
    clear h hn1
    have hcase : decide (k < 0) = true ∨ (decide (k < 0) = false ∧ decide (16777216 < k) = true) := by
      rcases hr with h | h
      · exact .inl (decide_eq_true h)
      · exact .inr ⟨decide_eq_false (by omega), decide_eq_true h⟩
    clear hr
    generalize fe e 1 = e1 at *
    rcases hcase with q1 | ⟨q1, q2⟩
    all_goals
      go_enter Try.func13, Try.ntmps13
      go_wp2_with fail
      refine HFl.out.mono ?_
      rintro ex y ⟨rfl, hc1, hg1⟩
      have HB := Lib.hid (cbig_bad hc1 HN1.out)
      have HE := Lib.hid (cerr_any hc1)
      have HC := Lib.hid hc1
      have HG := Lib.hid hg1
      clear hc1 hg1 HFl
      go_wp2_with fail
      refine HB.out.mono ?_
      rintro ex z ⟨rfl, ez⟩
      have ez := ez.symm
      subst ez
      go_wp2_with fail
      refine HE.out.mono ?_
      rintro ex z ⟨rfl, ez⟩
      have ez := ez.symm
      subst ez
      go_wp2_with fail
      go_ret
      exact ⟨_, [], n, e1, rfl, IRead.nil _ _, HC.out, fun h0 => by rw [hfin.out, hn2.out.1 h0]; exact ⟨rfl, by decide, rfl⟩, fun h0 => ⟨rfl, hn2.out.2 h0⟩, HG.out⟩
  · have q1 : decide (k < 0) = false := decide_eq_false (by omega)
    have q2 : decide (16777216 < k) = false := decide_eq_false (by omega)
    obtain ⟨j, rfl⟩ : ∃ j : Nat, k = (j : Int) := ⟨k.toNat, by omega⟩
    have hbn := Lib.hid (show ∀ r, bandN (j : Int) r = bandR j r from fun r => bandN_in hr r)
    clear hr
    by_cases he : e = 0
    · subst he
      by_cases hend : n < l.length
      · obtain ⟨a, ha⟩ : ∃ a, l[n]? = some a := ⟨_, List.getElem?_eq_getElem hend⟩
        have HB := Lib.hid (cbig_ok h ha)
        have hab := a.toNat_lt
        have hdr := Lib.hid (drop_atI ha)
        clear h ha
        go_enter Try.func13, Try.ntmps13
        go_wp2_with fail
        refine HB.out.mono ?_
        rintro ex z ⟨rfl, hc1, hg1⟩
        have HE := Lib.hid (cerr_any hc1)
        have HC1 := Lib.hid hc1
        have HG1 := Lib.hid hg1
        clear hc1 hg1 HB
        go_wp2_with fail
        refine HE.out.mono ?_
        rintro ex z2 ⟨rfl, ez⟩
        have ez := ez.symm
        subst ez
        clear HE
        by_cases h255 : a = 255
        · have q3 : ((a.toNat : Int) == 255) = true := by rw [h255]; rfl
          have hfin := Lib.hid (show bandN (j : Int) (l.drop n) = joinR j (l.drop (n + 1)) by rw [hbn.out, hdr.out, h255]; exact bandR_join _ _)
          have HJ := Lib.hid (joined_any HC1.out j (by omega) hl)
          clear h255
          go_wp2_with fail
          refine HJ.out.mono ?_
          rintro ex z3 ⟨u, vs, m, e', rfl, hr, hc2, ho, hg2⟩
          have HR := Lib.hid (hr.lower HG1.out.size)
          have HC := Lib.hid hc2
          have HO := Lib.hid ho
          have HG := Lib.hid (grownBy_trans HG1.out hg2 (.inl rfl))
          clear hr hc2 ho hg2 HJ
          go_wp2_with fail
          go_ret
          exact ⟨u, vs, m, e', rfl, HR.out, HC.out, fun _ => by rw [hfin.out]; exact HO.out, fun h => absurd rfl h, HG.out⟩
        · have hne : a.toNat ≠ 255 := fun e => h255 (UInt8.toNat_inj.1 (by rw [e]; rfl))
          have q3 : ((a.toNat : Int) == 255) = false := by simp; omega
          have hfin := Lib.hid (show bandN (j : Int) (l.drop n) = plainR a.toNat j (l.drop (n + 1)) by rw [hbn.out, hdr.out]; exact bandR_cons h255 _)
          have HJ := Lib.hid (bplain_any HC1.out a.toNat j (by omega) (by omega))
          clear h255 hne
          go_wp2_with fail
          refine HJ.out.mono ?_
          rintro ex z3 ⟨u, vs, m, e', rfl, hr, hc2, ho, hg2⟩
          have HR := Lib.hid ((IRead.of hr).lower HG1.out.size)
          have HC := Lib.hid hc2
          have HO := Lib.hid ho
          have HG := Lib.hid (grownBy_trans HG1.out hg2 (.inl rfl))
          clear hr hc2 ho hg2 HJ
          go_wp2_with fail
          go_ret
          exact ⟨u, vs, m, e', rfl, HR.out, HC.out, fun _ => by rw [hfin.out]; exact HO.out, fun h => absurd rfl h, HG.out⟩
      · have HB := Lib.hid (cbig_end h (by omega))
        have hfin := Lib.hid (show bandN (j : Int) (l.drop n) = .error 6 by rw [hbn.out, List.drop_of_length_le (by omega)]; rfl)
        clear h
        go_enter Try.func13, Try.ntmps13
        go_wp2_with fail
        refine HB.out.mono ?_
        rintro ex z ⟨rfl, hc1, hg1⟩
        have HE := Lib.hid (cerr_any hc1)
        have HC1 := Lib.hid hc1
        have HG1 := Lib.hid hg1
        clear hc1 hg1 HB
        go_wp2_with fail
        refine HE.out.mono ?_
        rintro ex z2 ⟨rfl, ez⟩
        have ez := ez.symm
        subst ez
        go_wp2_with fail
        go_ret
        exact ⟨_, [], _, 6, rfl, IRead.nil _ _, HC1.out, fun _ => outc_error hfin.out (by decide), fun h => absurd rfl h, HG1.out⟩
    · have HB := Lib.hid (cbig_bad h he)
      have HE := Lib.hid (cerr_any h)
      have q : (e != 0) = true := by simpa using he
      have HEN := Lib.hid he
      clear h he
      go_enter Try.func13, Try.ntmps13
      go_wp2_with fail
      refine HB.out.mono ?_
      rintro ex z ⟨rfl, ez⟩
      have ez := ez.symm
      subst ez
      go_wp2_with fail
      refine HE.out.mono ?_
      rintro ex z2 ⟨rfl, ez⟩
      have ez := ez.symm
      subst ez
      go_wp2_with fail
      go_ret
      exact ⟨_, [], n, e, rfl, IRead.nil _ _, H0.out, fun h => absurd h HEN.out, fun _ => ⟨rfl, rfl⟩, World.grownBy.refl _ _⟩
end
end Go.Proofs.Ytbdkoagagcemcaa

/- The walk of layer 26: a row in the coding that is shortest. -/
namespace Go.Proofs.Ytbdkoagagcemcaa
open Go.RowKit Pp

theorem freshB1 {x : World} {B base : Nat} {y : Int} (h : x.heap[B]? = some (.cells #[.int .u8 y] 5 (0, 0))) (hb : base ≤ B) (a : UInt8) (ha : y = (a.toNat : Int)) : BRow x base 5 (.slice (some ⟨B, 0, none⟩) 1 1) [a] := by
  subst ha
  exact ⟨rfl, .inr ⟨B, 1, _, rfl, hb, h, Nat.le_refl _, by unfold maxLen; omega, rfl, rfl⟩⟩
/-- A row that is none, or the best so far. -/
def BestIs (w : World) (base : Nat) (v : Value) : Option (List UInt8) → Prop
  | none => v = .slice none 0 0
  | some s => ∃ g c, v = .slice (some ⟨g, 0, none⟩) s.length c ∧ BRow w base 5 v s
theorem BestIs.grow {w w1 : World} {base : Nat} {v : Value} {o : Option (List UInt8)} (h : BestIs w base v o) (k : Below w.heap.size w w1) : BestIs w1 base v o := by
  cases o with
  | none => exact h
  | some s =>
    obtain ⟨g, c, h1, h2⟩ := h
    exact ⟨g, c, h1, h2.grow k⟩
theorem bestIs_of {w : World} {base : Nat} {v : Value} {s : List UInt8} (h : BRow w base 5 v s) (hs : 0 < s.length) : BestIs w base v (some s) := by
  rcases h.2 with ⟨_, hn⟩ | ⟨g, cap, cur, e, _⟩
  · omega
  · exact ⟨g, cap, e, h⟩
theorem brow_base {w : World} {base b' : Nat} {v : Value} {l : List UInt8} (h : BRow w base 5 v l) (hb : b' ≤ base) : BRow w b' 5 v l := by
  refine ⟨h.1, ?_⟩
  rcases h.2 with h2 | ⟨g, cap, cur, h2, h3, h4⟩
  · exact .inl h2
  · exact .inr ⟨g, cap, cur, h2, Nat.le_trans hb h3, h4⟩
theorem row_lenB (c : Cod) (hc : c.ok) : ∀ (l : List Int) (last : Int) (b : List UInt8), c.row last l = some b → b.length ≤ 5 * l.length
  | [], last, b, h => by
    simp only [Cod.row, Option.some.injEq] at h
    subst h
    simp
  | v :: l, last, b, h => by
    unfold Cod.row at h
    split at h
    · cases hr : c.row v l with
      | none => rw [hr] at h; cases h
      | some b' =>
        rw [hr] at h
        simp only [Option.map_some, Option.some.injEq] at h
        subst h
        have h1 := row_lenB c hc l v b' hr
        have h2 := putU_le5 hc (plainI c.s (c.diff last v)).toNat
        rw [List.length_append, List.length_cons]
        omega
    · cases h
theorem shortTo_succ {l : List Int} {i : Nat} {c : Cod} (hc : cods[i]? = some c) : shortTo l (i + 1) = shortIn l (shortTo l i) i c := by
  conv => lhs; unfold shortTo
  rw [hc]
theorem shortIn_none {l : List Int} {best : Option (List UInt8)} {i : Nat} {c : Cod} (h : c.row 0 l = none) : shortIn l best i c = best := by unfold shortIn; rw [h]
theorem shortIn_first {l : List Int} {i : Nat} {c : Cod} {b : List UInt8} (h : c.row 0 l = some b) : shortIn l none i c = some (UInt8.ofNat i :: b) := by unfold shortIn; rw [h]
theorem shortIn_more {l : List Int} {i : Nat} {c : Cod} {b s : List UInt8} (h : c.row 0 l = some b) : shortIn l (some s) i c = if b.length + 1 < s.length then some (UInt8.ofNat i :: b) else some s := by unfold shortIn; rw [h]
set_option maxHeartbeats 8000000 in
set_option maxRecDepth 100000 in
theorem shortest_any (A : Option Addr) (cc : Nat) (l : List Int) (w : World) (hx : Ints w A cc l) (hI : ∀ v ∈ l, I64 v) (hl : l.length ≤ 10000000) :
    Calls Try.prog 28 #[.slice A l.length cc] w (RowRes (short l) w) := by
  have HX := Lib.hid hx
  have HRw := Lib.hid (fun c (hc : Cod.ok c) w hx => row_any c hc A cc l w hx hI hl)
  unfold Cod.val at HRw
  have qn : ∀ (w : World) (a : Option Addr) (n c : Nat), (binOp .eql 23 (.slice a n c) (.slice none 0 0)).run Try.prog w = .ok (.bool a.isNone) w := fun w a n c => Lib.run_eql_slice_nil w _ _ _ _ _ _ _ Try.underlying23
  clear hx hI
  go_enter Try.func28, Try.ntmps28
  go_wp2_with fail
  refine (codings_any w).mono ?_
  rintro ex y ⟨rfl, hcd, hb1⟩
  have HCD := Lib.hid hcd
  have HB := Lib.hid hb1
  clear hcd hb1
  go_wp2_with fail
  go_loopw [4, 11] (fun v t wr => ∃ i : Nat, i ≤ 15 ∧ t = .int .i64 i ∧ BestIs wr w.heap.size v (shortTo l i) ∧ CodsAt wr w.heap.size ∧ Below w.heap.size w wr) (fun _ t _ => 15 - (intOf t).toNat)
  case atStart => exact ⟨0, by omega, rfl, rfl, HCD.out, HB.out⟩
  case round =>
    obtain ⟨i, hi, rfl, hbest, hcd, hB⟩ := hrel
    have HBS := Lib.hid hbest
    have HCD := Lib.hid hcd
    have HW := Lib.hid hB
    clear HB
    by_cases h1 : i < 15
    · obtain ⟨c, hc⟩ : ∃ c, cods[i]? = some c := ⟨_, List.getElem?_eq_getElem (show i < cods.length from h1)⟩
      have hok := cods_ok c (List.mem_of_getElem? hc)
      obtain ⟨d0, d1, d2, d3⟩ := hcd.at_ hc
      have hz := hcd.lt
      have hst := Lib.hid (shortTo_succ (l := l) hc)
      have k1 := Lib.hid ((Below.refl wr.heap.size wr).alloc (Nat.le_refl _) (.cells #[.int .i64 c.b, .int .i64 c.h, .int .i64 c.s, .int .i64 c.d] 38))
      have p1 : decide ((i : Int) < 15) = true := decide_eq_true (by omega)
      have HOK := Lib.hid hok
      clear hc hok hbest hcd hB
      go_wp2_with fail
      refine (HRw.out c HOK.out _ ((HX.out.grow HW.out).grow k1.out)).mono ?_
      intro ex y1 hres
      cases hrow : c.row 0 l with
      | none =>
        rw [hrow] at hres
        obtain ⟨rfl, hb2⟩ := hres
        have kk := k1.out.trans (hb2.mono k1.out.size)
        have hfin := Lib.hid (hst.out.trans (shortIn_none hrow))
        have HBS2 := Lib.hid (HBS.out.grow kk)
        have HCD2 := Lib.hid (HCD.out.grow kk)
        have HW2 := Lib.hid (Below.after' HW.out kk (Nat.le_refl _))
        clear hb2 kk hrow d0 d1 d2 d3 hz HRw
        go_wp2_with fail
        go_roundw
        case rel => exact ⟨i + 1, by omega, by go_num, by rw [hfin.out]; exact HBS2.out, HCD2.out, HW2.out⟩
        case measure => simp [intOf]; omega
      | some bb =>
        rw [hrow] at hres
        obtain ⟨u, rfl, hr2, hb2⟩ := hres
        have hbl := row_lenB c HOK.out l 0 bb hrow
        obtain ⟨A2, c2, rfl, hba⟩ := hr2.at_
        have kk := k1.out.trans (hb2.mono k1.out.size)
        have HBS2 := HBS.out.grow kk
        have HCD2 := Lib.hid (HCD.out.grow kk)
        have HW2 := Lib.hid (Below.after' HW.out kk (Nat.le_refl _))
        have HBA := Lib.hid hba
        clear hb2 kk d0 d1 d2 d3 hz HRw hba hr2
        cases hs : shortTo l i with
        | none =>
          rw [hs] at HBS2
          obtain rfl := HBS2
          have hf0 := hst.out
          rw [hs, shortIn_first hrow] at hf0
          have hfin := Lib.hid hf0
          clear hs hrow hst HBS hf0
          have hby := Lib.hid (show ((i : Int)) = ((UInt8.ofNat i).toNat : Int) by rw [ofNat_lt (by omega)])
          go_wp2_with (at_builtin; refine wpList_appBy rfl _ _ _ rfl w.heap.size _ [UInt8.ofNat i] bb rfl (freshB1 (heap_alloc_new _ _) (Nat.le_trans HW2.out.size (Nat.le_refl _)) _ hby.out) _ rfl (HBA.out.grow ((Below.refl _ _).alloc (Nat.le_refl _) _)).src (by simp; omega) (Nat.le_trans HW2.out.size (by simp)) ?_; intro v3 w3 hr3 hp3; have HR3 := Lib.hid hr3; have HB3 := Lib.hid (HW2.out.trans ((((Below.refl _ _).alloc (Nat.le_refl _) (.cells #[.int .u8 (i : Int)] 5)).trans (hp3.below (by simp) (fun k hk => by cases hk; simp))).mono HW2.out.size)); have HCD3 := Lib.hid (HCD2.out.grow (((Below.refl _ _).alloc (Nat.le_refl _) (.cells #[.int .u8 (i : Int)] 5)).trans (hp3.below (by simp) (fun k hk => by cases hk; simp)))); clear hr3 hp3)
          go_roundw
          case rel => exact ⟨i + 1, by omega, by go_num, by rw [hfin.out]; exact bestIs_of HR3.out (by simp), HCD3.out, HB3.out⟩
          case measure => simp [intOf]; omega
        | some s =>
          rw [hs] at HBS2
          obtain ⟨g, c9, rfl, hrs⟩ := HBS2
          have hfin0 := hst.out
          rw [hs, shortIn_more hrow] at hfin0
          by_cases hlt : bb.length + 1 < s.length
          · have p2 : decide ((bb.length : Int) + 1 < (s.length : Int)) = true := decide_eq_true (by omega)
            have p3 : decide (bb.length + 1 < s.length) = true := decide_eq_true hlt
            have hfin := Lib.hid (hfin0.trans (if_pos hlt))
            clear hs hrow hst HBS hfin0 hrs
            have hby := Lib.hid (show ((i : Int)) = ((UInt8.ofNat i).toNat : Int) by rw [ofNat_lt (by omega)])
            go_wp2_with (at_builtin; refine wpList_appBy rfl _ _ _ rfl w.heap.size _ [UInt8.ofNat i] bb rfl (freshB1 (heap_alloc_new _ _) (Nat.le_trans HW2.out.size (Nat.le_refl _)) _ hby.out) _ rfl (HBA.out.grow ((Below.refl _ _).alloc (Nat.le_refl _) _)).src (by simp; omega) (Nat.le_trans HW2.out.size (by simp)) ?_; intro v3 w3 hr3 hp3; have HR3 := Lib.hid hr3; have HB3 := Lib.hid (HW2.out.trans ((((Below.refl _ _).alloc (Nat.le_refl _) (.cells #[.int .u8 (i : Int)] 5)).trans (hp3.below (by simp) (fun k hk => by cases hk; simp))).mono HW2.out.size)); have HCD3 := Lib.hid (HCD2.out.grow (((Below.refl _ _).alloc (Nat.le_refl _) (.cells #[.int .u8 (i : Int)] 5)).trans (hp3.below (by simp) (fun k hk => by cases hk; simp)))); clear hr3 hp3)
            go_roundw
            case rel => exact ⟨i + 1, by omega, by go_num, by rw [hfin.out]; exact bestIs_of HR3.out (by simp), HCD3.out, HB3.out⟩
            case measure => simp [intOf]; omega
          · have p2 : decide ((bb.length : Int) + 1 < (s.length : Int)) = false := decide_eq_false (by omega)
            have p3 : decide (bb.length + 1 < s.length) = false := decide_eq_false hlt
            have hfin := Lib.hid (hfin0.trans (if_neg hlt))
            have HRS := Lib.hid hrs
            clear hs hrow hst HBS hfin0 hrs
            go_wp2_with fail
            go_roundw
            case rel => exact ⟨i + 1, by omega, by go_num, by rw [hfin.out]; exact ⟨g, c9, rfl, HRS.out⟩, HCD2.out, HW2.out⟩
            case measure => simp [intOf]; omega
    · have hii : i = 15 := by omega
      subst hii
      have p1 : decide ((15 : Int) < 15) = false := by decide
      clear hcd hB hbest
      cases hs : shortTo l 15 with
      | none =>
        have hbs := HBS.out
        rw [hs] at hbs
        obtain rfl := hbs
        have hfin := Lib.hid (show short l = none from hs)
        clear hs HBS
        go_wp2_with fail
        go_ret2
        exact rowRes_none hfin.out rfl HW.out
      | some s =>
        have hbs := HBS.out
        rw [hs] at hbs
        obtain ⟨g, c9, rfl, hrs⟩ := hbs
        have hfin := Lib.hid (show short l = some s from hs)
        have HRS := Lib.hid hrs
        clear hs HBS hrs
        go_wp2_with fail
        go_ret2
        exact rowRes_some hfin.out rfl HRS.out HW.out
end Go.Proofs.Ytbdkoagagcemcaa

/- Maps of ints by ints: entries struck, keys collected. -/
namespace Go.Proofs.Ytbdkoagagcemcaa.Pp
open Go.RowKit Go.Maps

/-- What says that an entry goes: its number is under 2. -/
def under2 (_ : Lit) (d : DataW Unit) : Bool :=
  match d with
  | .lit (.int .i64 v) => decide (v < 2)
  | _ => false
/-- The entries under 2 are gone. -/
theorem MapIs.struck {w : World} {b n : Nat} {D : DataW Unit} {f : Int → Int} (hO : OMap w b n D) (h : MapIs D f) : MapIs (Lib.deleteFuncD under2 D) (fun k => if f k < 2 then 0 else f k) := by
  obtain ⟨es, rfl, hap, hkl⟩ := hO.entries lawI
  have hfind : ∀ k, f k ≠ 0 → ∃ p ∈ es, p.1 = .int .i64 k := fun k hk => by
    have h1 := h.2 k
    rw [decide_eq_true hk, has_eq, List.any_eq_true] at h1
    obtain ⟨p, hp, hs⟩ := h1
    exact ⟨p, hp, WideAt.sameKey_eq hs⟩
  have hval : ∀ p ∈ es, ∀ k, p.1 = .int .i64 k → p.2 = .lit (.int .i64 (f k)) ∧ f k ≠ 0 := fun p hp k hk => by
    have hm : ((.int .i64 k : Lit), p.2) ∈ es := by rw [← hk]; exact hp
    refine ⟨(WideAt.atKey_mem (.lit (.int .i64 0)) (show WideAt.IsKeyLit (.int .i64 k) from trivial) hap hm).symm.trans (h.1 k), fun h0 => ?_⟩
    have h1 := h.2 k
    rw [h0] at h1
    have h2 : Maps.has (.map es) (.int .i64 k) = true := by
      rw [has_eq, List.any_eq_true]
      exact ⟨_, hm, WideAt.sameKey_self (show WideAt.IsKeyLit (.int .i64 k) from trivial)⟩
    rw [h2] at h1
    simp at h1
  have hpd : ∀ p ∈ es, ∀ k, p.1 = .int .i64 k → under2 p.1 p.2 = decide (f k < 2) := fun p hp k hk => by
    rw [(hval p hp k hk).1]; rfl
  have hno : ∀ k, f k < 2 → ∀ p ∈ es.filter (fun p => !under2 p.1 p.2), p.1 ≠ .int .i64 k := fun k hk p hp e => by
    obtain ⟨h1, h2⟩ := List.mem_filter.1 hp
    rw [hpd p h1 k e, decide_eq_true hk] at h2
    cases h2
  refine ⟨fun k => ?_, fun k => ?_⟩
  · show (DataW.map (es.filter fun p => !under2 p.1 p.2)).atKey _ _ = DataW.lit (Lit.int .i64 (if f k < 2 then 0 else f k))
    by_cases hk : f k < 2
    · rw [if_pos hk, WideAt.atKey_none _ (hno k hk)]
    · rw [if_neg hk]
      obtain ⟨p, hp, e⟩ := hfind k (by omega)
      have hv := (hval p hp k e).1
      have hm : ((.int .i64 k : Lit), (DataW.lit (.int .i64 (f k)) : DataW Unit)) ∈ es.filter (fun p => !under2 p.1 p.2) := by
        rw [← hv, ← e]
        exact List.mem_filter.2 ⟨hp, by rw [hpd p hp k e, decide_eq_false hk]; rfl⟩
      exact WideAt.atKey_mem (.lit (.int .i64 0)) (show WideAt.IsKeyLit (.int .i64 k) from trivial) (hap.filter _) hm
  · show Maps.has (DataW.map (es.filter fun p => !under2 p.1 p.2)) _ = decide ((if f k < 2 then 0 else f k) ≠ 0)
    by_cases hk : f k < 2
    · rw [if_pos hk, has_eq, List.any_eq_false.2 (fun p hp hs => hno k hk p hp (WideAt.sameKey_eq hs))]
      simp
    · rw [if_neg hk]
      obtain ⟨p, hp, e⟩ := hfind k (by omega)
      rw [has_eq, List.any_eq_true.2 ⟨p, List.mem_filter.2 ⟨hp, by rw [hpd p hp k e, decide_eq_false hk]; rfl⟩, by rw [e]; exact WideAt.sameKey_self (show WideAt.IsKeyLit (.int .i64 k) from trivial)⟩]
      symm
      exact decide_eq_true (by omega)
/-- The keys: each once, just those that have a number. -/
theorem MapIs.keys {w : World} {b n : Nat} {D : DataW Unit} {f : Int → Int} (hO : OMap w b n D) (h : MapIs D f) : (intKeys D).Nodup ∧ (∀ k, k ∈ intKeys D ↔ f k ≠ 0) ∧ (∀ k ∈ intKeys D, I64 k) ∧ (intKeys D).length = Maps.size D := by
  obtain ⟨es, rfl, hap, hkl⟩ := hO.entries lawI
  obtain ⟨es', hD', hko⟩ := hO.keysOf
  obtain rfl : es = es' := by simpa using hD'
  have hk : ∀ p ∈ es, ∃ x, p.1 = .int .i64 x ∧ I64 x := fun p hp => by
    obtain ⟨v, hv⟩ := hko p hp
    obtain ⟨x, _, hx, hwf⟩ := Maps.keyOf_i64 Try.underlying3 hv
    refine ⟨x, hx, ?_⟩
    exact bounds_i64 hwf
  refine ⟨?_, fun k => ?_, fun k hm => ?_, by simp [intKeys, Maps.size]⟩
  · show (es.map fun p => Go.intOf p.1).Nodup
    refine List.pairwise_map.2 (hap.imp_of_mem fun {p q} hp' hq' hne e => hne ?_)
    obtain ⟨a, ha, _⟩ := hk p hp'
    obtain ⟨c, hc, _⟩ := hk q hq'
    rw [ha, hc] at e ⊢
    exact congrArg _ e
  · show k ∈ (es.map fun p => Go.intOf p.1) ↔ _
    have h1 := h.2 k
    rw [has_eq] at h1
    rw [List.mem_map]
    constructor
    · rintro ⟨p, hp, rfl⟩
      obtain ⟨a, ha, _⟩ := hk p hp
      have h3 : (es.any fun q => q.1.sameKey (.int .i64 (Go.intOf p.1))) = true := List.any_eq_true.2 ⟨p, hp, by rw [ha]; exact WideAt.sameKey_self (show WideAt.IsKeyLit (.int .i64 a) from trivial)⟩
      rw [h3] at h1
      exact of_decide_eq_true h1.symm
    · intro h0
      rw [decide_eq_true h0] at h1
      obtain ⟨p, hp, hs⟩ := List.any_eq_true.1 h1
      exact ⟨p, hp, by rw [WideAt.sameKey_eq hs]; rfl⟩
  · obtain ⟨p, hp, rfl⟩ := List.mem_map.1 hm
    obtain ⟨a, ha, hI⟩ := hk p hp
    rw [ha]; exact hI
end Go.Proofs.Ytbdkoagagcemcaa.Pp
/- The walks of layer 25: the closures of the favorites. -/
namespace Go.Proofs.Ytbdkoagagcemcaa.Pp
open Go.RowKit Go.Maps

/-- The first that is not nought. -/
def Po.orr : List Int → Int
  | [] => 0
  | x :: xs => if x = 0 then Po.orr xs else x

set_option maxHeartbeats 2000000 in
theorem or_any (A : Option Addr) (c : Nat) (xs : List Int) (w : World) (hx : Ints w A c xs) (hn : xs.length ≤ 1000000) :
    Calls Try.prog 78 #[.slice A xs.length c] w fun e w' => e = .returned (.int .i64 (Po.orr xs)) ∧ w = w' := by
  have HX := Lib.hid hx
  clear hx
  go_enter Try.func78, Try.ntmps78
  go_wp2_with fail
  go_loop [8] (fun u => ∃ i : Nat, i ≤ xs.length ∧ u = .int .i64 i ∧ Po.orr xs = Po.orr (xs.drop i)) (fun u => xs.length - (Go.Proofs.intOf u).toNat)
  case atStart => exact ⟨0, Nat.zero_le _, rfl, rfl⟩
  case round =>
    obtain ⟨i, hil, rfl, hor⟩ := hrel
    by_cases h1 : i < xs.length
    · obtain ⟨g, o, x, rfl, hg, hxi, hcell⟩ := HX.out.at_ h1
      rw [drop_at hxi] at hor
      by_cases hx0 : x = 0
      · have q : (x != 0) = false := by simp [hx0]
        have hs := Lib.hid (hor.trans (if_pos hx0))
        clear hxi hor hx0
        go_wp2
        go_round
        case rel => exact ⟨i + 1, by omega, by go_num, hs.out⟩
        case measure => simp [Go.Proofs.intOf]; omega
      · have q : (x != 0) = true := by simp [hx0]
        have hs := Lib.hid (hor.trans (if_neg hx0))
        clear hxi hor hx0
        go_wp2
        go_ret
        exact ⟨by rw [hs.out]; rfl, rfl⟩
    · rw [List.drop_of_length_le (by omega)] at hor
      have hs := Lib.hid hor
      clear hor
      go_wp2
      go_ret
      exact ⟨by rw [hs.out]; rfl, rfl⟩

set_option maxHeartbeats 1000000 in
theorem del1_any (W : World) (key val : Value) (kl : Lit) (yd : DataW Unit) (yp : List MemPlace) (_hk : keyOf Try.prog 3 key = some kl) (hv : RI val = some (yd, yp)) :
    Calls Try.prog 74 #[key, val] W fun e w' => e = .returned (.bool (under2 kl yd)) ∧ W.grownBy w' none := by
  obtain ⟨a, rfl, hz, _⟩ := plainElem_int_inv Try.underlying3 hv
  injection hz with hz1 _
  subst hz1
  go_enter Try.func74, Try.ntmps74
  go_wp2
  go_ret
  exact ⟨rfl, World.grownBy.refl _ _⟩

/-- What the favorites are sorted by. -/
def Po.cf (f : Int → Int) (a b : Int) : Int := Po.orr [Lib.compareInt (f b) (f a), Lib.compareInt a b]

set_option maxHeartbeats 4000000 in
theorem cmp2_any (D : DataW Unit) (f : Int → Int) (b n B : Nat) (W : World) (x y : Int) (hO : OMap W b n D) (hM : MapIs D f) (hc : W.cell? ⟨B, 0, none⟩ = some (.map (some b))) (hx : I64 x) (hy : I64 y) :
    Calls Try.prog 77 #[.int .i64 x, .int .i64 y, .pointer (some ⟨B, 0, none⟩)] W fun e w' => e = .returned (.int .i64 (Po.cf f x y)) ∧ ∃ o, w' = W.alloc o := by
  have hl1 := look_run hO hM hx
  have hl2 := look_run hO hM hy
  have HC1 := Lib.hid (Try.cmp_Compare_int (f y) (f x) W)
  have HC2 := Lib.hid (Try.cmp_Compare_int x y W)
  generalize hr : Po.cf f x y = r
  unfold Po.cf at hr
  generalize Lib.compareInt (f y) (f x) = p at *
  generalize Lib.compareInt x y = q at *
  have HR := Lib.hid hr
  clear hO hM hr hx hy
  go_enter Try.func77, Try.ntmps77
  go_wp2_with fail
  refine HC1.out.mono ?_
  rintro e w' ⟨rfl, rfl⟩
  go_wp2_with fail
  refine HC2.out.mono ?_
  rintro e w' ⟨rfl, rfl⟩
  go_wp2_with fail
  have hor := or_any (some ⟨w'.heap.size, 0, none⟩) 2 [p, q] (w'.alloc (.cells #[.int .i64 p, .int .i64 q] 3)) ⟨by simp, fun _ => ⟨w'.heap.size, 0, rfl, by simp, fun j v hv => by
    match j, hv with
    | 0, hv => simp at hv; subst hv; simp
    | 1, hv => simp at hv; subst hv; simp
    | j + 2, hv => simp at hv⟩⟩ (by simp)
  change Calls _ _ #[.slice (some ⟨w'.heap.size, 0, none⟩) 2 2] _ _ at hor
  refine hor.mono ?_
  rintro e w1 ⟨rfl, rfl⟩
  go_wp2
  go_ret
  exact ⟨by rw [← HR.out]; rfl, _, rfl⟩
end Go.Proofs.Ytbdkoagagcemcaa.Pp
/- The walk of layer 25: the keys of a map, collected and sorted by a closure. -/
namespace Go.Proofs.Ytbdkoagagcemcaa.Pp
open Go.RowKit Go.Maps

abbrev encX (x : Int) : Value := .int .i64 (nx x)
theorem sort_block {w : World} {blk off n : Nat} {d : Array Int} {os : Array Obj} {k : Nat} (h1 : k ≠ blk) (h2 : k < w.heap.size) : (sortWorld encX w blk off n d os).heap[k]? = w.heap[k]? := by
  unfold sortWorld
  rw [Sort.heap_grow_old _ _ (by simpa using h2)]
  simp [Sort.putRow, Sort.mapBlock, Sort.ahead, Array.getElem?_modify, Ne.symm h1]
theorem sort_grown (w : World) (blk off n : Nat) (d : Array Int) (os : Array Obj) : w.grownBy (sortWorld encX w blk off n d os) (some blk) :=
  ⟨rfl, rfl, rfl, by unfold sortWorld; simp, fun _ hk hne => sort_block (fun e => hne (by rw [e])) hk⟩

theorem cf_lt (f : Int → Int) (a b : Int) : Po.cf f a b < 0 ↔ f b < f a ∨ (f a = f b ∧ a < b) := by
  unfold Po.cf Lib.compareInt
  simp only [Po.orr]
  by_cases h1 : f b < f a
  · simp [h1]
  · by_cases h2 : f a < f b
    · simp [h1, h2]; omega
    · have e : f a = f b := by omega
      by_cases h3 : a < b
      · simp [e, h3]
      · by_cases h4 : b < a
        · simp [e, h3, h4]
        · simp [e, h3, h4]
def cfX (f : Int → Int) (x y : Int) : Int := Po.cf f (nx x) (nx y)
theorem ltX (f : Int → Int) (x y : Int) : ltOf (cfX f) x y = decide (f (nx y) < f (nx x) ∨ (f (nx x) = f (nx y) ∧ nx x < nx y)) := by
  unfold ltOf cfX
  exact decide_eq_decide.2 (cf_lt f _ _)
theorem swoX (f : Int → Int) : Sort.SWO (ltOf (cfX f)) where
  irrefl x := by rw [ltX]; simp
  trans x y z h1 h2 := by rw [ltX, decide_eq_true_eq] at *; omega
  ntrans x y z h1 h2 := by rw [ltX, decide_eq_false_iff_not] at *; omega

theorem cmpLays (D : DataW Unit) (f : Int → Int) (b n B blk off size : Nat) (w : World) (hO : OMap w b n D) (hM : MapIs D f) (hc : w.cell? ⟨B, 0, none⟩ = some (.map (some b))) (hB : B < w.heap.size) (h1 : B ≠ blk) (h2 : b ≠ blk) :
    CmpLays1 Try.prog 77 #[.pointer (some ⟨B, 0, none⟩)] encX (cfX f) blk off size w := fun m os dk _ x y => by
  refine (cmp2_any D f b n B _ (nx x) (nx y) (hO.kept (sort_grown w blk off m dk os) (by simp [h2])) hM ((World.cell?_of_block (sort_block h1 hB)).trans hc) (nx_in x) (nx_in y)).mono ?_
  rintro e w' ⟨rfl, o, rfl⟩
  exact ⟨rfl, 0, #[o], Sort.alloc_eq_grow _ _⟩

theorem ihold {w : World} {g : Nat} {cur : Array Value} {e : TypeId} {ss : List Int} (hb : w.heap[g]? = some (.cells cur e (0, 0))) (ht : cur.toList.take ss.length = ic ss) (hI : ∀ x ∈ ss, I64 x) : Sort.Holds encX w g 0 ss.toArray := by
  intro j hj
  have hj' : j < ss.length := by simpa using hj
  refine ⟨?_, by simp [World.frozen?, hb]⟩
  have h1 : (cur.toList.take ss.length)[j]? = (ic ss)[j]? := by rw [ht]
  rw [List.getElem?_take_of_lt hj'] at h1
  simp only [World.cell?, hb, Nat.zero_add]
  simp only [Option.isSome_none, Bool.false_eq_true, if_false]
  rw [← Array.getElem?_toList, h1]
  have h2 : nx ss[j] = ss[j] := nx_same (hI _ (List.getElem_mem hj'))
  simp [hj', ic, h2]
theorem isorted {w : World} {base g cap n : Nat} {os : Array Obj} {cur : Array Value} {ss : List Int} {d : Array Int} (hl : d.size = ss.length) (hI : ∀ x ∈ d.toList, I64 x) (hbase : base ≤ g) (hb : w.heap[g]? = some (.cells cur 3 (0, 0)))
    (h1 : ss.length ≤ cap) (h2 : cap ≤ maxLen) (h3 : cur.size = cap * 1) : IRow (sortWorld encX w g 0 n d os) base (.slice (some ⟨g, 0, none⟩) ss.length cap) d.toList := by
  have hg : g < w.heap.size := (Array.getElem?_eq_some_iff.1 hb).1
  have hblk : (sortWorld encX w g 0 n d os).heap[g]? = some (.cells (Sort.putCells encX 0 d cur) 3 (0, 0)) := by
    unfold sortWorld
    rw [Sort.heap_grow_old _ _ (by simpa using hg)]
    simp [Sort.putRow, Sort.mapBlock, Sort.ahead, Array.getElem?_modify, hb, Sort.onCells]
  have e : d.toList.length = ss.length := by simpa using hl
  unfold IRow
  rw [e]
  refine ⟨by simp [ic_length, hl], .inr ⟨g, cap, _, rfl, hbase, hblk, h1, h2, by simp [Sort.putCells, h3], ?_⟩⟩
  rw [Nat.mul_one]
  apply List.ext_getElem?
  intro j
  by_cases hj : j < ss.length
  · have hj2 : j < d.size := by omega
    have hx : nx d[j] = d[j] := nx_same (hI _ (by simp))
    rw [List.getElem?_take_of_lt hj, Array.getElem?_toList]
    simp [Sort.putCells, ic, hj2, show j < cur.size by omega, hx]
  · rw [List.getElem?_take_eq_none (by omega), List.getElem?_eq_none (by simp [ic_length]; omega)]

/-- The order of the favorites by a number f: more, or as many and less. -/
def befF (f : Int → Int) (a b : Int) : Prop := f b < f a ∨ (f a = f b ∧ a < b)
theorem sorted_pairwise (f : Int → Int) (d : Array Int) (hnd : d.toList.Nodup) (hI : ∀ x ∈ d.toList, I64 x) (hs : Sort.SortedIn (ltOf (cfX f)) 0 d.size d) : d.toList.Pairwise (befF f) := by
  rw [List.pairwise_iff_getElem]
  intro i j hi hj hij
  have hi' : i < d.size := by simpa using hi
  have hj' : j < d.size := by simpa using hj
  have h := hs i j (Nat.zero_le _) hij hj'
  have e1 : d[i]! = d.toList[i] := by simp [hi']
  have e2 : d[j]! = d.toList[j] := by simp [hj']
  rw [ltX, e1, e2, nx_same (hI _ (List.getElem_mem hi)), nx_same (hI _ (List.getElem_mem hj)), decide_eq_false_iff_not] at h
  have hne : d.toList[i] ≠ d.toList[j] := (List.pairwise_iff_getElem.1 hnd) i j hi hj hij
  unfold befF
  omega

set_option maxHeartbeats 4000000 in
theorem sorted_any (D : DataW Unit) (f : Int → Int) (b n B Bm : Nat) (w : World) (hO : OMap w b n D) (hM : MapIs D f) (hc : w.cell? ⟨B, 0, none⟩ = some (.map (some b))) (hB : B < w.heap.size) (hcm : w.cell? ⟨Bm, 0, none⟩ = some (.map (some b))) (hBm : Bm < w.heap.size) (hD : Maps.size D ≤ 1000000) :
    Calls Try.prog 75 #[.func (.func 97) #[] #[.pointer (some ⟨Bm, 0, none⟩)], .func (.func 77) #[] #[.pointer (some ⟨B, 0, none⟩)]] w fun e w' => ∃ v S, e = .returned v ∧ IRow w' w.heap.size v S ∧ (∀ x, x ∈ S ↔ f x ≠ 0) ∧ S.Pairwise (befF f) ∧ Below w.heap.size w w' := by
  obtain ⟨hnd, hmem, hI, hlen⟩ := hM.keys hO
  have hseq : SeqGives Fence.wide 2 Try.prog 97 #[.pointer (some ⟨Bm, 0, none⟩)] encZ (fun ss => ss.Perm (intKeys D)) (Maps.size D) w :=
    AnyZI.keys_gives (ρ := Try.keysA_ren) { Try.keysA with } Fence.wide _ trivial rfl (by omega) Bm b n D w hBm hcm hO
  have hcol := callsIn_wide.1 (AnyZI.collect_in Try.collectA Fence.wide 4 trivial trivial rfl (by omega) 97 #[.pointer (some ⟨Bm, 0, none⟩)] trivial (enters_of Try.func97 (by kernel_rfl) rfl) _ _ (by unfold maxLen; omega) (by omega) w hseq)
  change Calls _ 95 _ _ _ at hcol
  have HC := Lib.hid hcol
  have hbl := hO.lt
  have HO := Lib.hid hO
  have HCB := Lib.hid hc
  have HI := Lib.hid hI
  have HND := Lib.hid hnd
  have HMEM := Lib.hid hmem
  clear hcol hseq hO hc hcm hI hnd hmem
  go_enter Try.func75, Try.ntmps75
  go_wp2_with fail
  refine HC.out.mono ?_
  rintro e w1 ⟨v, ss, rfl, hS, hrow, hnil, hb⟩
  have hSI : ∀ x ∈ ss, I64 x := fun x hx => HI.out x (hS.mem_iff.1 hx)
  have hSM : ∀ x, x ∈ ss ↔ f x ≠ 0 := fun x => (hS.mem_iff).trans (HMEM.out x)
  have hSN : ss.Nodup := hS.nodup_iff.2 HND.out
  have hSL : ss.length ≤ 1000000 := by rw [hS.length_eq, hlen]; exact hD
  have HB := Lib.hid hb
  clear HC
  by_cases h0 : ss = []
  · subst h0
    have hv := hnil.2 rfl
    subst hv
    have HM0 := Lib.hid hSM
    clear hSI hSM hSN hrow hnil hb hS
    have hsn := AnyF.slices_SortFunc_none { Try.sortA with } none 0 (.func (.func 77) #[] #[.pointer (some ⟨B, 0, none⟩)]) w1
    change Calls _ 96 _ _ _ at hsn
    go_wp2_with fail
    refine hsn.mono ?_
    rintro e w' ⟨rfl, rfl⟩
    clear hsn
    go_wp2
    go_ret
    exact ⟨_, [], rfl, IRow.nil _ _, HM0.out, List.Pairwise.nil, HB.out⟩
  · rcases hrow.2 with ⟨_, hn⟩ | ⟨g, cap, cur, rfl, hbase, hb1, h1, h2, h3, h4⟩
    · exact absurd (List.eq_nil_of_length_eq_zero hn) h0
    · have hg : g < w1.heap.size := (Array.getElem?_eq_some_iff.1 hb1).1
      have hO1 := HO.out.keep hb
      have hc1 : w1.cell? ⟨B, 0, none⟩ = some (.map (some b)) := (hb.cell (p := ⟨B, 0, none⟩) hB).trans HCB.out
      have hB1 : B < w1.heap.size := Nat.lt_of_lt_of_le hB hb.size
      have hsrt := Any.slices_SortFunc Try.sortA encX (fun _ => rfl) (cfX f) (swoX f) 77 #[.pointer (some ⟨B, 0, none⟩)] g 0 cap ss.toArray w1 (enters_of Try.func77 (by kernel_rfl) rfl)
        (cmpLays D f b n B g 0 _ w1 hO1 hM hc1 hB1 (by omega) (by omega)) (ihold hb1 (by rw [Nat.mul_one] at h4; exact h4) hSI) hg (by simp; omega)
      have esz : ss.toArray.size = ss.length := by simp
      rw [esz] at hsrt
      change Calls _ 96 _ _ _ at hsrt
      have HS := Lib.hid hsrt
      have HSI := Lib.hid hSI
      have HSM := Lib.hid hSM
      have HSN := Lib.hid hSN
      have HB1 := Lib.hid hb1
      have H4 := Lib.hid h3
      clear hsrt hSI hSM hSN hb1 hS hrow hnil hb hO1 hc1 h0 h3 h4
      go_wp2_with fail
      refine HS.out.mono ?_
      rintro e w' ⟨rfl, d', m, os, hp, hs, rfl⟩
      have hd1 : d'.size = ss.length := by rw [hp.1]; simp
      have hperm : d'.toList.Perm ss := by
        have := hp.2.2
        have e1 : d'.extract 0 ss.length = d' := by rw [← hd1]; simp
        have e2 : ss.toArray.extract 0 ss.length = ss.toArray := by rw [← esz]; exact Array.extract_size
        rw [e1, e2] at this
        exact this
      have hI2 : ∀ x ∈ d'.toList, I64 x := fun x hx => HSI.out x (hperm.mem_iff.1 hx)
      rw [← hd1] at hs
      have hpw := Lib.hid (sorted_pairwise f d' (hperm.nodup_iff.2 HSN.out) hI2 hs)
      have hrow2 := Lib.hid (isorted (n := m) (os := os) hd1 hI2 hbase HB1.out h1 h2 H4.out)
      have hmm := Lib.hid (fun x => (hperm.mem_iff (a := x)).trans (HSM.out x))
      have HB2 := Lib.hid (HB.out.grown (sort_grown w1 g 0 m d' os) HB.out.size (fun j hj => by cases hj; exact hbase))
      clear hp hs hperm hI2 HS
      go_wp2
      go_ret
      exact ⟨_, _, rfl, hrow2.out, hmm.out, hpw.out, HB2.out⟩
end Go.Proofs.Ytbdkoagagcemcaa.Pp
/- The walk of layer 25's reference: joining. -/
namespace Go.Proofs.Ytbdkoagagcemcaa.Pp
open Go.RowKit Go.Maps

theorem joinRes_err {fs ts rs : List Int} {w w' : World} {e : Ending} {v : Int} (h : Po.err fs ts rs = v) (hv : v ≠ 0) (he : e = .returned (.tuple #[.slice none 0 0, .int .i64 v])) (hB : Below w.heap.size w w') : JoinRes fs ts rs w e w' :=
  ⟨none, 0, by rw [he, h, show Po.out fs ts rs = [] from if_neg (by rw [h]; exact hv)]; rfl, ⟨by rw [show Po.out fs ts rs = [] from if_neg (by rw [h]; exact hv)]; exact Ints.nil _ _ _, fun g o e => by cases e⟩, hB⟩

set_option maxHeartbeats 8000000 in
set_option maxRecDepth 100000 in
theorem rjoin_any (A B C : Option Addr) (c d k : Nat) (fs ts rs : List Int) (w : World) (hx : Ints w A c fs) (hy : Ints w B d ts) (hz : Ints w C k rs)
    (hn : fs.length ≤ 100000) (hm : ts.length ≤ 100000) (hl : rs.length ≤ 100000) :
    Calls Try.prog 42 #[.slice A fs.length c, .slice B ts.length d, .slice C rs.length k] w (JoinRes fs ts rs w) := by
  have HX := Lib.hid hx
  have HY := Lib.hid hy
  have HZ := Lib.hid hz
  have HCf := Lib.hid (fun v => count_any A c fs v w hx (by omega))
  have HCt := Lib.hid (count_any B d ts 0 w hy (by omega))
  have HCr := Lib.hid (fun v => count_any C k rs v w hz (by omega))
  clear hx hy hz
  go_enter Try.func42, Try.ntmps42
  go_wp2_with fail
  go_loop [17] (fun u => ∃ i : Nat, i ≤ ts.length ∧ u = .int .i64 i ∧ Po.bad fs (ts.take i) = false) (fun u => ts.length - (intOf u).toNat)
  case atStart => exact ⟨0, Nat.zero_le _, rfl, rfl⟩
  case round =>
    obtain ⟨i, hil, rfl, hbad⟩ := hrel
    have HN := Lib.hid hbad
    by_cases h1 : i < ts.length
    · obtain ⟨g, o, x, rfl, hg, hxi, hct⟩ := HY.out.at_ h1
      have htk := Lib.hid (take_snocI ts i x hxi)
      have hmem := Lib.hid (List.mem_of_getElem? hxi)
      have hbd := Lib.hid (show Po.bad fs (ts.take (i + 1)) = (decide (x < 0) || decide ((fs.length : Int) < x)) by
        rw [htk.out]; unfold Po.bad; rw [List.any_append]
        have := HN.out; unfold Po.bad at this; rw [this]; simp)
      clear hxi hbad
      by_cases hneg : x < 0
      · have q : decide (x < 0) = true := by simp [hneg]
        have hfin := Lib.hid (show Po.err fs ts rs = 5 from if_pos (List.any_eq_true.2 ⟨x, hmem.out, by simp [hneg]⟩))
        clear hneg
        go_wp2
        go_ret2
        exact joinRes_err hfin.out (by omega) rfl (Below.refl _ _)
      · have q : decide (x < 0) = false := by simp [hneg]
        by_cases hbig : (fs.length : Int) < x
        · have q2 : decide ((fs.length : Int) < x) = true := by simp [hbig]
          have hfin := Lib.hid (show Po.err fs ts rs = 5 from if_pos (List.any_eq_true.2 ⟨x, hmem.out, by simp [hbig]⟩))
          clear hneg hbig
          go_wp2
          go_ret2
          exact joinRes_err hfin.out (by omega) rfl (Below.refl _ _)
        · have q2 : decide ((fs.length : Int) < x) = false := by simp [hbig]
          have hnb := Lib.hid (hbd.out.trans (by rw [q, q2, Bool.or_false]))
          clear hneg hbig
          go_wp2
          go_round
          case rel => exact ⟨i + 1, by omega, by go_num, hnb.out⟩
          case measure => simp [intOf]; omega
    · have hfin : ts.take i = ts := List.take_of_length_le (by omega)
      rw [hfin] at hbad
      have HBAD := Lib.hid hbad
      have HE := Lib.hid (show Po.err fs ts rs = if Po.twice fs rs then 10 else if rs.length < ts.count 0 then 6 else if ts.count 0 < rs.length then 2 else 0 from if_neg (by rw [hbad]; simp))
      clear hfin hbad HN
      go_wp2_with fail
      go_loop [32] (fun u => ∃ j : Nat, j ≤ fs.length ∧ u = .int .i64 j ∧ ∀ f ∈ fs.take j, ¬ (fs.count f > 1 ∨ rs.count f > 0)) (fun u => fs.length - (intOf u).toNat)
      case atStart => exact ⟨0, Nat.zero_le _, rfl, fun f hf => by simp at hf⟩
      case round =>
        obtain ⟨j, hjl, rfl, hno⟩ := hrel
        have HN := Lib.hid hno
        by_cases h2 : j < fs.length
        · obtain ⟨g, o, f, rfl, hg, hfi, hcf⟩ := HX.out.at_ h2
          have hmem := Lib.hid (List.mem_of_getElem? hfi)
          have htk := Lib.hid (take_snocI fs j f hfi)
          have hce : fs.count f ≤ 1000000 := Nat.le_trans List.count_le_length (by omega)
          have hcr : rs.count f ≤ 1000000 := Nat.le_trans List.count_le_length (by omega)
          clear hfi hno
          have hF := Lib.hid (HCf.out f)
          have hR := Lib.hid (HCr.out f)
          generalize hcm : rs.count f = m at hR hcr
          generalize hcn : fs.count f = n at hF hce
          have HCM := Lib.hid hcm
          have HCN := Lib.hid hcn
          clear hcm hcn
          by_cases hg1 : 1 < n
          · have q : decide (1 < n) = true := by simp [hg1]
            have q' : decide ((1 : Int) < ((n : Nat) : Int)) = true := by simp; omega
            have hfin := Lib.hid (HE.out.trans (if_pos ((Po.twice_iff fs rs).2 ⟨f, hmem.out, .inl (by rw [HCN.out]; exact hg1)⟩)))
            clear hg1
            go_wp2_with fail
            refine hF.out.mono ?_
            rintro e w' ⟨rfl, rfl⟩
            go_wp2
            go_ret2
            exact joinRes_err hfin.out (by omega) rfl (Below.refl _ _)
          · have q : decide (1 < n) = false := by simp; omega
            have q' : decide ((1 : Int) < ((n : Nat) : Int)) = false := by simp; omega
            by_cases hg2 : 0 < m
            · have q2 : decide (0 < m) = true := by simp; omega
              have q2' : decide ((0 : Int) < ((m : Nat) : Int)) = true := by simp; omega
              have hfin := Lib.hid (HE.out.trans (if_pos ((Po.twice_iff fs rs).2 ⟨f, hmem.out, .inr (by rw [HCM.out]; exact hg2)⟩)))
              clear hg1 hg2
              go_wp2_with fail
              refine hF.out.mono ?_
              rintro e w' ⟨rfl, rfl⟩
              go_wp2_with fail
              refine hR.out.mono ?_
              rintro e w' ⟨rfl, rfl⟩
              go_wp2
              go_ret2
              exact joinRes_err hfin.out (by omega) rfl (Below.refl _ _)
            · have q2 : decide (0 < m) = false := decide_eq_false hg2
              have q2' : decide ((0 : Int) < ((m : Nat) : Int)) = false := decide_eq_false (by omega)
              have hnx := Lib.hid (show ∀ y ∈ fs.take (j + 1), ¬ (fs.count y > 1 ∨ rs.count y > 0) from fun y hy => by
                rw [htk.out, List.mem_append] at hy
                rcases hy with h | h
                · exact HN.out y h
                · rw [List.mem_singleton] at h; subst h; rw [HCN.out, HCM.out]; omega)
              clear hg1 hg2
              go_wp2_with fail
              refine hF.out.mono ?_
              rintro e w' ⟨rfl, rfl⟩
              go_wp2_with fail
              refine hR.out.mono ?_
              rintro e w' ⟨rfl, rfl⟩
              go_wp2
              go_round
              case rel => exact ⟨j + 1, by omega, by go_num, hnx.out⟩
              case measure => simp [intOf]; omega
        · have hfin : fs.take j = fs := List.take_of_length_le (by omega)
          rw [hfin] at hno
          have htw : Po.twice fs rs = false := by
            cases h : Po.twice fs rs with
            | false => rfl
            | true => obtain ⟨f, hf, h2⟩ := (Po.twice_iff fs rs).1 h; exact absurd h2 (hno f hf)
          have HE2 := Lib.hid (HE.out.trans (if_neg (by rw [htw]; simp)))
          have hct : ts.count 0 ≤ 1000000 := Nat.le_trans List.count_le_length (by omega)
          clear htw hno hfin HN HE
          have hT := Lib.hid HCt.out
          generalize hcz : ts.count 0 = z at hT hct
          have HCZ := Lib.hid hcz
          rw [hcz] at HE2
          clear hcz
          by_cases hlt : rs.length < z
          · have q : decide (rs.length < z) = true := by simp [hlt]
            have hfin2 := Lib.hid (HE2.out.trans (if_pos hlt))
            clear hlt
            go_wp2_with fail
            refine hT.out.mono ?_
            rintro e w' ⟨rfl, rfl⟩
            go_wp2
            go_ret2
            exact joinRes_err hfin2.out (by omega) rfl (Below.refl _ _)
          · have q : decide (rs.length < z) = false := by simp [hlt]
            by_cases hgt : z < rs.length
            · have q2 : decide (z < rs.length) = true := by simp [hgt]
              have hfin2 := Lib.hid (HE2.out.trans ((if_neg hlt).trans (if_pos hgt)))
              clear hlt hgt
              go_wp2_with fail
              refine hT.out.mono ?_
              rintro e w' ⟨rfl, rfl⟩
              go_wp2_with fail
              refine hT.out.mono ?_
              rintro e w' ⟨rfl, rfl⟩
              go_wp2
              go_ret2
              exact joinRes_err hfin2.out (by omega) rfl (Below.refl _ _)
            · have q2 : decide (z < rs.length) = false := by simp [hgt]
              have hE0 := Lib.hid (HE2.out.trans ((if_neg hlt).trans (if_neg hgt)))
              have hfin2 := Lib.hid (show Po.out fs ts rs = Po.rowN fs ts rs ts.length from if_pos hE0.out)
              have hzr := Lib.hid (show ts.count 0 = rs.length by rw [HCZ.out]; omega)
              clear hlt hgt HCf HCr HCt
              go_wp2_with fail
              refine hT.out.mono ?_
              rintro e w' ⟨rfl, rfl⟩
              go_wp2_with fail
              refine hT.out.mono ?_
              rintro e w' ⟨rfl, rfl⟩
              clear hT
              go_wp2_with fail
              go_loopw [2, 12, 59] (fun v a u wr => ∃ i : Nat, i ≤ ts.length ∧ u = .int .i64 i ∧ (∃ A' c', v = .slice A' (rs.drop ((ts.take i).count 0)).length c' ∧ Ints w A' c' (rs.drop ((ts.take i).count 0))) ∧ IRow wr w.heap.size a (Po.rowN fs ts rs i) ∧ Below w.heap.size w wr) (fun _ _ u _ => ts.length - (intOf u).toNat)
              case atStart => exact ⟨0, Nat.zero_le _, rfl, ⟨C, k, rfl, HZ.out⟩, IRow.nil _ _, Below.refl _ _⟩
              case round =>
                obtain ⟨i, hil, rfl, ⟨A', c', rfl, hrest⟩, hrow, hB⟩ := hrel
                have HB := Lib.hid hB
                have HR := Lib.hid hrest
                have HO := Lib.hid hrow
                have hln := Po.rowN_length fs ts rs i
                by_cases h3 : i < ts.length
                · obtain ⟨g, o, x, rfl, hg, hxi, hct2⟩ := (HY.out.grow hB).at_ h3
                  have hxr := Po.bad_at HBAD.out hxi
                  have hcs := Lib.hid (Po.count_step hxi)
                  have HXI := Lib.hid hxi
                  have hsz := HB.out.size
                  clear hB hrest hrow hxi
                  by_cases hx0 : x = 0
                  · subst hx0
                    have q : decide ((0 : Int) < 0) = false := rfl
                    have hrm := Po.room HXI.out
                    rw [hzr.out] at hrm
                    have hcs2 := Lib.hid (hcs.out.trans (by rw [if_pos rfl]))
                    obtain ⟨y, hyr⟩ : ∃ y, rs[(ts.take i).count 0]? = some y := ⟨_, List.getElem?_eq_getElem hrm⟩
                    have hdr := drop_at hyr
                    have hel := Lib.hid (Po.el_rest (fs := fs) HXI.out hyr)
                    have hR2 := HR.out
                    rw [hdr] at hR2 ⊢
                    obtain ⟨g2, o2, rfl, hg2, hc2, hcap, hnx⟩ := hR2.next
                    have hcell2 : wr.cell? ⟨g2, o2, none⟩ = some (.int .i64 y) := (HB.out.cell (p := ⟨g2, o2, none⟩) hg2).trans hc2
                    have HN := Lib.hid hnx
                    rw [← hcs2.out] at HN ⊢
                    have HS := Lib.hid (show Po.rowN fs ts rs (i + 1) = Po.rowN fs ts rs i ++ [y] by rw [Po.rowN_succ, hel.out])
                    clear HR hc2 hR2 hdr hyr hcs hnx hg2
                    generalize hrr : rs.drop ((ts.take (i + 1)).count 0) = rs2 at *
                    have HRR := Lib.hid hrr
                    clear hrr
                    simp only [List.length_cons]
                    go_wp2_with (at_builtin; refine wpList_app1 rfl _ _ rfl w.heap.size u12 _ rfl (HO.out.grow ((Below.refl _ _).alloc (Nat.le_refl _) _)) wr.heap.size y _ _ rfl (heap_alloc_new _ _) (by omega) (by simp; omega) ?_)
                    intro v' w1 hown1 hhop1
                    have hR1 := Lib.hid hown1
                    have HB1 := Lib.hid ((HO.out.grow ((Below.refl _ _).alloc (Nat.le_refl _) (.cells #[.int .i64 y] 3))).hop_below hhop1 (HB.out.alloc hsz _) (Nat.le_refl _) (Nat.le_refl _))
                    clear hown1 hhop1
                    go_wp2
                    go_roundw
                    case rel => exact ⟨i + 1, by omega, by go_num, ⟨_, _, by rw [HRR.out], by rw [HRR.out]; exact HN.out⟩, by rw [HS.out]; exact hR1.out, HB1.out⟩
                    case measure => simp [intOf]; omega
                  · obtain ⟨m, rfl⟩ : ∃ m : Nat, x = ((m + 1 : Nat) : Int) := ⟨(x - 1).toNat, by omega⟩
                    have q : decide ((0 : Int) < ((m + 1 : Nat) : Int)) = true := by simp
                    obtain ⟨g2, o2, y, rfl, hg2, hyr, hcell2⟩ := (HX.out.grow HB.out).at_ (i := m) (by omega)
                    have ek : ((m + 1 : Nat) : Int) - 1 = (m : Int) := by omega
                    have hel := Lib.hid (Po.el_place (rs := rs) HXI.out hyr)
                    have hcs2 := Lib.hid (hcs.out.trans (by rw [if_neg hx0, Nat.add_zero]))
                    have hmf : m < fs.length := by omega
                    have HS := Lib.hid (show Po.rowN fs ts rs (i + 1) = Po.rowN fs ts rs i ++ [y] by rw [Po.rowN_succ, hel.out])
                    rw [← hcs2.out] at HR ⊢
                    generalize hrr : rs.drop ((ts.take (i + 1)).count 0) = rs2 at *
                    have HRR := Lib.hid hrr
                    clear hrr hcs hyr hxr hx0
                    go_wp2_with (at_builtin; refine wpList_app1 rfl _ _ rfl w.heap.size u12 _ rfl (HO.out.grow ((Below.refl _ _).alloc (Nat.le_refl _) _)) wr.heap.size y _ _ rfl (heap_alloc_new _ _) (by omega) (by simp; omega) ?_)
                    intro v' w1 hown1 hhop1
                    have hR1 := Lib.hid hown1
                    have HB1 := Lib.hid ((HO.out.grow ((Below.refl _ _).alloc (Nat.le_refl _) (.cells #[.int .i64 y] 3))).hop_below hhop1 (HB.out.alloc hsz _) (Nat.le_refl _) (Nat.le_refl _))
                    clear hown1 hhop1
                    go_wp2
                    go_roundw
                    case rel => exact ⟨i + 1, by omega, by go_num, ⟨_, _, by rw [HRR.out], by rw [HRR.out]; exact HR.out⟩, by rw [HS.out]; exact hR1.out, HB1.out⟩
                    case measure => simp [intOf]; omega
                · have hii : i = ts.length := by omega
                  rw [hii] at hrow
                  obtain ⟨A2, c2, rfl, hrd, hfr⟩ := hrow.readsB
                  rw [Po.rowN_length] at *
                  have HF := Lib.hid hrd
                  have HFR := Lib.hid hfr
                  clear hfr hrest hrow hrd hB HR HO
                  go_wp2
                  go_ret2
                  exact ⟨_, _, by rw [hfin2.out, Po.rowN_length, hE0.out]; rfl, ⟨by rw [hfin2.out]; exact HF.out, HFR.out⟩, HB.out⟩
end Go.Proofs.Ytbdkoagagcemcaa.Pp
/- The walk of layer 25's reference: the favorites. -/
namespace Go.Proofs.Ytbdkoagagcemcaa.Pp
open Go.RowKit Go.Maps

/-- What the call comes to. -/
def FavRes (l : List Int) (most : Int) (w : World) (e : Ending) (w' : World) : Prop :=
  ∃ A c, e = .returned (.slice A (Po.favs l most.toNat).length c) ∧ Ints w' A c (Po.favs l most.toNat) ∧ Below w.heap.size w w'

end Go.Proofs.Ytbdkoagagcemcaa.Pp