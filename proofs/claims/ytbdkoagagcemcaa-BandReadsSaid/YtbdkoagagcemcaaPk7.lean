/- Joined texts: Rget, RhG, RhH, RhI, BdL. -/
import Derived.Test.YtbdkoagagcemcaaPk6
import Derived.Test.YtbdkoagagcemcaaPk4
import Derived.Deep.Cut
import Derived.Test.YtbdkoagagcemcaaPk5
/- The walk of layer 24's reference: a number that is read. -/
namespace Go.Proofs.Ytbdkoagagcemcaa
open Go.RowKit

theorem reach_iff {c : Cod} {l r : List UInt8} {u : Nat} (hh : c.h ≤ 256) (h : getU c.h (c.b - 1) l = some (u, r)) : c.reach ≤ u ↔ 4294967296 ≤ u := by
  have := get_lt hh _ _ _ h
  dsimp only at this
  unfold Cod.reach
  omega
section
variable {x : World} {b : Nat} {A : Option Addr} {cc : Nat} {l : List UInt8} {n : Nat}
set_option maxHeartbeats 8000000 in
set_option maxRecDepth 100000 in
theorem rget_any (c : Cod) (hc : c.ok) (h : RCur x b A cc l n 0) :
    Calls Try.prog 64 #[.pointer (some ⟨b, 0, none⟩), c.val] x fun ex y => ∃ (v : Int) (m : Nat) (e : Int), ex = .returned (.int .i64 v) ∧ RCur y b A cc l m e ∧ Outc (c.get (l.drop n)) 0 v e (l.drop m) ∧ x.grownBy y (some b) := by
  have H0 := Lib.hid h
  have hbl := h.lt
  have HRt := Lib.hid (fun w => rright_any c hc w)
  have HRc := Lib.hid (fun w => rreach_any c hc w)
  have HPt := Lib.hid (fun w => rpart_any c hc w)
  have hh := ok_h hc
  have hb := ok_b hc
  have hss := small_s hc
  have hN := Lib.hid (fun h => Cod.get_none (c := c) (l := l.drop n) h)
  have hF := Lib.hid (fun u r h => Cod.get_far (c := c) (l := l.drop n) (r := r) (u := u) h)
  have hO := Lib.hid (fun u r h => Cod.get_ok (c := c) (l := l.drop n) (r := r) (u := u) h)
  have hRI := Lib.hid (fun u r h => reach_iff (c := c) (l := l.drop n) (r := r) (u := u) hh.2 h)
  unfold Cod.val at *
  have k1 := (Below.refl x.heap.size x).alloc (Nat.le_refl _) (.cells #[.int .i64 c.b, .int .i64 c.h, .int .i64 c.s, .int .i64 c.d] 38)
  have hcc0 := h.grow k1
  have f0 := hcc0.cb
  have f1 := hcc0.ca
  have f2 := hcc0.ce
  have ff := hcc0.frozen 2
  have fz := hcc0.lt
  have HK1 := Lib.hid k1
  clear h k1 hcc0
  go_enter Try.func64, Try.ntmps64
  go_wp2_with fail
  refine (HRt.out _).mono ?_
  rintro ex y ⟨rfl, hb1⟩
  have hbx : CBox y x.heap.size c := (hb1.block x.heap.size (by simp)).trans (heap_alloc_new x _)
  have hx1 := Below.after' HK1.out hb1 (by simp)
  have HC := Lib.hid (H0.out.grow hx1)
  have HG := Lib.hid (grownBy_below hx1 (some b))
  have HBX := Lib.hid hbx
  clear hb1 hbx hx1 f0 f1 f2 ff fz
  go_wp2_with fail
  go_loopw [5, 6, 7] (fun s t i wr => ∃ (k u W : Nat), i = .int .i64 (k + 1 : Nat) ∧ s = .int .i64 u ∧ t = .int .i64 W ∧ u ≤ 256 ^ k ∧ W ≤ 256 ^ k ∧ x.grownBy wr (some b) ∧ CBox wr x.heap.size c ∧ k < c.b ∧
    ((RCur wr b A cc l (n + k) 0 ∧ onU u W (getU c.h (c.b - 1 - k) (l.drop (n + k))) = getU c.h (c.b - 1) (l.drop n)) ∨
     ((∃ m, RCur wr b A cc l m 6) ∧ getU c.h (c.b - 1) (l.drop n) = none))) (fun _ _ i _ => c.b + 2 - (intOf i).toNat)
  case atStart => exact ⟨0, 0, 1, rfl, rfl, rfl, by decide, by decide, HG.out, HBX.out, by omega, .inl ⟨HC.out, by
    rw [Nat.sub_zero, Nat.add_zero]
    cases getU c.h (c.b - 1) (l.drop n) with
    | none => rfl
    | some p => simp [onU]⟩⟩
  case round =>
    clear HC HG HBX
    obtain ⟨k, u, W, rfl, rfl, rfl, hu, hW, hg, hbx, hk, hst⟩ := hrel
    have HGR := Lib.hid hg
    have HBX := Lib.hid hbx
    have hp5 : 256 ^ k ≤ 4294967296 := Nat.le_trans (Nat.pow_le_pow_right (by decide) (by omega : k ≤ 4)) (by decide)
    rcases hst with ⟨hc0, hst⟩ | ⟨⟨m, hc6⟩, hst⟩
    · skip
      have d0 := (blk_facts hbx).1 0
      have d1 := (blk_facts hbx).1 1
      have d2 := (blk_facts hbx).1 2
      have d3 := (blk_facts hbx).1 3
      have hz := (Array.getElem?_eq_some_iff.1 hbx).1
      have f0 := hc0.cb
      have f1 := hc0.ca
      have f2 := hc0.ce
      have ff := hc0.frozen 2
      have fz := hc0.lt
      have HST := Lib.hid hst
      have HC0 := Lib.hid hc0
      clear hst hg hbx
      by_cases hend : n + k < l.length
      · obtain ⟨a, ha⟩ : ∃ a, l[n + k]? = some a := ⟨_, List.getElem?_eq_getElem hend⟩
        have HBg := Lib.hid (rbig_ok hc0 ha)
        have hdr := Lib.hid (drop_atI ha)
        have hab := a.toNat_lt
        clear hc0 ha
        go_wp2_with fail
        refine HBg.out.mono ?_
        rintro ex z ⟨rfl, hc1, hg1⟩
        have HC1 := Lib.hid hc1
        have HG1 := Lib.hid (grownBy_trans HGR.out hg1 (.inl rfl))
        have hbx1 := HBX.out.kept hg1 (by intro e; injection e with e; omega)
        have HBX1 := Lib.hid hbx1
        clear d0 d1 d2 d3 hz f0 f1 f2 ff fz hg1 HGR HBX HC0 HBg
        have d0 := (blk_facts hbx1).1 0
        have d1 := (blk_facts hbx1).1 1
        have d2 := (blk_facts hbx1).1 2
        have d3 := (blk_facts hbx1).1 3
        have hz := (Array.getElem?_eq_some_iff.1 hbx1).1
        have f0 := hc1.cb
        have f1 := hc1.ca
        have f2 := hc1.ce
        have ff := hc1.frozen 2
        have fz := hc1.lt
        clear hbx1 hc1
        have n1 : a.toNat * W ≤ 255 * 256 ^ k := Nat.mul_le_mul (by omega) hW
        have n2 : W * c.h ≤ 256 ^ k * 256 := Nat.mul_le_mul hW hh.2
        have HU1 := Lib.hid (show u + a.toNat * W ≤ 256 ^ (k + 1) by rw [Nat.pow_succ]; omega)
        have HW1 := Lib.hid (show W * c.h ≤ 256 ^ (k + 1) by rw [Nat.pow_succ]; exact n2)
        have m0 : ((a.toNat * W : Nat) : Int) = (a.toNat : Int) * (W : Int) := Int.natCast_mul _ _
        have m1 : ((W * c.h : Nat) : Int) = (W : Int) * (c.h : Int) := Int.natCast_mul _ _
        have m2 : 0 ≤ (a.toNat : Int) * (W : Int) ∧ (a.toNat : Int) * (W : Int) ≤ 1099511627776 := by omega
        have m3 : 0 ≤ (W : Int) * (c.h : Int) ∧ (W : Int) * (c.h : Int) ≤ 1099511627776 := by omega
        have M0 := Lib.hid m0
        have M1 := Lib.hid m1
        have hu4 : u ≤ 4294967296 := by omega
        by_cases hstop : a.toNat < 256 - c.h ∨ k + 1 = c.b
        · have hgu := Lib.hid (show getU c.h (c.b - 1) (l.drop n) = some (u + a.toNat * W, l.drop (n + k + 1)) by
            rw [← HST.out, hdr.out]
            by_cases h9 : a.toNat < 256 - c.h
            · rw [getU_stop _ h9]; rfl
            · rw [show c.b - 1 - k = 0 from by omega, getU_last]; rfl)
          have hbk : decide ((a.toNat : Int) < 256 - (c.h : Int)) = true ∨ (decide ((a.toNat : Int) < 256 - (c.h : Int)) = false ∧ (((k : Int) + 1) == (c.b : Int)) = true) := by
            by_cases h9 : a.toNat < 256 - c.h
            · exact .inl (decide_eq_true (by omega))
            · refine .inr ⟨decide_eq_false (by omega), ?_⟩
              simp
              omega
          have hri := hRI.out _ _ hgu.out
          have hcast := Lib.hid (show (u : Int) + (a.toNat : Int) * (W : Int) = ((u + a.toNat * W : Nat) : Int) by rw [Int.natCast_add, m0])
          have hub0 : 0 ≤ (u : Int) + (a.toNat : Int) * (W : Int) ∧ (u : Int) + (a.toNat : Int) * (W : Int) ≤ 1200000000000 := by omega
          by_cases hbig : 4294967296 ≤ u + a.toNat * W
          · have hfin := Lib.hid (hF.out _ _ hgu.out hbig)
            have p9 : decide ((c.reach : Int) ≤ (u : Int) + (a.toNat : Int) * (W : Int)) = true := decide_eq_true (by omega)
            clear hstop HST n1 n2 hu hW hp5 hri hbig m0 m1 hss
            rcases hbk with p2 | ⟨p2, p3⟩
            all_goals
              go_wp2_with fail
              refine (HRc.out _).mono ?_
              rintro ex z2 ⟨rfl, hb2⟩
              have hc2 := HC1.out.grow hb2
              have HS2 := Lib.hid (hc2.setErr 5)
              have HG2 := Lib.hid (grownBy_trans (grownBy_trans HG1.out (grownBy_below hb2 none) (.inr fun g e => by cases e)) (hc2.turned 2 (.int .i64 5)) (.inl rfl))
              clear d0 d1 d2 d3 hz f0 f1 f2 ff fz hb2
              have f0 := hc2.cb
              have f1 := hc2.ca
              have f2 := hc2.ce
              have ff := hc2.frozen 2
              have fz := hc2.lt
              clear hc2
              go_wp2_with fail
              go_ret
              exact ⟨0, _, 5, rfl, HS2.out, outc_error hfin.out (by decide), HG2.out⟩
          · have hfin := Lib.hid (hO.out _ _ hgu.out hbig)
            have p9 : decide ((c.reach : Int) ≤ (u : Int) + (a.toNat : Int) * (W : Int)) = false := decide_eq_false (by omega)
            have hnum : numI c.s ((u : Int) + (a.toNat : Int) * (W : Int)) = numI c.s ((u + a.toNat * W : Nat) : Int) := by rw [hcast.out]
            have hFX := Lib.hid (show c.get (l.drop n) = .ok (numI c.s ((u : Int) + (a.toNat : Int) * (W : Int)), l.drop (n + k + 1)) by rw [hnum]; exact hfin.out)
            clear hstop HST n1 n2 hu hW hp5 hri hbig m0 m1 hnum hfin hgu
            rcases hbk with p2 | ⟨p2, p3⟩
            all_goals
              go_wp2_with fail
              refine (HRc.out _).mono ?_
              rintro ex z2 ⟨rfl, hb2⟩
              have hc2 := HC1.out.grow hb2
              have HC2 := Lib.hid hc2
              have hbx2 := HBX1.out.grow hb2
              have HBX2 := Lib.hid hbx2
              have HG2 := Lib.hid (grownBy_trans HG1.out (grownBy_below hb2 none) (.inr fun g e => by cases e))
              clear d0 d1 d2 d3 hz f0 f1 f2 ff fz hb2 HC1 HBX1 HG1
              have f0 := hc2.cb
              have f1 := hc2.ca
              have f2 := hc2.ce
              have ff := hc2.frozen 2
              have fz := hc2.lt
              have d0 := (blk_facts hbx2).1 0
              have d1 := (blk_facts hbx2).1 1
              have d2 := (blk_facts hbx2).1 2
              have d3 := (blk_facts hbx2).1 3
              have hz := (Array.getElem?_eq_some_iff.1 hbx2).1
              clear hc2 hbx2 hcast M0
              generalize (u : Int) + (a.toNat : Int) * (W : Int) = X at *
              go_wp2_with fail
              refine (HPt.out _).mono ?_
              rintro ex z3 ⟨rfl, hb3⟩
              have hbx3 := HBX2.out.grow hb3
              have HC3 := Lib.hid (HC2.out.grow hb3)
              have HG3 := Lib.hid (grownBy_trans HG2.out (grownBy_below hb3 none) (.inr fun g e => by cases e))
              clear d0 d1 d2 d3 hz f0 f1 f2 ff fz hb3 HC2 HBX2 HG2
              have d0 := (blk_facts hbx3).1 0
              have d1 := (blk_facts hbx3).1 1
              have d2 := (blk_facts hbx3).1 2
              have d3 := (blk_facts hbx3).1 3
              have hz := (Array.getElem?_eq_some_iff.1 hbx3).1
              clear hbx3
              rcases hss with hs | hs | hs
              · have q1 : ((c.s : Int) == 0) = true := by rw [hs]; rfl
                have hn9 := Lib.hid (show numI c.s X = X by rw [hs]; rfl)
                clear hs
                go_wp2_with fail
                go_ret
                exact ⟨_, _, 0, rfl, HC3.out, by rw [hn9.out] at hFX; exact outc_ok hFX.out, HG3.out⟩
              · have q1 : ((c.s : Int) == 0) = false := by rw [hs]; rfl
                have hpw : ((2 : Int) ^ c.s - 1) = 1 := by rw [hs]; rfl
                by_cases h5 : X % 2 = 1
                · have hn9 := Lib.hid (show numI c.s X = -1 - X / 2 by rw [hs]; unfold numI; rw [if_neg (by decide), if_pos (by simpa using h5)]; rfl)
                  have q2 : (X % 2 == 1) = true := by simpa using h5
                  rw [hpw]
                  clear hs hpw h5
                  go_wp2_with fail
                  go_ret
                  exact ⟨_, _, 0, rfl, HC3.out, by rw [hn9.out] at hFX; exact outc_ok hFX.out, HG3.out⟩
                · have hn9 := Lib.hid (show numI c.s X = X - X / 2 by rw [hs]; unfold numI; rw [if_neg (by decide), if_neg (by simpa using h5)]; rfl)
                  have q2 : (X % 2 == 1) = false := by simpa using h5
                  rw [hpw]
                  clear hs hpw h5
                  go_wp2_with fail
                  go_ret
                  exact ⟨_, _, 0, rfl, HC3.out, by rw [hn9.out] at hFX; exact outc_ok hFX.out, HG3.out⟩
              · have q1 : ((c.s : Int) == 0) = false := by rw [hs]; rfl
                have hpw : ((2 : Int) ^ c.s - 1) = 3 := by rw [hs]; rfl
                by_cases h5 : X % 4 = 3
                · have hn9 := Lib.hid (show numI c.s X = -1 - X / 4 by rw [hs]; unfold numI; rw [if_neg (by decide), if_pos (by simpa using h5)]; rfl)
                  have q2 : (X % 4 == 3) = true := by simpa using h5
                  rw [hpw]
                  clear hs hpw h5
                  go_wp2_with fail
                  go_ret
                  exact ⟨_, _, 0, rfl, HC3.out, by rw [hn9.out] at hFX; exact outc_ok hFX.out, HG3.out⟩
                · have hn9 := Lib.hid (show numI c.s X = X - X / 4 by rw [hs]; unfold numI; rw [if_neg (by decide), if_neg (by simpa using h5)]; rfl)
                  have q2 : (X % 4 == 3) = false := by simpa using h5
                  rw [hpw]
                  clear hs hpw h5
                  go_wp2_with fail
                  go_ret
                  exact ⟨_, _, 0, rfl, HC3.out, by rw [hn9.out] at hFX; exact outc_ok hFX.out, HG3.out⟩
        · have p2 : decide ((a.toNat : Int) < 256 - (c.h : Int)) = false := decide_eq_false (by omega)
          have p3 : (((k : Int) + 1) == (c.b : Int)) = false := by simp; omega
          have hlast := Lib.hid (show onU (u + a.toNat * W) (W * c.h) (getU c.h (c.b - 1 - (k + 1)) (l.drop (n + k + 1))) = getU c.h (c.b - 1) (l.drop n) by
            rw [← HST.out, hdr.out, show c.b - 1 - k = (c.b - 1 - (k + 1)) + 1 from by omega, getU_on _ (by omega), onU_on])
          clear HST m0 m1 n1 n2 hu hW hp5
          go_wp2_with fail
          go_roundw
          case rel => exact ⟨k + 1, u + a.toNat * W, W * c.h, by go_num, by rw [Int.natCast_add, M0.out], by rw [M1.out], HU1.out, HW1.out, HG1.out, HBX1.out, by omega, .inl ⟨HC1.out, hlast.out⟩⟩
          case measure => simp [intOf]; omega
      · have hnl : n + k = l.length := by have := hc0.le; omega
        have HBg := Lib.hid (rbig_end hc0 hnl)
        have hgu := Lib.hid (show getU c.h (c.b - 1) (l.drop n) = none by
          rw [← HST.out, List.drop_of_length_le (by omega), getU_nil]; rfl)
        clear hc0
        go_wp2_with fail
        refine HBg.out.mono ?_
        rintro ex z ⟨rfl, hc1, hg1⟩
        have HC1 := Lib.hid hc1
        have HG1 := Lib.hid (grownBy_trans HGR.out hg1 (.inl rfl))
        have hbx1 := HBX.out.kept hg1 (by intro e; injection e with e; omega)
        have HBX1 := Lib.hid hbx1
        clear d0 d1 d2 d3 hz f0 f1 f2 ff fz hg1 HGR HBX HC0 HBg HST
        have d0 := (blk_facts hbx1).1 0
        have d1 := (blk_facts hbx1).1 1
        have d2 := (blk_facts hbx1).1 2
        have d3 := (blk_facts hbx1).1 3
        have hz := (Array.getElem?_eq_some_iff.1 hbx1).1
        have f0 := hc1.cb
        have f1 := hc1.ca
        have f2 := hc1.ce
        have ff := hc1.frozen 2
        have fz := hc1.lt
        clear hbx1 hc1
        have n2 : W * c.h ≤ 256 ^ k * 256 := Nat.mul_le_mul hW hh.2
        have HW1 := Lib.hid (show W * c.h ≤ 256 ^ (k + 1) by rw [Nat.pow_succ]; exact n2)
        have HU1 := Lib.hid (show u ≤ 256 ^ (k + 1) by rw [Nat.pow_succ]; omega)
        have m1 : ((W * c.h : Nat) : Int) = (W : Int) * (c.h : Int) := Int.natCast_mul _ _
        have m3 : 0 ≤ (W : Int) * (c.h : Int) ∧ (W : Int) * (c.h : Int) ≤ 1099511627776 := by omega
        have M1 := Lib.hid m1
        have hu4 : u ≤ 4294967296 := by omega
        clear n2 hu hW hp5 m1
        by_cases hstop : c.h < 256 ∨ k + 1 = c.b
        · have hbk : (decide ((0 : Int) < 256 - (c.h : Int)) = true ∧ decide (c.h < 256) = true ∧ decide ((c.h : Int) < 256) = true) ∨ (decide ((0 : Int) < 256 - (c.h : Int)) = false ∧ decide (c.h < 256) = false ∧ decide ((c.h : Int) < 256) = false ∧ (((k : Int) + 1) == (c.b : Int)) = true) := by
            by_cases h9 : c.h < 256
            · exact .inl ⟨decide_eq_true (by omega), decide_eq_true (by omega), decide_eq_true (by omega)⟩
            · refine .inr ⟨decide_eq_false (by omega), decide_eq_false (by omega), decide_eq_false (by omega), ?_⟩
              simp
              omega
          clear hstop
          rcases hbk with ⟨p2, p3, p4⟩ | ⟨p2, p3, p4, p5⟩
          all_goals
            go_wp2_with fail
            go_ret
            exact ⟨0, _, 6, rfl, HC1.out, outc_error (hN.out hgu.out) (by decide), HG1.out⟩
        · have p2 : decide ((0 : Int) < 256 - (c.h : Int)) = false := decide_eq_false (by omega)
          have p3 : decide (c.h < 256) = false := decide_eq_false (by omega)
          have p4 : decide ((c.h : Int) < 256) = false := decide_eq_false (by omega)
          have p5 : (((k : Int) + 1) == (c.b : Int)) = false := by simp; omega
          have hkk : k + 1 < c.b := by omega
          clear hstop
          go_wp2_with fail
          go_roundw
          case rel => exact ⟨k + 1, u, W * c.h, by go_num, rfl, by rw [M1.out], HU1.out, HW1.out, HG1.out, HBX1.out, hkk, .inr ⟨⟨_, HC1.out⟩, hgu.out⟩⟩
          case measure => simp [intOf]; omega
    · skip
      have d0 := (blk_facts hbx).1 0
      have d1 := (blk_facts hbx).1 1
      have d2 := (blk_facts hbx).1 2
      have d3 := (blk_facts hbx).1 3
      have hz := (Array.getElem?_eq_some_iff.1 hbx).1
      have f0 := hc6.cb
      have f1 := hc6.ca
      have f2 := hc6.ce
      have ff := hc6.frozen 2
      have fz := hc6.lt
      have HC1 := Lib.hid hc6
      have hgu := Lib.hid hst
      have hu4 : u ≤ 4294967296 := by omega
      clear hc6 hst hu hW hp5 hg hbx
      go_wp2_with fail
      go_ret
      exact ⟨0, _, 6, rfl, HC1.out, outc_error (hN.out hgu.out) (by decide), HGR.out⟩
end
end Go.Proofs.Ytbdkoagagcemcaa

/- The walk of layer 24's reference: a row that is read. -/
namespace Go.Proofs.Ytbdkoagagcemcaa
open Go.RowKit

section
variable {x : World} {b : Nat} {A : Option Addr} {cc : Nat} {l : List UInt8} {n : Nat}
set_option maxHeartbeats 8000000 in
set_option maxRecDepth 100000 in
theorem rreadrow_any (c : Cod) (hc : c.ok) (h : RCur x b A cc l n 0) (k : Nat) (hk : k ≤ 9223372036854775807) :
    Calls Try.prog 43 #[.pointer (some ⟨b, 0, none⟩), c.val, .int .i64 k] x fun ex y => ∃ (u : Value) (vs : List Int) (m : Nat) (e : Int), ex = .returned u ∧ IRow y x.heap.size u vs ∧ RCur y b A cc l m e ∧ Outc (c.read k 0 (l.drop n)) [] vs e (l.drop m) ∧ x.grownBy y (some b) := by
  have H0 := Lib.hid h
  have hbl := h.lt
  have hls := h.small
  have HC := Lib.hid hc
  have HRt := Lib.hid (fun w => rright_any c hc w)
  have HBd := Lib.hid (fun v hv w => rbound_any c hc v hv w)
  have HRd := Lib.hid (fun v hv w => rround_any c hc v hv w)
  have HGt := Lib.hid (fun x n (h : RCur x b A cc l n 0) => rget_any c hc h)
  unfold Cod.val at *
  have k1 := (Below.refl x.heap.size x).alloc (Nat.le_refl _) (.cells #[.int .i64 c.b, .int .i64 c.h, .int .i64 c.s, .int .i64 c.d] 38)
  have hcc0 := h.grow k1
  have f0 := hcc0.cb
  have f1 := hcc0.ca
  have f2 := hcc0.ce
  have ff := hcc0.frozen 2
  have fz := hcc0.lt
  have HK1 := Lib.hid k1
  clear h hc k1 hcc0
  have p0 : decide ((k : Int) < 0) = false := decide_eq_false (by omega)
  go_enter Try.func43, Try.ntmps43
  go_wp2_with fail
  refine (HRt.out _).mono ?_
  rintro ex y ⟨rfl, hb1⟩
  have hbx : CBox y x.heap.size c := (hb1.block x.heap.size (by simp)).trans (heap_alloc_new x _)
  have hx1 := Below.after' HK1.out hb1 (by simp)
  have HCU := Lib.hid (H0.out.grow hx1)
  have HG := Lib.hid (grownBy_below hx1 (some b))
  have HBX := Lib.hid hbx
  clear hb1 hbx hx1 f0 f1 f2 ff fz
  go_wp2_with fail
  go_loopw [7, 8, 9] (fun s t i wr => ∃ (vs : List Int) (last : Int) (m : Nat) (e : Int), i = .int .i64 (vs.length : Nat) ∧ t = .int .i64 last ∧ -8589934592 ≤ last ∧ last ≤ 8589934592 ∧ vs.length ≤ k ∧ vs.length ≤ 1000001 ∧ IRow wr x.heap.size s vs ∧ RCur wr b A cc l m e ∧ x.grownBy wr (some b) ∧ CBox wr x.heap.size c ∧ RdSt c l n k vs last m e) (fun s _ _ _ => k + 2 - sliceLen s)
  case atStart => exact ⟨[], 0, n, 0, rfl, rfl, by omega, by omega, by simp, by simp, IRow.nil _ _, HCU.out, HG.out, HBX.out, .inl ⟨rfl, by simp, by simp, by rw [pre_nil]; rfl⟩⟩
  case round =>
    clear HCU HG HBX
    obtain ⟨vs, last, m, e, rfl, rfl, hl1, hl2, hvk, hvl, hrow, hcur, hg, hbx, hst⟩ := hrel
    obtain ⟨Av, cv, rfl, _⟩ := hrow.reads
    have HR := Lib.hid hrow
    have HCU := Lib.hid hcur
    have HG := Lib.hid hg
    have HBX := Lib.hid hbx
    have HST := Lib.hid hst
    have hml := hcur.le
    have f0 := hcur.cb
    have f1 := hcur.ca
    have f2 := hcur.ce
    have ff := hcur.frozen 2
    have fz := hcur.lt
    clear hrow hcur hg
    by_cases hlt : vs.length < k
    · have q1 : decide ((vs.length : Int) < (k : Int)) = true := decide_eq_true (by omega)
      by_cases he : e = 0
      · subst he
        have hvl2 : vs.length ≤ 1000000 := by
          rcases HST.out with ⟨_, _, h2, _⟩ | ⟨h1, _⟩
          · omega
          · exact absurd rfl h1
        have d0 := (blk_facts hbx).1 0
        have d1 := (blk_facts hbx).1 1
        have d2 := (blk_facts hbx).1 2
        have d3 := (blk_facts hbx).1 3
        have hz := (Array.getElem?_eq_some_iff.1 hbx).1
        clear hbx hst
        go_wp2_with fail
        refine (HGt.out _ _ HCU.out).mono ?_
        rintro ex z ⟨v, m', e', rfl, hc1, ho, hg1⟩
        have hm' := hc1.le
        have HR1 := Lib.hid (irow_kept HR.out hg1 HCU.out.box (by decide))
        have hbx1 := HBX.out.kept hg1 (by intro e; injection e with e; omega)
        have HBX1 := Lib.hid hbx1
        have HG1 := Lib.hid (grownBy_trans HG.out hg1 (.inl rfl))
        have HC1 := Lib.hid hc1
        clear d0 d1 d2 d3 hz f0 f1 f2 ff fz hg1 HR HBX HG HCU
        have d0 := (blk_facts hbx1).1 0
        have d1 := (blk_facts hbx1).1 1
        have d2 := (blk_facts hbx1).1 2
        have d3 := (blk_facts hbx1).1 3
        have hz := (Array.getElem?_eq_some_iff.1 hbx1).1
        have f0 := hc1.cb
        have f1 := hc1.ca
        have f2 := hc1.ce
        have ff := hc1.frozen 2
        have fz := hc1.lt
        clear hbx1 hc1
        have hkey : I64 v ∧ -8589934592 ≤ v ∧ v ≤ 8589934592 ∧ ((e' = 0 ∧ boundI c.s v = true ∧ RdSt c l n k (vs ++ [c.sum last v]) (c.sum last v) m' 0) ∨ (e' = 0 ∧ boundI c.s v = false ∧ ∀ ws last', RdSt c l n k ws last' m' 5) ∨ (e' ≠ 0 ∧ ∀ ws last', RdSt c l n k ws last' m' e')) := by
          cases hgt : c.get (l.drop m) with
          | error e2 =>
            rw [hgt] at ho
            obtain ⟨rfl, h1, rfl⟩ := ho
            exact ⟨by unfold I64; omega, by omega, by omega, .inr (.inr ⟨h1, fun ws last' => HST.out.step_bad hlt hgt h1⟩)⟩
          | ok p =>
            obtain ⟨v2, r2⟩ := p
            rw [hgt] at ho
            obtain ⟨rfl, rfl, h3⟩ := ho
            dsimp only at *
            subst h3
            have hin := c.get_in HC.out hgt
            dsimp only at hin
            cases hbd : boundI c.s v with
            | true => exact ⟨by unfold I64; omega, hin.1, hin.2, .inl ⟨rfl, rfl, HST.out.step_ok hlt hml hm' hgt hbd⟩⟩
            | false => exact ⟨by unfold I64; omega, hin.1, hin.2, .inr (.inl ⟨rfl, rfl, fun ws last' => HST.out.step_out hlt hgt hbd⟩)⟩
        obtain ⟨hv, hv1, hv2, hcase⟩ := hkey
        have HV := Lib.hid hv
        clear ho HST hv
        rcases hcase with ⟨rfl, hbd, hst2⟩ | ⟨rfl, hbd, hst2⟩ | ⟨hne, hst2⟩
        · skip
          have HBO := Lib.hid hbd
          have HS2 := Lib.hid hst2
          clear hbd hst2
          go_wp2_with fail
          refine (HBd.out v HV.out _).mono ?_
          rintro ex z1 ⟨rfl, hb2⟩
          rw [HBO.out]
          have HR2 := Lib.hid (HR1.out.grow hb2)
          have hbx2 := HBX1.out.grow hb2
          have HBX2 := Lib.hid hbx2
          have HG2 := Lib.hid (grownBy_trans HG1.out (grownBy_below hb2 none) (.inr fun g e => by cases e))
          have hc2 := HC1.out.grow hb2
          have HC2 := Lib.hid hc2
          clear d0 d1 d2 d3 hz f0 f1 f2 ff fz hb2 HR1 HBX1 HG1 HC1
          have d0 := (blk_facts hbx2).1 0
          have d1 := (blk_facts hbx2).1 1
          have d2 := (blk_facts hbx2).1 2
          have d3 := (blk_facts hbx2).1 3
          have hz := (Array.getElem?_eq_some_iff.1 hbx2).1
          have f0 := hc2.cb
          have f1 := hc2.ca
          have f2 := hc2.ce
          have ff := hc2.frozen 2
          have fz := hc2.lt
          clear hbx2 hc2
          have HR3 := HR2
          have HBX3 := HBX2
          have HG3 := HG2
          have HC3 := HC2
          clear HR2 HBX2 HG2 HC2
          by_cases hd : c.d = 1
          · have q : ((c.d : Int) == 1) = true := by simp; omega
            have hsum := Lib.hid (show c.sum last v = roundI c.s (last + v) by unfold Cod.sum; rw [if_pos hd])
            have hri := roundI_in c.s (last + v)
            have HRd9 := Lib.hid (fun w => HRd.out (last + v) (by omega) w)
            clear hd
            go_wp2_with fail
            refine (HRd9.out _).mono ?_
            rintro ex z4 ⟨rfl, hb4⟩
            have HR4 := Lib.hid (HR3.out.grow hb4)
            have HBX4 := Lib.hid (HBX3.out.grow hb4)
            have HG4 := Lib.hid (grownBy_trans HG3.out (grownBy_below hb4 none) (.inr fun g e => by cases e))
            have HC4 := Lib.hid (HC3.out.grow hb4)
            clear d0 d1 d2 d3 hz hb4 HR3 HBX3 HG3 HC3 q HRd9
            generalize hw : roundI c.s (last + v) = w1 at *
            have hw9 := hsum
            clear hw hsum
            have k1 := Lib.hid (fun (o : Obj) => (Below.refl z4.heap.size z4).alloc (Nat.le_refl _) o)
            have hzs : x.heap.size ≤ z4.heap.size := HG4.out.size
            go_wp2_with (at_builtin; refine Pp.wpList_app1 rfl _ _ rfl x.heap.size _ vs rfl (HR4.out.grow (k1.out _)) z4.heap.size w1 _ _ rfl (heap_alloc_new _ _) (by omega) (Nat.le_trans hzs (k1.out _).size) ?_; intro v5 z5 hr5 hp5; have HR5 := Lib.hid hr5; have HBX5 := Lib.hid (ibox_hop (HR4.out.grow (k1.out _)) hp5 (HBX4.out.grow (k1.out _)) (by decide)); have HC5 := Lib.hid (H0.out.hop (HC4.out.grow (k1.out _)) hp5.1 (fun g e => (HR4.out.base_le e))); have HG5 := Lib.hid (grownBy_trans (grownBy_trans HG4.out (grownBy_below (k1.out _) none) (.inr fun g e => by cases e)) hp5.1 (.inr fun g e => HR4.out.base_le e)); clear hr5 hp5)
            obtain ⟨A5, c5, rfl, _⟩ := HR5.out.reads
            go_roundw
            case rel => exact ⟨vs ++ [w1], w1, m', 0, by simp, rfl, by omega, by omega, by simp; omega, by simp; omega, HR5.out, HC5.out, HG5.out, HBX5.out, hw9.out ▸ HS2.out⟩
            case measure => simp [sliceLen]; omega
          · have q : ((c.d : Int) == 1) = false := by simp; omega
            have hw9 := Lib.hid (show c.sum last v = v by unfold Cod.sum; rw [if_neg hd])
            have HR4 := HR3
            have HBX4 := HBX3
            have HG4 := HG3
            have HC4 := HC3
            clear hd HR3 HBX3 HG3 HC3
            have k1 := Lib.hid (fun (o : Obj) => (Below.refl z1.heap.size z1).alloc (Nat.le_refl _) o)
            have hzs : x.heap.size ≤ z1.heap.size := HG4.out.size
            go_wp2_with (at_builtin; refine Pp.wpList_app1 rfl _ _ rfl x.heap.size _ vs rfl (HR4.out.grow (k1.out _)) z1.heap.size v _ _ rfl (heap_alloc_new _ _) (by omega) (Nat.le_trans hzs (k1.out _).size) ?_; intro v5 z5 hr5 hp5; have HR5 := Lib.hid hr5; have HBX5 := Lib.hid (ibox_hop (HR4.out.grow (k1.out _)) hp5 (HBX4.out.grow (k1.out _)) (by decide)); have HC5 := Lib.hid (H0.out.hop (HC4.out.grow (k1.out _)) hp5.1 (fun g e => (HR4.out.base_le e))); have HG5 := Lib.hid (grownBy_trans (grownBy_trans HG4.out (grownBy_below (k1.out _) none) (.inr fun g e => by cases e)) hp5.1 (.inr fun g e => HR4.out.base_le e)); clear hr5 hp5)
            obtain ⟨A5, c5, rfl, _⟩ := HR5.out.reads
            go_roundw
            case rel => exact ⟨vs ++ [v], v, m', 0, by simp, rfl, by omega, by omega, by simp; omega, by simp; omega, HR5.out, HC5.out, HG5.out, HBX5.out, hw9.out ▸ HS2.out⟩
            case measure => simp [sliceLen]; omega
        · skip
          have HBO := Lib.hid hbd
          have HS2 := Lib.hid hst2
          clear hbd hst2
          go_wp2_with fail
          refine (HBd.out v HV.out _).mono ?_
          rintro ex z1 ⟨rfl, hb2⟩
          rw [HBO.out]
          have HR2 := Lib.hid (HR1.out.grow hb2)
          have hbx2 := HBX1.out.grow hb2
          have HBX2 := Lib.hid hbx2
          have HG2 := Lib.hid (grownBy_trans HG1.out (grownBy_below hb2 none) (.inr fun g e => by cases e))
          have hc2 := HC1.out.grow hb2
          have HC2 := Lib.hid hc2
          clear d0 d1 d2 d3 hz f0 f1 f2 ff fz hb2 HR1 HBX1 HG1 HC1
          have d0 := (blk_facts hbx2).1 0
          have d1 := (blk_facts hbx2).1 1
          have d2 := (blk_facts hbx2).1 2
          have d3 := (blk_facts hbx2).1 3
          have hz := (Array.getElem?_eq_some_iff.1 hbx2).1
          have f0 := hc2.cb
          have f1 := hc2.ca
          have f2 := hc2.ce
          have ff := hc2.frozen 2
          have fz := hc2.lt
          clear hbx2 hc2
          have hc3 := HC2.out.setErr 5
          have hg3 := HC2.out.turned 2 (.int .i64 5)
          have HR3 := Lib.hid (irow_kept HR2.out hg3 HC2.out.box (by decide))
          have hbx3 := HBX2.out.kept hg3 (by intro e; injection e with e; omega)
          have HBX3 := Lib.hid hbx3
          have HG3 := Lib.hid (grownBy_trans HG2.out hg3 (.inl rfl))
          have HC3 := Lib.hid hc3
          go_upto_region 11 with fail
          generalize hZ : z1.setCell ⟨b, 2, none⟩ (.int .i64 5) = z2 at *
          clear d0 d1 d2 d3 hz f0 f1 f2 ff fz hg3 hc3 HR2 HBX2 HG2 HC2 hZ
          have d0 := (blk_facts hbx3).1 0
          have d1 := (blk_facts hbx3).1 1
          have d2 := (blk_facts hbx3).1 2
          have d3 := (blk_facts hbx3).1 3
          have hz := (Array.getElem?_eq_some_iff.1 hbx3).1
          clear hbx3
          by_cases hd : c.d = 1
          · have q : ((c.d : Int) == 1) = true := by simp; omega
            have hsum := Lib.hid (show c.sum last v = roundI c.s (last + v) by unfold Cod.sum; rw [if_pos hd])
            have hri := roundI_in c.s (last + v)
            have HRd9 := Lib.hid (fun w => HRd.out (last + v) (by omega) w)
            clear hd
            go_wp2_with fail
            refine (HRd9.out _).mono ?_
            rintro ex z4 ⟨rfl, hb4⟩
            have HR4 := Lib.hid (HR3.out.grow hb4)
            have HBX4 := Lib.hid (HBX3.out.grow hb4)
            have HG4 := Lib.hid (grownBy_trans HG3.out (grownBy_below hb4 none) (.inr fun g e => by cases e))
            have HC4 := Lib.hid (HC3.out.grow hb4)
            clear d0 d1 d2 d3 hz hb4 HR3 HBX3 HG3 HC3 q HRd9
            generalize hw : roundI c.s (last + v) = w1 at *
            have hw9 := hsum
            clear hw hsum
            have k1 := Lib.hid (fun (o : Obj) => (Below.refl z4.heap.size z4).alloc (Nat.le_refl _) o)
            have hzs : x.heap.size ≤ z4.heap.size := HG4.out.size
            go_wp2_with (at_builtin; refine Pp.wpList_app1 rfl _ _ rfl x.heap.size _ vs rfl (HR4.out.grow (k1.out _)) z4.heap.size w1 _ _ rfl (heap_alloc_new _ _) (by omega) (Nat.le_trans hzs (k1.out _).size) ?_; intro v5 z5 hr5 hp5; have HR5 := Lib.hid hr5; have HBX5 := Lib.hid (ibox_hop (HR4.out.grow (k1.out _)) hp5 (HBX4.out.grow (k1.out _)) (by decide)); have HC5 := Lib.hid (H0.out.hop (HC4.out.grow (k1.out _)) hp5.1 (fun g e => (HR4.out.base_le e))); have HG5 := Lib.hid (grownBy_trans (grownBy_trans HG4.out (grownBy_below (k1.out _) none) (.inr fun g e => by cases e)) hp5.1 (.inr fun g e => HR4.out.base_le e)); clear hr5 hp5)
            obtain ⟨A5, c5, rfl, _⟩ := HR5.out.reads
            go_roundw
            case rel => exact ⟨vs ++ [w1], w1, m', 5, by simp, rfl, by omega, by omega, by simp; omega, by simp; omega, HR5.out, HC5.out, HG5.out, HBX5.out, HS2.out _ _⟩
            case measure => simp [sliceLen]; omega
          · have q : ((c.d : Int) == 1) = false := by simp; omega
            have hw9 := Lib.hid (show c.sum last v = v by unfold Cod.sum; rw [if_neg hd])
            have HR4 := HR3
            have HBX4 := HBX3
            have HG4 := HG3
            have HC4 := HC3
            clear hd HR3 HBX3 HG3 HC3
            have k1 := Lib.hid (fun (o : Obj) => (Below.refl z2.heap.size z2).alloc (Nat.le_refl _) o)
            have hzs : x.heap.size ≤ z2.heap.size := HG4.out.size
            go_wp2_with (at_builtin; refine Pp.wpList_app1 rfl _ _ rfl x.heap.size _ vs rfl (HR4.out.grow (k1.out _)) z2.heap.size v _ _ rfl (heap_alloc_new _ _) (by omega) (Nat.le_trans hzs (k1.out _).size) ?_; intro v5 z5 hr5 hp5; have HR5 := Lib.hid hr5; have HBX5 := Lib.hid (ibox_hop (HR4.out.grow (k1.out _)) hp5 (HBX4.out.grow (k1.out _)) (by decide)); have HC5 := Lib.hid (H0.out.hop (HC4.out.grow (k1.out _)) hp5.1 (fun g e => (HR4.out.base_le e))); have HG5 := Lib.hid (grownBy_trans (grownBy_trans HG4.out (grownBy_below (k1.out _) none) (.inr fun g e => by cases e)) hp5.1 (.inr fun g e => HR4.out.base_le e)); clear hr5 hp5)
            obtain ⟨A5, c5, rfl, _⟩ := HR5.out.reads
            go_roundw
            case rel => exact ⟨vs ++ [v], v, m', 5, by simp, rfl, by omega, by omega, by simp; omega, by simp; omega, HR5.out, HC5.out, HG5.out, HBX5.out, HS2.out _ _⟩
            case measure => simp [sliceLen]; omega
        · have q9 : (e' == 0) = false := by simpa using hne
          have HS2 := Lib.hid hst2
          have HR3 := HR1
          have HBX3 := HBX1
          have HG3 := HG1
          have HC3 := HC1
          clear hst2 hne HR1 HBX1 HG1 HC1
          by_cases hd : c.d = 1
          · have q : ((c.d : Int) == 1) = true := by simp; omega
            have hsum := Lib.hid (show c.sum last v = roundI c.s (last + v) by unfold Cod.sum; rw [if_pos hd])
            have hri := roundI_in c.s (last + v)
            have HRd9 := Lib.hid (fun w => HRd.out (last + v) (by omega) w)
            clear hd
            go_wp2_with fail
            refine (HRd9.out _).mono ?_
            rintro ex z4 ⟨rfl, hb4⟩
            have HR4 := Lib.hid (HR3.out.grow hb4)
            have HBX4 := Lib.hid (HBX3.out.grow hb4)
            have HG4 := Lib.hid (grownBy_trans HG3.out (grownBy_below hb4 none) (.inr fun g e => by cases e))
            have HC4 := Lib.hid (HC3.out.grow hb4)
            clear d0 d1 d2 d3 hz hb4 HR3 HBX3 HG3 HC3 q HRd9
            generalize hw : roundI c.s (last + v) = w1 at *
            have hw9 := hsum
            clear hw hsum
            have k1 := Lib.hid (fun (o : Obj) => (Below.refl z4.heap.size z4).alloc (Nat.le_refl _) o)
            have hzs : x.heap.size ≤ z4.heap.size := HG4.out.size
            go_wp2_with (at_builtin; refine Pp.wpList_app1 rfl _ _ rfl x.heap.size _ vs rfl (HR4.out.grow (k1.out _)) z4.heap.size w1 _ _ rfl (heap_alloc_new _ _) (by omega) (Nat.le_trans hzs (k1.out _).size) ?_; intro v5 z5 hr5 hp5; have HR5 := Lib.hid hr5; have HBX5 := Lib.hid (ibox_hop (HR4.out.grow (k1.out _)) hp5 (HBX4.out.grow (k1.out _)) (by decide)); have HC5 := Lib.hid (H0.out.hop (HC4.out.grow (k1.out _)) hp5.1 (fun g e => (HR4.out.base_le e))); have HG5 := Lib.hid (grownBy_trans (grownBy_trans HG4.out (grownBy_below (k1.out _) none) (.inr fun g e => by cases e)) hp5.1 (.inr fun g e => HR4.out.base_le e)); clear hr5 hp5)
            obtain ⟨A5, c5, rfl, _⟩ := HR5.out.reads
            go_roundw
            case rel => exact ⟨vs ++ [w1], w1, m', e', by simp, rfl, by omega, by omega, by simp; omega, by simp; omega, HR5.out, HC5.out, HG5.out, HBX5.out, HS2.out _ _⟩
            case measure => simp [sliceLen]; omega
          · have q : ((c.d : Int) == 1) = false := by simp; omega
            have hw9 := Lib.hid (show c.sum last v = v by unfold Cod.sum; rw [if_neg hd])
            have HR4 := HR3
            have HBX4 := HBX3
            have HG4 := HG3
            have HC4 := HC3
            clear hd HR3 HBX3 HG3 HC3
            have k1 := Lib.hid (fun (o : Obj) => (Below.refl z.heap.size z).alloc (Nat.le_refl _) o)
            have hzs : x.heap.size ≤ z.heap.size := HG4.out.size
            go_wp2_with (at_builtin; refine Pp.wpList_app1 rfl _ _ rfl x.heap.size _ vs rfl (HR4.out.grow (k1.out _)) z.heap.size v _ _ rfl (heap_alloc_new _ _) (by omega) (Nat.le_trans hzs (k1.out _).size) ?_; intro v5 z5 hr5 hp5; have HR5 := Lib.hid hr5; have HBX5 := Lib.hid (ibox_hop (HR4.out.grow (k1.out _)) hp5 (HBX4.out.grow (k1.out _)) (by decide)); have HC5 := Lib.hid (H0.out.hop (HC4.out.grow (k1.out _)) hp5.1 (fun g e => (HR4.out.base_le e))); have HG5 := Lib.hid (grownBy_trans (grownBy_trans HG4.out (grownBy_below (k1.out _) none) (.inr fun g e => by cases e)) hp5.1 (.inr fun g e => HR4.out.base_le e)); clear hr5 hp5)
            obtain ⟨A5, c5, rfl, _⟩ := HR5.out.reads
            go_roundw
            case rel => exact ⟨vs ++ [v], v, m', e', by simp, rfl, by omega, by omega, by simp; omega, by simp; omega, HR5.out, HC5.out, HG5.out, HBX5.out, HS2.out _ _⟩
            case measure => simp [sliceLen]; omega
      · have q0 : (e == 0) = false := by simpa using he
        have q2 : (e != 0) = true := by simpa using he
        have hfin := Lib.hid (HST.out.bad he)
        have HEN := Lib.hid he
        clear hbx hst he
        go_wp2_with fail
        go_ret
        exact ⟨_, [], m, e, rfl, IRow.nil _ _, HCU.out, outc_error hfin.out HEN.out, HG.out⟩
    · have q1 : decide ((vs.length : Int) < (k : Int)) = false := decide_eq_false (by omega)
      by_cases he : e = 0
      · subst he
        have hfin := Lib.hid (HST.out.done hlt)
        clear hbx hst
        go_wp2_with fail
        go_ret
        exact ⟨_, vs, m, 0, rfl, HR.out, HCU.out, outc_ok hfin.out, HG.out⟩
      · have q2 : (e != 0) = true := by simpa using he
        have hfin := Lib.hid (HST.out.bad he)
        have HEN := Lib.hid he
        clear hbx hst he
        go_wp2_with fail
        go_ret
        exact ⟨_, [], m, e, rfl, IRow.nil _ _, HCU.out, outc_error hfin.out HEN.out, HG.out⟩
end
end Go.Proofs.Ytbdkoagagcemcaa

/- The walk of layer 26's statement: a band that is read by the document. -/
namespace Go.Proofs.Ytbdkoagagcemcaa
open Go.RowKit Pp

/-- What the document's reading comes to, whether there is an error ahead or not. -/
def RNext (b : Nat) (A : Option Addr) (cc : Nat) (l : List UInt8) (n : Nat) (e : Int) (o : Except Int (List Int × List UInt8)) (x : World) (ex : Ending) (y : World) : Prop :=
  ∃ (u : Value) (vs : List Int) (m : Nat) (e' : Int), ex = .returned u ∧ IRead y x.heap.size u vs ∧ RCur y b A cc l m e' ∧ (e = 0 → Outc o [] vs e' (l.drop m)) ∧ (e ≠ 0 → vs = [] ∧ e' = e) ∧ x.grownBy y (some b)
theorem plainR_kind {kind k : Nat} (h : ¬ kind < 15) (r : List UInt8) : plainR kind k r = .error 9 := by
  unfold plainR
  rw [List.getElem?_eq_none (show cods.length ≤ kind from (by have : cods.length = 15 := rfl; omega))]
section
variable {x : World} {b : Nat} {A : Option Addr} {cc : Nat} {l : List UInt8} {n : Nat} {e : Int}
set_option maxHeartbeats 8000000 in
set_option maxRecDepth 100000 in
theorem lread_one (h : RCur x b A cc l n e) (k : Nat) (hk : k ≤ 9223372036854775807) :
    Calls Try.prog 19 #[.pointer (some ⟨b, 0, none⟩), .int .i64 k, .bool false] x (RNext b A cc l n e (nextR k (l.drop n)) x) := by
  have H0 := Lib.hid h
  have hnl := h.le
  by_cases he : e = 0
  · subst he
    by_cases hend : n < l.length
    · obtain ⟨a, ha⟩ : ∃ a, l[n]? = some a := ⟨_, List.getElem?_eq_getElem hend⟩
      have HB := Lib.hid (rbig_ok h ha)
      have hab := a.toNat_lt
      have hdr := Lib.hid (drop_atI ha)
      clear h ha
      go_enter Try.func19, Try.ntmps19
      go_wp2_with fail
      refine HB.out.mono ?_
      rintro ex z ⟨rfl, hc1, hg1⟩
      have HC1 := Lib.hid hc1
      have HG1 := Lib.hid hg1
      have f0 := hc1.cb
      have f1 := hc1.ca
      have f2 := hc1.ce
      have ff := hc1.frozen 2
      have fz := hc1.lt
      clear hc1 hg1 HB
      have hfin := Lib.hid (show nextR k (l.drop n) = plainR a.toNat k (l.drop (n + 1)) by rw [hdr.out]; rfl)
      have qa : ((a.toNat : Int) == 255) = true ∨ ((a.toNat : Int) == 255) = false := by cases ((a.toNat : Int) == 255) <;> simp
      rcases qa with qa | qa
      · go_wp2_with fail
        refine (codings_any z).mono ?_
        rintro ex z1 ⟨rfl, hcd, hb2⟩
        have hc2 := HC1.out.grow hb2
        have HC2 := Lib.hid hc2
        have HG2 := Lib.hid (grownBy_trans HG1.out (grownBy_below hb2 none) (.inr fun g e => by cases e))
        have HCD := Lib.hid hcd
        have hzx := Lib.hid HG1.out.size
        have hm2 := hc2.le
        have hs2 := hc2.small
        clear f0 f1 f2 ff fz hb2 hcd HC1 HG1
        have f0 := hc2.cb
        have f1 := hc2.ca
        have f2 := hc2.ce
        have ff := hc2.frozen 2
        have fz := hc2.lt
        clear hc2
        by_cases hkd : a.toNat < 15
        · have q1 : decide ((15 : Int) ≤ (a.toNat : Int)) = false := decide_eq_false (by omega)
          have q2 : decide (15 ≤ a.toNat) = false := decide_eq_false (by omega)
          obtain ⟨c, hc⟩ : ∃ c, cods[a.toNat]? = some c := ⟨_, List.getElem?_eq_getElem (show a.toNat < cods.length from hkd)⟩
          have hok := Lib.hid (cods_ok c (List.mem_of_getElem? hc))
          have HCC := Lib.hid hc
          clear hc
          by_cases hlt : l.length - (n + 1) < k
          · have q3 : decide ((l.length : Int) - ((n : Int) + 1) < (k : Int)) = true := decide_eq_true (by omega)
            have hfin2 := Lib.hid (show nextR k (l.drop n) = .error 6 by
              rw [hfin.out]
              unfold plainR; rw [HCC.out]; dsimp only; rw [if_pos (by rw [List.length_drop]; exact hlt)])
            have HS := Lib.hid (fun y (k : Below z1.heap.size z1 y) => (HC2.out.grow k).setErr 6)
            have HT := Lib.hid (fun y (k : Below z1.heap.size z1 y) => grownBy_trans (grownBy_trans HG2.out (grownBy_below k none) (.inr fun g e => by cases e)) ((HC2.out.grow k).turned 2 (.int .i64 6)) (.inl rfl))
            clear hlt
            go_wp2_with fail
            go_region
            go_wp2_with fail
            go_ret
            exact ⟨_, [], _, 6, rfl, IRead.nil _ _, HS.out _ (Below.refl _ _).drew, fun _ => outc_error hfin2.out (by decide), fun h => absurd rfl h, HT.out _ (Below.refl _ _).drew⟩
          · have q3 : decide ((l.length : Int) - ((n : Int) + 1) < (k : Int)) = false := decide_eq_false (by omega)
            have hfin2 := Lib.hid (show nextR k (l.drop n) = c.read k 0 (l.drop (n + 1)) by
              rw [hfin.out]
              unfold plainR; rw [HCC.out]; dsimp only; rw [if_neg (by rw [List.length_drop]; exact hlt)])
            have HRR := Lib.hid (fun y (kk : Below z1.heap.size z1 y) => rreadrow_any c hok.out (HC2.out.grow kk) k hk)
            unfold Cod.val at HRR
            have HAT := Lib.hid (fun y (kk : Below z1.heap.size z1 y) => (HCD.out.grow kk).at_ HCC.out)
            obtain ⟨g0, g1, g2, g3⟩ := HCD.out.at_ HCC.out
            have gz := HCD.out.lt
            clear hlt
            go_wp2_with fail
            go_region
            go_wp2_with fail
            refine (HRR.out _ (Below.refl _ _).drew).mono ?_
            rintro ex z3 ⟨u, vs, m, e, rfl, hr4, hc4, ho4, hg4⟩
            have HC4 := Lib.hid hc4
            have HG4 := Lib.hid (grownBy_trans (grownBy_trans HG2.out (grownBy_below (Below.refl _ _).drew none) (.inr fun g e => by cases e)) hg4 (.inl rfl))
            have HR4 := Lib.hid ((IRead.of hr4).lower (Nat.le_trans HG2.out.size (Nat.le_refl _)))
            have HO4 := Lib.hid ho4
            clear hc4 hg4 hr4 ho4 HRR
            go_wp2_with fail
            go_ret
            exact ⟨u, vs, m, e, rfl, HR4.out, HC4.out, fun _ => by rw [hfin2.out]; exact HO4.out, fun h => absurd rfl h, HG4.out⟩
        · have q1 : decide ((15 : Int) ≤ (a.toNat : Int)) = true := decide_eq_true (by omega)
          have q2 : decide (15 ≤ a.toNat) = true := decide_eq_true (by omega)
          have hfin2 := Lib.hid (show nextR k (l.drop n) = .error 9 by rw [hfin.out]; exact plainR_kind hkd _)
          have HS := Lib.hid (HC2.out.setErr 9)
          have HT := Lib.hid (grownBy_trans HG2.out (HC2.out.turned 2 (.int .i64 9)) (.inl rfl))
          clear hkd
          go_wp2_with fail
          go_ret
          exact ⟨_, [], _, 9, rfl, IRead.nil _ _, HS.out, fun _ => outc_error hfin2.out (by decide), fun h => absurd rfl h, HT.out⟩
      · go_wp2_with fail
        refine (codings_any z).mono ?_
        rintro ex z1 ⟨rfl, hcd, hb2⟩
        have hc2 := HC1.out.grow hb2
        have HC2 := Lib.hid hc2
        have HG2 := Lib.hid (grownBy_trans HG1.out (grownBy_below hb2 none) (.inr fun g e => by cases e))
        have HCD := Lib.hid hcd
        have hzx := Lib.hid HG1.out.size
        have hm2 := hc2.le
        have hs2 := hc2.small
        clear f0 f1 f2 ff fz hb2 hcd HC1 HG1
        have f0 := hc2.cb
        have f1 := hc2.ca
        have f2 := hc2.ce
        have ff := hc2.frozen 2
        have fz := hc2.lt
        clear hc2
        by_cases hkd : a.toNat < 15
        · have q1 : decide ((15 : Int) ≤ (a.toNat : Int)) = false := decide_eq_false (by omega)
          have q2 : decide (15 ≤ a.toNat) = false := decide_eq_false (by omega)
          obtain ⟨c, hc⟩ : ∃ c, cods[a.toNat]? = some c := ⟨_, List.getElem?_eq_getElem (show a.toNat < cods.length from hkd)⟩
          have hok := Lib.hid (cods_ok c (List.mem_of_getElem? hc))
          have HCC := Lib.hid hc
          clear hc
          by_cases hlt : l.length - (n + 1) < k
          · have q3 : decide ((l.length : Int) - ((n : Int) + 1) < (k : Int)) = true := decide_eq_true (by omega)
            have hfin2 := Lib.hid (show nextR k (l.drop n) = .error 6 by
              rw [hfin.out]
              unfold plainR; rw [HCC.out]; dsimp only; rw [if_pos (by rw [List.length_drop]; exact hlt)])
            have HS := Lib.hid (fun y (k : Below z1.heap.size z1 y) => (HC2.out.grow k).setErr 6)
            have HT := Lib.hid (fun y (k : Below z1.heap.size z1 y) => grownBy_trans (grownBy_trans HG2.out (grownBy_below k none) (.inr fun g e => by cases e)) ((HC2.out.grow k).turned 2 (.int .i64 6)) (.inl rfl))
            clear hlt
            go_wp2_with fail
            go_region
            go_wp2_with fail
            go_ret
            exact ⟨_, [], _, 6, rfl, IRead.nil _ _, HS.out _ (Below.refl _ _).drew, fun _ => outc_error hfin2.out (by decide), fun h => absurd rfl h, HT.out _ (Below.refl _ _).drew⟩
          · have q3 : decide ((l.length : Int) - ((n : Int) + 1) < (k : Int)) = false := decide_eq_false (by omega)
            have hfin2 := Lib.hid (show nextR k (l.drop n) = c.read k 0 (l.drop (n + 1)) by
              rw [hfin.out]
              unfold plainR; rw [HCC.out]; dsimp only; rw [if_neg (by rw [List.length_drop]; exact hlt)])
            have HRR := Lib.hid (fun y (kk : Below z1.heap.size z1 y) => rreadrow_any c hok.out (HC2.out.grow kk) k hk)
            unfold Cod.val at HRR
            have HAT := Lib.hid (fun y (kk : Below z1.heap.size z1 y) => (HCD.out.grow kk).at_ HCC.out)
            obtain ⟨g0, g1, g2, g3⟩ := HCD.out.at_ HCC.out
            have gz := HCD.out.lt
            clear hlt
            go_wp2_with fail
            go_region
            go_wp2_with fail
            refine (HRR.out _ (Below.refl _ _).drew).mono ?_
            rintro ex z3 ⟨u, vs, m, e, rfl, hr4, hc4, ho4, hg4⟩
            have HC4 := Lib.hid hc4
            have HG4 := Lib.hid (grownBy_trans (grownBy_trans HG2.out (grownBy_below (Below.refl _ _).drew none) (.inr fun g e => by cases e)) hg4 (.inl rfl))
            have HR4 := Lib.hid ((IRead.of hr4).lower (Nat.le_trans HG2.out.size (Nat.le_refl _)))
            have HO4 := Lib.hid ho4
            clear hc4 hg4 hr4 ho4 HRR
            go_wp2_with fail
            go_ret
            exact ⟨u, vs, m, e, rfl, HR4.out, HC4.out, fun _ => by rw [hfin2.out]; exact HO4.out, fun h => absurd rfl h, HG4.out⟩
        · have q1 : decide ((15 : Int) ≤ (a.toNat : Int)) = true := decide_eq_true (by omega)
          have q2 : decide (15 ≤ a.toNat) = true := decide_eq_true (by omega)
          have hfin2 := Lib.hid (show nextR k (l.drop n) = .error 9 by rw [hfin.out]; exact plainR_kind hkd _)
          have HS := Lib.hid (HC2.out.setErr 9)
          have HT := Lib.hid (grownBy_trans HG2.out (HC2.out.turned 2 (.int .i64 9)) (.inl rfl))
          clear hkd
          go_wp2_with fail
          go_ret
          exact ⟨_, [], _, 9, rfl, IRead.nil _ _, HS.out, fun _ => outc_error hfin2.out (by decide), fun h => absurd rfl h, HT.out⟩
    · have HB := Lib.hid (rbig_end h (by omega))
      have hfin := Lib.hid (show nextR k (l.drop n) = .error 6 by rw [List.drop_of_length_le (by omega)]; rfl)
      clear h
      go_enter Try.func19, Try.ntmps19
      go_wp2_with fail
      refine HB.out.mono ?_
      rintro ex z ⟨rfl, hc1, hg1⟩
      have HC1 := Lib.hid hc1
      have HG1 := Lib.hid hg1
      clear hc1 hg1 HB
      go_wp2_with fail
      refine (codings_any z).mono ?_
      rintro ex z1 ⟨rfl, _, hb2⟩
      have hc2 := HC1.out.grow hb2
      have HC2 := Lib.hid hc2
      have HG2 := Lib.hid (grownBy_trans HG1.out (grownBy_below hb2 none) (.inr fun g e => by cases e))
      have f0 := hc2.cb
      have f1 := hc2.ca
      have f2 := hc2.ce
      have ff := hc2.frozen 2
      have fz := hc2.lt
      clear hc2 hb2
      go_wp2_with fail
      go_ret
      exact ⟨_, [], _, 6, rfl, IRead.nil _ _, HC2.out, fun _ => outc_error hfin.out (by decide), fun h => absurd rfl h, HG2.out⟩
  · have HB := Lib.hid (rbig_bad h he)
    have q : (e != 0) = true := by simpa using he
    have HEN := Lib.hid he
    clear h he
    go_enter Try.func19, Try.ntmps19
    go_wp2_with fail
    refine HB.out.mono ?_
    rintro ex z ⟨rfl, ez⟩
    have ez := ez.symm
    subst ez
    go_wp2_with fail
    refine (codings_any x).mono ?_
    rintro ex z1 ⟨rfl, _, hb2⟩
    have hc2 := H0.out.grow hb2
    have HC2 := Lib.hid hc2
    have HG2 := Lib.hid (grownBy_below hb2 (some b))
    have f0 := hc2.cb
    have f1 := hc2.ca
    have f2 := hc2.ce
    have ff := hc2.frozen 2
    have fz := hc2.lt
    clear hc2 hb2
    go_wp2_with fail
    go_ret
    exact ⟨_, [], n, e, rfl, IRead.nil _ _, HC2.out, fun h => absurd h HEN.out, fun _ => ⟨rfl, rfl⟩, HG2.out⟩
end
end Go.Proofs.Ytbdkoagagcemcaa

/- The walk of layer 26's statement: a band, or one of three rows, read by the document. -/
namespace Go.Proofs.Ytbdkoagagcemcaa
open Go.RowKit Pp

section
variable {x : World} {b : Nat} {A : Option Addr} {cc : Nat} {l : List UInt8} {n : Nat} {e : Int}
set_option maxHeartbeats 8000000 in
set_option maxRecDepth 100000 in
theorem lread_any (h : RCur x b A cc l n 0) (k : Nat) (hk : k ≤ 9223372036854775807) (hl : l.length ≤ 100000) :
    Calls Try.prog 19 #[.pointer (some ⟨b, 0, none⟩), .int .i64 k, .bool true] x (RNext b A cc l n 0 (bandR k (l.drop n)) x) := by
  have H0 := Lib.hid h
  have hnl := h.le
  have hbl := h.lt
  by_cases hend : n < l.length
  · obtain ⟨a, ha⟩ : ∃ a, l[n]? = some a := ⟨_, List.getElem?_eq_getElem hend⟩
    have HB := Lib.hid (rbig_ok h ha)
    have hab := a.toNat_lt
    have hdr := Lib.hid (drop_atI ha)
    clear h ha
    go_enter Try.func19, Try.ntmps19
    go_wp2_with fail
    refine HB.out.mono ?_
    rintro ex z ⟨rfl, hc1, hg1⟩
    have HC1 := Lib.hid hc1
    have HG1 := Lib.hid hg1
    have f0 := hc1.cb
    have f1 := hc1.ca
    have f2 := hc1.ce
    have ff := hc1.frozen 2
    have fz := hc1.lt
    clear hc1 hg1 HB
    by_cases h255 : a = 255
    · have qa : ((a.toNat : Int) == 255) = true := by rw [h255]; rfl
      have hjn := Lib.hid (show bandR k (l.drop n) = joinR k (l.drop (n + 1)) by rw [hdr.out, h255]; exact bandR_join _ _)
      clear h255
      go_wp2_with fail
      refine (codings_any z).mono ?_
      rintro ex z1 ⟨rfl, _, hb2⟩
      have hc2 := HC1.out.grow hb2
      have HC2 := Lib.hid hc2
      have HG2 := Lib.hid (grownBy_trans HG1.out (grownBy_below hb2 none) (.inr fun g e => by cases e))
      clear f0 f1 f2 ff fz hb2 HC1 HG1
      have f0 := hc2.cb
      have f1 := hc2.ca
      have f2 := hc2.ce
      have ff := hc2.frozen 2
      have fz := hc2.lt
      have hmany : ∃ (mm m1 : Nat) (e1 : Int) (ca : Calls Try.prog 40 #[.pointer (some ⟨b, 0, none⟩), .int .i64 1] z1 fun ex y => ex = .returned (.int .u64 (mm : Int)) ∧ RCur y b A cc l m1 e1 ∧ z1.grownBy y (some b)),
          mm ≤ 255 ∧ ((e1 = 0 ∧ 1 ≤ mm ∧ mm ≤ 15 ∧ bandR k (l.drop n) = trio mm k (l.drop m1)) ∨ (e1 = 6 ∧ bandR k (l.drop n) = .error 6) ∨ (e1 = 0 ∧ (mm < 1 ∨ 15 < mm) ∧ bandR k (l.drop n) = .error 2)) := by
        rw [hjn.out]
        by_cases hend2 : n + 1 < l.length
        · obtain ⟨a2, ha2⟩ : ∃ a2, l[n + 1]? = some a2 := ⟨_, List.getElem?_eq_getElem hend2⟩
          have hab2 := a2.toNat_lt
          refine ⟨a2.toNat, n + 1 + 1, 0, rbig_ok hc2 ha2, by omega, ?_⟩
          rw [drop_atI ha2]
          by_cases hm : a2.toNat < 1 ∨ 15 < a2.toNat
          · exact .inr (.inr ⟨rfl, hm, joinR_bad hm _⟩)
          · exact .inl ⟨rfl, by omega, by omega, joinR_trio hm _⟩
        · refine ⟨0, n + 1, 6, rbig_end hc2 (by omega), by omega, .inr (.inl ⟨rfl, ?_⟩)⟩
          rw [List.drop_of_length_le (by omega)]
          rfl
      obtain ⟨mm, m1, e1, ca, hmm, hcase⟩ := hmany
      have HCA := Lib.hid ca
      have HCS0 := Lib.hid hcase
      clear ca hcase hc2
      go_wp2_with fail
      refine HCA.out.mono ?_
      rintro ex zm ⟨rfl, hcm, hgm⟩
      have HCM := Lib.hid hcm
      have HGM := Lib.hid (grownBy_trans HG2.out hgm (.inl rfl))
      clear f0 f1 f2 ff fz hgm HCA HC2 HG2
      have hcs := HCS0.out
      clear HCS0
      rcases hcs with ⟨rfl, q1, q2, hjo⟩ | ⟨rfl, hjo⟩ | ⟨rfl, q1, hjo⟩
      · have q3 : decide ((mm : Int) < 1) = false := decide_eq_false (by omega)
        have q4 : decide ((15 : Int) < (mm : Int)) = false := decide_eq_false (by omega)
        have q5 : decide (15 < mm) = false := decide_eq_false (by omega)
        have q6 : decide (mm < 1) = false := decide_eq_false (by omega)
        have HJO := Lib.hid hjo
        have f0 := hcm.cb
        have f1 := hcm.ca
        have f2 := hcm.ce
        have ff := hcm.frozen 2
        have fz := hcm.lt
        clear hjo hcm
        have HN1 := Lib.hid (lread_one HCM.out mm (by omega))
        go_wp2_with fail
        refine HN1.out.mono ?_
        rintro ex w1 ⟨u1, fs, n1, r1, rfl, hr1, hc1, ho1, hb1, hg1⟩
        have HR1 := Lib.hid hr1
        have HD1 := Lib.hid hc1
        have HO1 := Lib.hid ho1
        have HB1 := Lib.hid hb1
        have HG1b := Lib.hid (grownBy_trans HGM.out hg1 (.inl rfl))
        clear hr1 hc1 ho1 hb1 hg1 HN1 f0 f1 f2 ff fz
        have HN2 := Lib.hid (lread_one HD1.out k hk)
        go_wp2_with fail
        refine HN2.out.mono ?_
        rintro ex w2 ⟨u2, ts, n2, r2, rfl, hr2, hc2, ho2, hb2, hg2⟩
        have HR12 := Lib.hid (HR1.out.kept hg2 (by have := HCM.out.lt; omega))
        have HD2 := Lib.hid hc2
        have HO2 := Lib.hid ho2
        have HB2 := Lib.hid hb2
        have HG2 := Lib.hid (grownBy_trans HG1b.out hg2 (.inl rfl))
        obtain ⟨A2, c2, rfl, hi2, hf2⟩ := hr2
        have htl : ts.length ≤ 100000 := by
          by_cases h0 : r1 = 0
          · have g1 := outc_len (ho2 h0)
            rw [List.length_drop] at g1
            omega
          · rw [(hb2 h0).1]; simp
        have HR2 := Lib.hid (show IRead w2 w1.heap.size (.slice A2 ts.length c2) ts from ⟨A2, c2, rfl, hi2, hf2⟩)
        have HCn := Lib.hid (count_any A2 c2 ts 0 w2 hi2 (by omega))
        have hcl : ts.count 0 ≤ ts.length := List.count_le_length
        clear hc2 ho2 hb2 hg2 HN2 HR1 hi2 hf2
        go_wp2_with fail
        refine HCn.out.mono ?_
        rintro ex w2b ⟨rfl, ew⟩
        subst ew
        have HN3 := Lib.hid (lread_one HD2.out (ts.count 0) (by omega))
        go_wp2_with fail
        refine HN3.out.mono ?_
        rintro ex w3 ⟨u3, rs, n3, r3, rfl, hr3, hc3, ho3, hb3, hg3⟩
        have HR13 := Lib.hid (HR12.out.kept hg3 (by have := HCM.out.lt; omega))
        have HR23 := Lib.hid (HR2.out.kept hg3 (by have := HD1.out.lt; omega))
        have HR3 := Lib.hid hr3
        have HD3 := Lib.hid hc3
        have HO3 := Lib.hid ho3
        have HB3 := Lib.hid hb3
        have HG3 := Lib.hid (grownBy_trans HG2.out hg3 (.inl rfl))
        have f0 := hc3.cb
        have f1 := hc3.ca
        have f2 := hc3.ce
        have ff := hc3.frozen 2
        have fz := hc3.lt
        clear hr3 hc3 ho3 hb3 hg3 HN3 HR12 HR2 HCn
        have hkey := trio_of (m := mm) (n := k) (HO1.out (by trivial)) HO2.out HB2.out HO3.out HB3.out
        have HK := Lib.hid hkey
        clear hkey
        by_cases hr0 : r3 = 0
        · subst hr0
          obtain ⟨hj, hfl, htl2, _, hkl, hrl, hI, hJ⟩ : (trio mm k (l.drop m1) = if Po.err fs ts rs = 0 then .ok (Po.out fs ts rs, l.drop n3) else .error (Po.err fs ts rs)) ∧ fs.length = mm ∧ ts.length = k ∧ mm ≤ (l.drop m1).length ∧ k ≤ (l.drop n1).length ∧ rs.length = ts.count 0 ∧ (∀ v ∈ fs, I64 v) ∧ (∀ v ∈ rs, I64 v) := by
            rcases HK.out with ⟨h, _⟩ | ⟨_, h⟩
            · exact absurd rfl h
            · exact h
          have HJ := Lib.hid (HJO.out.trans hj)
          obtain ⟨A1, k1, rfl, hi1, _⟩ := HR13.out
          obtain ⟨A2', k2, e2', hi2, _⟩ := HR23.out
          cases e2'
          obtain ⟨A3, k3, rfl, hi3, _⟩ := HR3.out
          have HJn := Lib.hid (rjoin_any A1 A2 A3 k1 c2 k3 fs ts rs w3 hi1 hi2 hi3 (by omega) (by omega) (by omega))
          clear hi1 hi2 hi3 hI hJ hj HR13 HR23 HR3 HK hfl htl2 hrl hkl
          go_wp2_with fail
          refine HJn.out.mono ?_
          rintro ex w5 ⟨A5, k5, rfl, ⟨hi5, hf5⟩, hb5⟩
          have hc5 := HD3.out.grow hb5
          have HG5 := grownBy_trans HG3.out (grownBy_below hb5 none) (.inr fun g e => by cases e)
          have hst5 := hc5.turned 2 (.int .i64 (Po.err fs ts rs))
          have HC6 := Lib.hid (hc5.setErr (Po.err fs ts rs))
          have HG6 := Lib.hid (grownBy_trans HG5 hst5 (.inl rfl))
          have hI5 : IRead w5 x.heap.size (.slice A5 (Po.out fs ts rs).length k5) (Po.out fs ts rs) := ⟨A5, k5, rfl, hi5, fun g o e => Nat.le_trans HG3.out.size (hf5 g o e)⟩
          have HI6 := Lib.hid (hI5.kept hst5 hbl)
          clear f0 f1 f2 ff fz
          have f0 := hc5.cb
          have f1 := hc5.ca
          have f2 := hc5.ce
          have ff := hc5.frozen 2
          have fz := hc5.lt
          clear hi5 hf5 hb5 hc5 HG5 hst5 hI5 HJn
          go_wp2_with fail
          go_ret
          refine ⟨_, _, _, _, rfl, HI6.out, HC6.out, fun _ => ?_, fun h => absurd rfl h, HG6.out⟩
          rw [HJ.out]
          by_cases her : Po.err fs ts rs = 0
          · rw [if_pos her]; exact ⟨her, rfl, rfl⟩
          · rw [if_neg her, po_out_err her]; exact ⟨rfl, her, rfl⟩
        · have q7 : (r3 != 0) = true := by simpa using hr0
          have hfin := Lib.hid (show bandR k (l.drop n) = .error r3 by
            rcases HK.out with ⟨_, h⟩ | ⟨h, _⟩
            · exact HJO.out.trans h
            · exact absurd h hr0)
          have HRN := Lib.hid hr0
          clear hr0
          go_wp2_with fail
          go_ret
          exact ⟨_, [], _, r3, rfl, IRead.nil _ _, HD3.out, fun _ => outc_error hfin.out HRN.out, fun h => absurd rfl h, HG3.out⟩
      · have q8 : ((6 : Int) == 0) = false := rfl
        have HJO := Lib.hid hjo
        have HNE := Lib.hid (show (6 : Int) ≠ 0 by decide)
        have f0 := hcm.cb
        have f1 := hcm.ca
        have f2 := hcm.ce
        have ff := hcm.frozen 2
        have fz := hcm.lt
        clear hjo hcm
        have HN1 := Lib.hid (lread_one (e := 6) HCM.out mm (by omega))
        go_wp2_with fail
        refine HN1.out.mono ?_
        rintro ex w1 ⟨u1, fs, n1, r1, rfl, hr1, hc1, ho1, hb1, hg1⟩
        have HR1 := Lib.hid hr1
        have HD1 := Lib.hid hc1
        have HO1 := Lib.hid ho1
        have HB1 := Lib.hid hb1
        have HG1b := Lib.hid (grownBy_trans HGM.out hg1 (.inl rfl))
        clear hr1 hc1 ho1 hb1 hg1 HN1 f0 f1 f2 ff fz
        have HN2 := Lib.hid (lread_one HD1.out k hk)
        go_wp2_with fail
        refine HN2.out.mono ?_
        rintro ex w2 ⟨u2, ts, n2, r2, rfl, hr2, hc2, ho2, hb2, hg2⟩
        have HR12 := Lib.hid (HR1.out.kept hg2 (by have := HCM.out.lt; omega))
        have HD2 := Lib.hid hc2
        have HO2 := Lib.hid ho2
        have HB2 := Lib.hid hb2
        have HG2 := Lib.hid (grownBy_trans HG1b.out hg2 (.inl rfl))
        obtain ⟨A2, c2, rfl, hi2, hf2⟩ := hr2
        have htl : ts.length ≤ 100000 := by
          by_cases h0 : r1 = 0
          · have g1 := outc_len (ho2 h0)
            rw [List.length_drop] at g1
            omega
          · rw [(hb2 h0).1]; simp
        have HR2 := Lib.hid (show IRead w2 w1.heap.size (.slice A2 ts.length c2) ts from ⟨A2, c2, rfl, hi2, hf2⟩)
        have HCn := Lib.hid (count_any A2 c2 ts 0 w2 hi2 (by omega))
        have hcl : ts.count 0 ≤ ts.length := List.count_le_length
        clear hc2 ho2 hb2 hg2 HN2 HR1 hi2 hf2
        go_wp2_with fail
        refine HCn.out.mono ?_
        rintro ex w2b ⟨rfl, ew⟩
        subst ew
        have HN3 := Lib.hid (lread_one HD2.out (ts.count 0) (by omega))
        go_wp2_with fail
        refine HN3.out.mono ?_
        rintro ex w3 ⟨u3, rs, n3, r3, rfl, hr3, hc3, ho3, hb3, hg3⟩
        have HR13 := Lib.hid (HR12.out.kept hg3 (by have := HCM.out.lt; omega))
        have HR23 := Lib.hid (HR2.out.kept hg3 (by have := HD1.out.lt; omega))
        have HR3 := Lib.hid hr3
        have HD3 := Lib.hid hc3
        have HO3 := Lib.hid ho3
        have HB3 := Lib.hid hb3
        have HG3 := Lib.hid (grownBy_trans HG2.out hg3 (.inl rfl))
        have f0 := hc3.cb
        have f1 := hc3.ca
        have f2 := hc3.ce
        have ff := hc3.frozen 2
        have fz := hc3.lt
        clear hr3 hc3 ho3 hb3 hg3 HN3 HR12 HR2 HCn
        obtain ⟨rfl, rfl⟩ := HB1.out HNE.out
        obtain ⟨rfl, rfl⟩ := HB2.out HNE.out
        obtain ⟨rfl, rfl⟩ := HB3.out HNE.out
        have q7 : ((6 : Int) != 0) = true := by decide
        go_wp2_with fail
        go_ret
        exact ⟨_, [], _, 6, rfl, IRead.nil _ _, HD3.out, fun _ => outc_error HJO.out HNE.out, fun h => absurd rfl h, HG3.out⟩
      · have HJO := Lib.hid hjo
        have HNE := Lib.hid (show (2 : Int) ≠ 0 by decide)
        have HCS := Lib.hid (HCM.out.setErr 2)
        have HGS := Lib.hid (grownBy_trans HGM.out (HCM.out.turned 2 (.int .i64 2)) (.inl rfl))
        have hbm := HCM.out.lt
        have f0 := hcm.cb
        have f1 := hcm.ca
        have f2 := hcm.ce
        have ff := hcm.frozen 2
        have fz := hcm.lt
        clear hjo hcm
        rcases q1 with q1 | q1
        · have q3 : decide ((mm : Int) < 1) = true := decide_eq_true (by omega)
          have q6 : decide (mm < 1) = true := decide_eq_true (by omega)
          go_upto_region 9 with fail
          generalize hZ : zm.setCell ⟨b, 2, none⟩ (.int .i64 2) = zs at *
          clear hZ
          have HN1 := Lib.hid (lread_one HCS.out mm (by omega))
          go_wp2_with fail
          refine HN1.out.mono ?_
          rintro ex w1 ⟨u1, fs, n1, r1, rfl, hr1, hc1, ho1, hb1, hg1⟩
          have HR1 := Lib.hid hr1
          have HD1 := Lib.hid hc1
          have HO1 := Lib.hid ho1
          have HB1 := Lib.hid hb1
          have HG1b := Lib.hid (grownBy_trans HGS.out hg1 (.inl rfl))
          clear hr1 hc1 ho1 hb1 hg1 HN1 f0 f1 f2 ff fz
          have HN2 := Lib.hid (lread_one HD1.out k hk)
          go_wp2_with fail
          refine HN2.out.mono ?_
          rintro ex w2 ⟨u2, ts, n2, r2, rfl, hr2, hc2, ho2, hb2, hg2⟩
          have HR12 := Lib.hid (HR1.out.kept hg2 (by have := HCS.out.lt; omega))
          have HD2 := Lib.hid hc2
          have HO2 := Lib.hid ho2
          have HB2 := Lib.hid hb2
          have HG2 := Lib.hid (grownBy_trans HG1b.out hg2 (.inl rfl))
          obtain ⟨A2, c2, rfl, hi2, hf2⟩ := hr2
          have htl : ts.length ≤ 100000 := by
            by_cases h0 : r1 = 0
            · have g1 := outc_len (ho2 h0)
              rw [List.length_drop] at g1
              omega
            · rw [(hb2 h0).1]; simp
          have HR2 := Lib.hid (show IRead w2 w1.heap.size (.slice A2 ts.length c2) ts from ⟨A2, c2, rfl, hi2, hf2⟩)
          have HCn := Lib.hid (count_any A2 c2 ts 0 w2 hi2 (by omega))
          have hcl : ts.count 0 ≤ ts.length := List.count_le_length
          clear hc2 ho2 hb2 hg2 HN2 HR1 hi2 hf2
          go_wp2_with fail
          refine HCn.out.mono ?_
          rintro ex w2b ⟨rfl, ew⟩
          subst ew
          have HN3 := Lib.hid (lread_one HD2.out (ts.count 0) (by omega))
          go_wp2_with fail
          refine HN3.out.mono ?_
          rintro ex w3 ⟨u3, rs, n3, r3, rfl, hr3, hc3, ho3, hb3, hg3⟩
          have HR13 := Lib.hid (HR12.out.kept hg3 (by have := HCS.out.lt; omega))
          have HR23 := Lib.hid (HR2.out.kept hg3 (by have := HD1.out.lt; omega))
          have HR3 := Lib.hid hr3
          have HD3 := Lib.hid hc3
          have HO3 := Lib.hid ho3
          have HB3 := Lib.hid hb3
          have HG3 := Lib.hid (grownBy_trans HG2.out hg3 (.inl rfl))
          have f0 := hc3.cb
          have f1 := hc3.ca
          have f2 := hc3.ce
          have ff := hc3.frozen 2
          have fz := hc3.lt
          clear hr3 hc3 ho3 hb3 hg3 HN3 HR12 HR2 HCn
          obtain ⟨rfl, rfl⟩ := HB1.out HNE.out
          obtain ⟨rfl, rfl⟩ := HB2.out HNE.out
          obtain ⟨rfl, rfl⟩ := HB3.out HNE.out
          have q7 : ((2 : Int) != 0) = true := by decide
          go_wp2_with fail
          go_ret
          exact ⟨_, [], _, 2, rfl, IRead.nil _ _, HD3.out, fun _ => outc_error HJO.out HNE.out, fun h => absurd rfl h, HG3.out⟩
        · have q3 : decide ((mm : Int) < 1) = false := decide_eq_false (by omega)
          have q4 : decide ((15 : Int) < (mm : Int)) = true := decide_eq_true (by omega)
          have q5 : decide (15 < mm) = true := decide_eq_true (by omega)
          have q6 : decide (mm < 1) = false := decide_eq_false (by omega)
          go_upto_region 9 with fail
          generalize hZ : zm.setCell ⟨b, 2, none⟩ (.int .i64 2) = zs at *
          clear hZ
          have HN1 := Lib.hid (lread_one HCS.out mm (by omega))
          go_wp2_with fail
          refine HN1.out.mono ?_
          rintro ex w1 ⟨u1, fs, n1, r1, rfl, hr1, hc1, ho1, hb1, hg1⟩
          have HR1 := Lib.hid hr1
          have HD1 := Lib.hid hc1
          have HO1 := Lib.hid ho1
          have HB1 := Lib.hid hb1
          have HG1b := Lib.hid (grownBy_trans HGS.out hg1 (.inl rfl))
          clear hr1 hc1 ho1 hb1 hg1 HN1 f0 f1 f2 ff fz
          have HN2 := Lib.hid (lread_one HD1.out k hk)
          go_wp2_with fail
          refine HN2.out.mono ?_
          rintro ex w2 ⟨u2, ts, n2, r2, rfl, hr2, hc2, ho2, hb2, hg2⟩
          have HR12 := Lib.hid (HR1.out.kept hg2 (by have := HCS.out.lt; omega))
          have HD2 := Lib.hid hc2
          have HO2 := Lib.hid ho2
          have HB2 := Lib.hid hb2
          have HG2 := Lib.hid (grownBy_trans HG1b.out hg2 (.inl rfl))
          obtain ⟨A2, c2, rfl, hi2, hf2⟩ := hr2
          have htl : ts.length ≤ 100000 := by
            by_cases h0 : r1 = 0
            · have g1 := outc_len (ho2 h0)
              rw [List.length_drop] at g1
              omega
            · rw [(hb2 h0).1]; simp
          have HR2 := Lib.hid (show IRead w2 w1.heap.size (.slice A2 ts.length c2) ts from ⟨A2, c2, rfl, hi2, hf2⟩)
          have HCn := Lib.hid (count_any A2 c2 ts 0 w2 hi2 (by omega))
          have hcl : ts.count 0 ≤ ts.length := List.count_le_length
          clear hc2 ho2 hb2 hg2 HN2 HR1 hi2 hf2
          go_wp2_with fail
          refine HCn.out.mono ?_
          rintro ex w2b ⟨rfl, ew⟩
          subst ew
          have HN3 := Lib.hid (lread_one HD2.out (ts.count 0) (by omega))
          go_wp2_with fail
          refine HN3.out.mono ?_
          rintro ex w3 ⟨u3, rs, n3, r3, rfl, hr3, hc3, ho3, hb3, hg3⟩
          have HR13 := Lib.hid (HR12.out.kept hg3 (by have := HCS.out.lt; omega))
          have HR23 := Lib.hid (HR2.out.kept hg3 (by have := HD1.out.lt; omega))
          have HR3 := Lib.hid hr3
          have HD3 := Lib.hid hc3
          have HO3 := Lib.hid ho3
          have HB3 := Lib.hid hb3
          have HG3 := Lib.hid (grownBy_trans HG2.out hg3 (.inl rfl))
          have f0 := hc3.cb
          have f1 := hc3.ca
          have f2 := hc3.ce
          have ff := hc3.frozen 2
          have fz := hc3.lt
          clear hr3 hc3 ho3 hb3 hg3 HN3 HR12 HR2 HCn
          obtain ⟨rfl, rfl⟩ := HB1.out HNE.out
          obtain ⟨rfl, rfl⟩ := HB2.out HNE.out
          obtain ⟨rfl, rfl⟩ := HB3.out HNE.out
          have q7 : ((2 : Int) != 0) = true := by decide
          go_wp2_with fail
          go_ret
          exact ⟨_, [], _, 2, rfl, IRead.nil _ _, HD3.out, fun _ => outc_error HJO.out HNE.out, fun h => absurd rfl h, HG3.out⟩
    · have hne : a.toNat ≠ 255 := fun e => h255 (UInt8.toNat_inj.1 (by rw [e]; rfl))
      have qa : ((a.toNat : Int) == 255) = false := by simp; omega
      have hfin := Lib.hid (show bandR k (l.drop n) = plainR a.toNat k (l.drop (n + 1)) by rw [hdr.out]; exact bandR_cons h255 _)
      clear h255 hne
      go_wp2_with fail
      refine (codings_any z).mono ?_
      rintro ex z1 ⟨rfl, hcd, hb2⟩
      have hc2 := HC1.out.grow hb2
      have HC2 := Lib.hid hc2
      have HG2 := Lib.hid (grownBy_trans HG1.out (grownBy_below hb2 none) (.inr fun g e => by cases e))
      have HCD := Lib.hid hcd
      have hzx := Lib.hid HG1.out.size
      have hm2 := hc2.le
      have hs2 := hc2.small
      clear f0 f1 f2 ff fz hb2 hcd HC1 HG1
      have f0 := hc2.cb
      have f1 := hc2.ca
      have f2 := hc2.ce
      have ff := hc2.frozen 2
      have fz := hc2.lt
      clear hc2
      by_cases hkd : a.toNat < 15
      · have q1 : decide ((15 : Int) ≤ (a.toNat : Int)) = false := decide_eq_false (by omega)
        have q2 : decide (15 ≤ a.toNat) = false := decide_eq_false (by omega)
        obtain ⟨c, hc⟩ : ∃ c, cods[a.toNat]? = some c := ⟨_, List.getElem?_eq_getElem (show a.toNat < cods.length from hkd)⟩
        have hok := Lib.hid (cods_ok c (List.mem_of_getElem? hc))
        have HCC := Lib.hid hc
        clear hc
        by_cases hlt : l.length - (n + 1) < k
        · have q3 : decide ((l.length : Int) - ((n : Int) + 1) < (k : Int)) = true := decide_eq_true (by omega)
          have hfin2 := Lib.hid (show bandR k (l.drop n) = .error 6 by
            rw [hfin.out]
            unfold plainR; rw [HCC.out]; dsimp only; rw [if_pos (by rw [List.length_drop]; exact hlt)])
          have HS := Lib.hid (fun y (k : Below z1.heap.size z1 y) => (HC2.out.grow k).setErr 6)
          have HT := Lib.hid (fun y (k : Below z1.heap.size z1 y) => grownBy_trans (grownBy_trans HG2.out (grownBy_below k none) (.inr fun g e => by cases e)) ((HC2.out.grow k).turned 2 (.int .i64 6)) (.inl rfl))
          clear hlt
          go_wp2_with fail
          go_region
          go_wp2_with fail
          go_ret
          exact ⟨_, [], _, 6, rfl, IRead.nil _ _, HS.out _ (Below.refl _ _).drew, fun _ => outc_error hfin2.out (by decide), fun h => absurd rfl h, HT.out _ (Below.refl _ _).drew⟩
        · have q3 : decide ((l.length : Int) - ((n : Int) + 1) < (k : Int)) = false := decide_eq_false (by omega)
          have hfin2 := Lib.hid (show bandR k (l.drop n) = c.read k 0 (l.drop (n + 1)) by
            rw [hfin.out]
            unfold plainR; rw [HCC.out]; dsimp only; rw [if_neg (by rw [List.length_drop]; exact hlt)])
          have HRR := Lib.hid (fun y (kk : Below z1.heap.size z1 y) => rreadrow_any c hok.out (HC2.out.grow kk) k hk)
          unfold Cod.val at HRR
          have HAT := Lib.hid (fun y (kk : Below z1.heap.size z1 y) => (HCD.out.grow kk).at_ HCC.out)
          obtain ⟨g0, g1, g2, g3⟩ := HCD.out.at_ HCC.out
          have gz := HCD.out.lt
          clear hlt
          go_wp2_with fail
          go_region
          go_wp2_with fail
          refine (HRR.out _ (Below.refl _ _).drew).mono ?_
          rintro ex z3 ⟨u, vs, m, e, rfl, hr4, hc4, ho4, hg4⟩
          have HC4 := Lib.hid hc4
          have HG4 := Lib.hid (grownBy_trans (grownBy_trans HG2.out (grownBy_below (Below.refl _ _).drew none) (.inr fun g e => by cases e)) hg4 (.inl rfl))
          have HR4 := Lib.hid ((IRead.of hr4).lower (Nat.le_trans HG2.out.size (Nat.le_refl _)))
          have HO4 := Lib.hid ho4
          clear hc4 hg4 hr4 ho4 HRR
          go_wp2_with fail
          go_ret
          exact ⟨u, vs, m, e, rfl, HR4.out, HC4.out, fun _ => by rw [hfin2.out]; exact HO4.out, fun h => absurd rfl h, HG4.out⟩
      · have q1 : decide ((15 : Int) ≤ (a.toNat : Int)) = true := decide_eq_true (by omega)
        have q2 : decide (15 ≤ a.toNat) = true := decide_eq_true (by omega)
        have hfin2 := Lib.hid (show bandR k (l.drop n) = .error 9 by rw [hfin.out]; exact plainR_kind hkd _)
        have HS := Lib.hid (HC2.out.setErr 9)
        have HT := Lib.hid (grownBy_trans HG2.out (HC2.out.turned 2 (.int .i64 9)) (.inl rfl))
        clear hkd
        go_wp2_with fail
        go_ret
        exact ⟨_, [], _, 9, rfl, IRead.nil _ _, HS.out, fun _ => outc_error hfin2.out (by decide), fun h => absurd rfl h, HT.out⟩
  · have HB := Lib.hid (rbig_end h (by omega))
    have hfin := Lib.hid (show bandR k (l.drop n) = .error 6 by rw [List.drop_of_length_le (by omega)]; rfl)
    clear h
    go_enter Try.func19, Try.ntmps19
    go_wp2_with fail
    refine HB.out.mono ?_
    rintro ex z ⟨rfl, hc1, hg1⟩
    have HC1 := Lib.hid hc1
    have HG1 := Lib.hid hg1
    clear hc1 hg1 HB
    go_wp2_with fail
    refine (codings_any z).mono ?_
    rintro ex z1 ⟨rfl, _, hb2⟩
    have hc2 := HC1.out.grow hb2
    have HC2 := Lib.hid hc2
    have HG2 := Lib.hid (grownBy_trans HG1.out (grownBy_below hb2 none) (.inr fun g e => by cases e))
    have f0 := hc2.cb
    have f1 := hc2.ca
    have f2 := hc2.ce
    have ff := hc2.frozen 2
    have fz := hc2.lt
    clear hc2 hb2
    go_wp2_with fail
    go_ret
    exact ⟨_, [], _, 6, rfl, IRead.nil _ _, HC2.out, fun _ => outc_error hfin.out (by decide), fun h => absurd rfl h, HG2.out⟩
end
end Go.Proofs.Ytbdkoagagcemcaa

/- The walk of BandReads: which row any bytes tell, and what is wrong, is what the document says. -/
namespace Go.Proofs.Ytbdkoagagcemcaa
open Go.RowKit Pp

theorem read_rest (c : Cod) : ∀ (n : Nat) (last : Int) (r : List UInt8) (q : List Int × List UInt8), c.read n last r = .ok q → ∃ j, n ≤ j ∧ j ≤ r.length ∧ q.2 = r.drop j
  | 0, last, r, q, h => by
    simp only [Cod.read, Except.ok.injEq] at h
    subst h
    exact ⟨0, Nat.le_refl _, Nat.zero_le _, rfl⟩
  | n + 1, last, r, q, h => by
    rw [Cod.read_succ] at h
    cases hg : c.get r with
    | error e => rw [hg] at h; cases h
    | ok p =>
      obtain ⟨j1, a1, a2, a3⟩ := Cod.get_moves (v := p.1) (r := p.2) hg
      rw [hg] at h
      dsimp only at h
      split at h
      · cases hr : c.read n (c.sum last p.1) p.2 with
        | error e => rw [hr] at h; cases h
        | ok q2 =>
          rw [hr] at h
          simp only [pre, Except.ok.injEq] at h
          subst h
          obtain ⟨j2, b1, b2, b3⟩ := read_rest c n _ _ _ hr
          rw [a3, List.length_drop] at b2
          refine ⟨j1 + j2, by omega, by omega, ?_⟩
          dsimp only
          rw [b3, a3, List.drop_drop]
      · cases h
theorem plainR_rest {kind n : Nat} {r : List UInt8} {q : List Int × List UInt8} (h : plainR kind n r = .ok q) : ∃ j, n ≤ j ∧ j ≤ r.length ∧ q.2 = r.drop j := by
  unfold plainR at h
  cases hc : cods[kind]? with
  | none => rw [hc] at h; cases h
  | some c =>
    rw [hc] at h
    dsimp only at h
    split at h
    · cases h
    · exact read_rest c n 0 r q h
theorem nextR_rest {n : Nat} {r : List UInt8} {q : List Int × List UInt8} (h : nextR n r = .ok q) : ∃ j, n + 1 ≤ j ∧ j ≤ r.length ∧ q.2 = r.drop j := by
  cases r with
  | nil => cases h
  | cons k r =>
    obtain ⟨j, h1, h2, h3⟩ := plainR_rest (show plainR k.toNat n r = .ok q from h)
    exact ⟨j + 1, by omega, by simp; omega, by rw [h3]; rfl⟩
theorem trio_facts {m n : Nat} {L : List UInt8} {q : List Int × List UInt8} (h : trio m n L = .ok q) : q.1.length = n ∧ ∃ j, n ≤ j ∧ j ≤ L.length ∧ q.2 = L.drop j := by
  unfold trio at h
  cases g1 : nextR m L with
  | error e => rw [g1] at h; cases h
  | ok p1 =>
    obtain ⟨fs, r1⟩ := p1
    rw [g1] at h
    dsimp only at h
    cases g2 : nextR n r1 with
    | error e => rw [g2] at h; cases h
    | ok p2 =>
      obtain ⟨ts, r2⟩ := p2
      rw [g2] at h
      dsimp only at h
      cases g3 : nextR (ts.count 0) r2 with
      | error e => rw [g3] at h; cases h
      | ok p3 =>
        obtain ⟨rs, r3⟩ := p3
        rw [g3] at h
        dsimp only at h
        split at h
        · rename_i he
          cases h
          dsimp only
          obtain ⟨j1, a1, a2, a3⟩ := nextR_rest g1
          obtain ⟨j2, b1, b2, b3⟩ := nextR_rest g2
          obtain ⟨j3, c1, c2, c3⟩ := nextR_rest g3
          dsimp only at a3 b3 c3
          have hts := (nextR_facts g2).1
          dsimp only at hts
          rw [a3, List.length_drop] at b2
          rw [b3, a3, List.length_drop, List.length_drop] at c2
          refine ⟨by unfold Po.out; rw [if_pos he, Po.rowN_length, hts], j1 + j2 + j3, by omega, by omega, ?_⟩
          rw [c3, b3, a3, List.drop_drop, List.drop_drop, Nat.add_assoc]
        · cases h
/-- A band that is read has no more numbers than bytes. -/
theorem bandR_facts {n : Nat} {L : List UInt8} {q : List Int × List UInt8} (h : bandR n L = .ok q) : q.1.length = n ∧ ∃ j, n ≤ j ∧ j ≤ L.length ∧ q.2 = L.drop j := by
  cases L with
  | nil => cases h
  | cons k r =>
    by_cases hk : k = 255
    · subst hk
      rw [bandR_join] at h
      cases r with
      | nil => cases h
      | cons m r =>
        by_cases hm : m.toNat < 1 ∨ 15 < m.toNat
        · rw [joinR_bad hm] at h; cases h
        · rw [joinR_trio hm] at h
          obtain ⟨h1, j, h2, h3, h4⟩ := trio_facts h
          exact ⟨h1, j + 2, by omega, by simp; omega, by rw [h4]; rfl⟩
    · rw [bandR_cons hk] at h
      have h1 := (plainR_facts h).1
      obtain ⟨j, h2, h3, h4⟩ := plainR_rest h
      exact ⟨h1, j + 1, by omega, by simp; omega, by rw [h4]; rfl⟩
theorem outc_band_len {n : Nat} {L r : List UInt8} {vs : List Int} {e : Int} (h : Outc (bandR n L) [] vs e r) : vs.length ≤ L.length := by
  cases g : bandR n L with
  | error e2 =>
    rw [g] at h
    rw [h.2.2]
    simp
  | ok p =>
    rw [g] at h
    obtain ⟨h1, j, h2, h3, _⟩ := bandR_facts g
    rw [h.2.1]
    omega
theorem outc_same {o : Except Int (List Int × List UInt8)} {v v' : List Int} {e e' : Int} {r r' : List UInt8} (h : Outc o [] v e r) (k : Outc o [] v' e' r') : v' = v ∧ e' = e ∧ (e = 0 → r' = r) := by
  cases o with
  | error q =>
    obtain ⟨rfl, h1, rfl⟩ := h
    obtain ⟨rfl, _, rfl⟩ := k
    exact ⟨rfl, rfl, fun h => absurd h h1⟩
  | ok p =>
    obtain ⟨rfl, rfl, rfl⟩ := h
    obtain ⟨rfl, rfl, rfl⟩ := k
    exact ⟨rfl, rfl, fun _ => rfl⟩
theorem drop_same {l : List UInt8} {m m' : Nat} (h : m ≤ l.length) (h' : m' ≤ l.length) (e : l.drop m' = l.drop m) : m' = m := by
  have := congrArg List.length e
  simp only [List.length_drop] at this
  omega
set_option maxHeartbeats 8000000 in
set_option maxRecDepth 100000 in
theorem bandreads_law (A : Option Addr) (c : Nat) (l : List UInt8) (n : Int) (w : World) (hx : BAt w A c l) (hA : A = none → c = 0) (hn : I64 n) :
    Calls Try.prog 4 #[.slice A l.length c, .int .i64 n] w fun e w' => e = .returned (.bool true) ∧ Below w.heap.size w w' := by
  have HX := Lib.hid hx
  have HA := Lib.hid hA
  have HN := Lib.hid hn
  unfold I64 at hn
  clear hx hA
  go_enter Try.func4, Try.ntmps4
  go_wp2_with fail
  refine (bfixed_any w).mono ?_
  rintro ex w0 ⟨rfl, hb0⟩
  have HB0 := Lib.hid hb0
  clear hb0
  by_cases hl : 300 < l.length
  · have p1 : decide ((300 : Int) < (l.length : Int)) = true := decide_eq_true (by omega)
    have p2 : decide (300 < l.length) = true := decide_eq_true hl
    clear hl
    go_wp2_with fail
    go_ret
    exact ⟨rfl, HB0.out⟩
  have p1 : decide ((300 : Int) < (l.length : Int)) = false := decide_eq_false (by omega)
  have p2 : decide (300 < l.length) = false := decide_eq_false hl
  go_wp2_with fail
  refine (cnew_any A c l w0 (HX.out.grow HB0.out) (by omega) HA.out).mono ?_
  rintro ex w1 ⟨b, A1, c1, rfl, hc1, hbn, hb1⟩
  have HB1 := Lib.hid (Below.after' HB0.out hb1 (Nat.le_refl _))
  have hwb := Lib.hid (Nat.le_trans HB0.out.size hbn)
  have hw1b := hc1.lt
  have HC0 := Lib.hid hc1
  have k2 := (Below.refl w1.heap.size w1).alloc (Nat.le_refl _) (.cells #[.slice A l.length c, .int .i64 0, .int .i64 0] 44)
  have hr2 : RCur (w1.alloc (.cells #[.slice A l.length c, .int .i64 0, .int .i64 0] 44)) w1.heap.size A c l 0 0 := ⟨heap_alloc_new _ _, HX.out.grow (Below.after' HB1.out k2 (Nat.le_refl _)), Nat.zero_le _, by omega⟩
  have HRd := Lib.hid (bread_any (hc1.grow k2) n HN.out (by omega))
  have HR2 := Lib.hid hr2
  have HB2 := Lib.hid (Below.after' HB1.out k2 (Nat.le_refl _))
  have hws := Lib.hid HB1.out.size
  clear hc1 hb1 hbn k2 hr2
  go_wp2_with fail
  refine HRd.out.mono ?_
  rintro ex w3 ⟨u3, vs, m, e3, rfl, hi3, hc3, ho3, _, hg3⟩
  have ho := ho3 rfl
  rw [List.drop_zero] at ho
  have HB3 := Lib.hid (HB2.out.grown hg3 HB2.out.size (fun k hk => by cases hk; exact hwb.out))
  obtain ⟨A3, c3, rfl, hI3, hf3⟩ := hi3
  have HE3 := Lib.hid (cerr_any hc3)
  have hm3 := hc3.le
  have HC3 := Lib.hid hc3
  have hr3 : RCur w3 w1.heap.size A c l 0 0 := ⟨(hg3.block w1.heap.size (by simp) (by intro e; injection e with e; omega)).trans HR2.out.box, HX.out.grow HB3.out, Nat.zero_le _, by omega⟩
  have HR3 := Lib.hid hr3
  have HI3 := Lib.hid (show IRead w3 (w1.heap.size + 1) (.slice A3 vs.length c3) vs from ⟨A3, c3, rfl, hI3, fun g o e => by simpa using hf3 g o e⟩)
  clear ho3 hg3 hI3 hf3 HRd hr3 hc3
  by_cases hr : n < 0 ∨ 16777216 < n
  · rw [bandN_out hr] at ho
    obtain ⟨rfl, _, rfl⟩ := ho
    have hcase : decide (n < 0) = true ∨ (decide (n < 0) = false ∧ decide (16777216 < n) = true) := by
      rcases hr with h | h
      · exact .inl (decide_eq_true h)
      · exact .inr ⟨decide_eq_false (by omega), decide_eq_true h⟩
    clear hr
    simp only [List.length_nil]
    rcases hcase with q1 | ⟨q1, q2⟩
    all_goals
      go_wp2_with fail
      refine HE3.out.mono ?_
      rintro ex w4 ⟨rfl, ew⟩
      have ew := ew.symm
      subst ew
      go_wp2_with fail
      go_ret
      exact ⟨rfl, HB3.out⟩
  · have q1 : decide (n < 0) = false := decide_eq_false (by omega)
    have q2 : decide (16777216 < n) = false := decide_eq_false (by omega)
    rw [bandN_in hr] at ho
    obtain ⟨k, rfl⟩ : ∃ k : Nat, n = (k : Int) := ⟨n.toNat, by omega⟩
    rw [Int.toNat_natCast] at ho
    have HO := Lib.hid ho
    have HLr := Lib.hid (lread_any HR3.out k (by omega) (by omega))
    clear hr ho
    go_wp2_with fail
    refine HLr.out.mono ?_
    rintro ex w5 ⟨u5, vs5, m5, e5, rfl, hi5, hc5, ho5, _, hg5⟩
    have ho := ho5 (by trivial)
    rw [List.drop_zero] at ho
    obtain ⟨rfl, rfl, hrest⟩ := outc_same HO.out ho
    have hm5 := hc5.le
    have hvl := outc_band_len HO.out
    have hmm : e5 = 0 → m5 = m := fun h => drop_same hm3 hm5 (hrest h)
    have HI3b := HI3.out.kept hg5 (Nat.lt_succ_self _)
    obtain ⟨A6, c6, e6, hI6, _⟩ := HI3b
    cases e6
    obtain ⟨A5, c5, rfl, hI5, _⟩ := hi5
    have hc5b := HC0.out.hop HC3.out hg5 (fun g e => by cases e; exact Nat.le_refl _)
    have HB5 := Lib.hid (HB3.out.grown hg5 HB3.out.size (fun k hk => by cases hk; exact hws.out))
    have f1 := hc5.ca
    have f2 := hc5.ce
    have fz := hc5.lt
    have HSm := Lib.hid (fun g : Gr w5 => bsame_any A3 A5 c3 c5 vs5 vs5 g.1 (hI6.grow g.2) (hI5.grow g.2) (by omega) (by omega))
    rw [show decide (vs5 = vs5) = true from decide_eq_true rfl] at HSm
    have HE5 := Lib.hid (fun g : Gr w5 => cerr_any (hc5b.grow g.2))
    have HA5 := Lib.hid (fun g : Gr w5 => cat_any (hc5b.grow g.2))
    clear hc5 ho5 ho hI6 hI5 hc5b hrest
    by_cases he : e5 = 0
    · have hm9 := hmm he
      subst he
      subst hm9
      have q3 : ((m5 : Int) == (m5 : Int)) = true := by simp
      have fz9 : w1.heap.size < w5.heap.size := fz
      clear hmm
      go_wp2_with fail
      refine wp_region_grow (by kernel_rfl) (by kernel_rfl) ?_
      repeat (go_big_quiet_step ((first | (go_at_call 12; with_reducible exact Gr.call (HSm.out _)) | (go_at_call 14; exact Gr.same ((HE5.out _).mono fun _ _ h => ⟨h.1, h.2.symm⟩)) | (go_at_call 20; exact Gr.same ((HA5.out _).mono fun _ _ h => ⟨h.1, h.2.symm⟩)))))
      refine wpQuiet_nil ?_
      intro g1
      obtain ⟨w1, hb1⟩ := g1
      have HB6 := Lib.hid (Below.after' HB5.out hb1 (Nat.le_refl _))
      dsimp only
      clear hb1
      go_wp2_with fail
      go_ret
      exact ⟨rfl, HB6.out⟩
    · have q3 : (e5 == e5) = true := by simp
      have q4 : (e5 != 0) = true := by simpa using he
      clear hmm he
      have fz9 : w1.heap.size < w5.heap.size := fz
      go_wp2_with fail
      refine wp_region_grow (by kernel_rfl) (by kernel_rfl) ?_
      repeat (go_big_quiet_step ((first | (go_at_call 12; with_reducible exact Gr.call (HSm.out _)) | (go_at_call 14; exact Gr.same ((HE5.out _).mono fun _ _ h => ⟨h.1, h.2.symm⟩)) | (go_at_call 20; exact Gr.same ((HA5.out _).mono fun _ _ h => ⟨h.1, h.2.symm⟩)))))
      refine wpQuiet_nil ?_
      intro g1
      obtain ⟨w1, hb1⟩ := g1
      have HB6 := Lib.hid (Below.after' HB5.out hb1 (Nat.le_refl _))
      dsimp only
      clear hb1
      go_wp2_with fail
      go_ret
      exact ⟨rfl, HB6.out⟩
end Go.Proofs.Ytbdkoagagcemcaa
