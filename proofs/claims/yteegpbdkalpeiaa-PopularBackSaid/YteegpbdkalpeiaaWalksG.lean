/- The walk of layer 25's reference: joining. -/
import Derived.Test.YteegpbdkalpeiaaWalksF
namespace Go.Proofs.Yteegpbdkalpeiaa
open Go.RowKit Go.Maps

theorem joinRes_err {fs ts rs : List Int} {w w' : World} {e : Ending} {v : Int} (h : Po.err fs ts rs = v) (hv : v ≠ 0) (he : e = .returned (.tuple #[.slice none 0 0, .int .i64 v])) (hB : Below w.heap.size w w') : JoinRes fs ts rs w e w' :=
  ⟨none, 0, by rw [he, h, show Po.out fs ts rs = [] from if_neg (by rw [h]; exact hv)]; rfl, by rw [show Po.out fs ts rs = [] from if_neg (by rw [h]; exact hv)]; exact Ints.nil _ _ _, hB⟩

set_option maxHeartbeats 8000000 in
set_option maxRecDepth 100000 in
theorem rjoin_any (A B C : Option Addr) (c d k : Nat) (fs ts rs : List Int) (w : World) (hx : Ints w A c fs) (hy : Ints w B d ts) (hz : Ints w C k rs)
    (hn : fs.length ≤ 100000) (hm : ts.length ≤ 100000) (hl : rs.length ≤ 100000) :
    Calls Try.prog 13 #[.slice A fs.length c, .slice B ts.length d, .slice C rs.length k] w (JoinRes fs ts rs w) := by
  have HX := Lib.hid hx
  have HY := Lib.hid hy
  have HZ := Lib.hid hz
  have HCf := Lib.hid (fun v => count_any A c fs v w hx (by omega))
  have HCt := Lib.hid (count_any B d ts 0 w hy (by omega))
  have HCr := Lib.hid (fun v => count_any C k rs v w hz (by omega))
  clear hx hy hz
  go_enter Try.func13, Try.ntmps13
  go_wp2_with fail
  go_loop [17] (fun u => ∃ i : Nat, i ≤ ts.length ∧ u = .int .i64 i ∧ Po.bad fs (ts.take i) = false) (fun u => ts.length - (intOf u).toNat)
  case atStart => exact ⟨0, Nat.zero_le _, rfl, rfl⟩
  case round =>
    obtain ⟨i, hil, rfl, hbad⟩ := hrel
    have HN := Lib.hid hbad
    by_cases h1 : i < ts.length
    · obtain ⟨g, o, x, rfl, hg, hxi, hct⟩ := HY.out.at_ h1
      have htk := Lib.hid (take_snocI ts i x hxi)
      have hmem := Lib.hid (List.mem_of_getElem? hxi)
      have hbd := Lib.hid (show Po.bad fs (ts.take (i + 1)) = (decide (x < 0) || decide ((fs.length : Int) < x)) by
        rw [htk.out]; unfold Po.bad; rw [List.any_append]
        have := HN.out; unfold Po.bad at this; rw [this]; simp)
      clear hxi hbad
      by_cases hneg : x < 0
      · have q : decide (x < 0) = true := by simp [hneg]
        have hfin := Lib.hid (show Po.err fs ts rs = 5 from if_pos (List.any_eq_true.2 ⟨x, hmem.out, by simp [hneg]⟩))
        clear hneg
        go_wp2
        go_ret2
        exact joinRes_err hfin.out (by omega) rfl (Below.refl _ _)
      · have q : decide (x < 0) = false := by simp [hneg]
        by_cases hbig : (fs.length : Int) < x
        · have q2 : decide ((fs.length : Int) < x) = true := by simp [hbig]
          have hfin := Lib.hid (show Po.err fs ts rs = 5 from if_pos (List.any_eq_true.2 ⟨x, hmem.out, by simp [hbig]⟩))
          clear hneg hbig
          go_wp2
          go_ret2
          exact joinRes_err hfin.out (by omega) rfl (Below.refl _ _)
        · have q2 : decide ((fs.length : Int) < x) = false := by simp [hbig]
          have hnb := Lib.hid (hbd.out.trans (by rw [q, q2, Bool.or_false]))
          clear hneg hbig
          go_wp2
          go_round
          case rel => exact ⟨i + 1, by omega, by go_num, hnb.out⟩
          case measure => simp [intOf]; omega
    · have hfin : ts.take i = ts := List.take_of_length_le (by omega)
      rw [hfin] at hbad
      have HBAD := Lib.hid hbad
      have HE := Lib.hid (show Po.err fs ts rs = if Po.twice fs rs then 10 else if rs.length < ts.count 0 then 6 else if ts.count 0 < rs.length then 2 else 0 from if_neg (by rw [hbad]; simp))
      clear hfin hbad HN
      go_wp2_with fail
      go_loop [32] (fun u => ∃ j : Nat, j ≤ fs.length ∧ u = .int .i64 j ∧ ∀ f ∈ fs.take j, ¬ (fs.count f > 1 ∨ rs.count f > 0)) (fun u => fs.length - (intOf u).toNat)
      case atStart => exact ⟨0, Nat.zero_le _, rfl, fun f hf => by simp at hf⟩
      case round =>
        obtain ⟨j, hjl, rfl, hno⟩ := hrel
        have HN := Lib.hid hno
        by_cases h2 : j < fs.length
        · obtain ⟨g, o, f, rfl, hg, hfi, hcf⟩ := HX.out.at_ h2
          have hmem := Lib.hid (List.mem_of_getElem? hfi)
          have htk := Lib.hid (take_snocI fs j f hfi)
          have hce : fs.count f ≤ 1000000 := Nat.le_trans List.count_le_length (by omega)
          have hcr : rs.count f ≤ 1000000 := Nat.le_trans List.count_le_length (by omega)
          clear hfi hno
          have hF := Lib.hid (HCf.out f)
          have hR := Lib.hid (HCr.out f)
          generalize hcm : rs.count f = m at hR hcr
          generalize hcn : fs.count f = n at hF hce
          have HCM := Lib.hid hcm
          have HCN := Lib.hid hcn
          clear hcm hcn
          by_cases hg1 : 1 < n
          · have q : decide (1 < n) = true := by simp [hg1]
            have q' : decide ((1 : Int) < ((n : Nat) : Int)) = true := by simp; omega
            have hfin := Lib.hid (HE.out.trans (if_pos ((Po.twice_iff fs rs).2 ⟨f, hmem.out, .inl (by rw [HCN.out]; exact hg1)⟩)))
            clear hg1
            go_wp2_with fail
            refine hF.out.mono ?_
            rintro e w' ⟨rfl, rfl⟩
            go_wp2
            go_ret2
            exact joinRes_err hfin.out (by omega) rfl (Below.refl _ _)
          · have q : decide (1 < n) = false := by simp; omega
            have q' : decide ((1 : Int) < ((n : Nat) : Int)) = false := by simp; omega
            by_cases hg2 : 0 < m
            · have q2 : decide (0 < m) = true := by simp; omega
              have q2' : decide ((0 : Int) < ((m : Nat) : Int)) = true := by simp; omega
              have hfin := Lib.hid (HE.out.trans (if_pos ((Po.twice_iff fs rs).2 ⟨f, hmem.out, .inr (by rw [HCM.out]; exact hg2)⟩)))
              clear hg1 hg2
              go_wp2_with fail
              refine hF.out.mono ?_
              rintro e w' ⟨rfl, rfl⟩
              go_wp2_with fail
              refine hR.out.mono ?_
              rintro e w' ⟨rfl, rfl⟩
              go_wp2
              go_ret2
              exact joinRes_err hfin.out (by omega) rfl (Below.refl _ _)
            · have q2 : decide (0 < m) = false := decide_eq_false hg2
              have q2' : decide ((0 : Int) < ((m : Nat) : Int)) = false := decide_eq_false (by omega)
              have hnx := Lib.hid (show ∀ y ∈ fs.take (j + 1), ¬ (fs.count y > 1 ∨ rs.count y > 0) from fun y hy => by
                rw [htk.out, List.mem_append] at hy
                rcases hy with h | h
                · exact HN.out y h
                · rw [List.mem_singleton] at h; subst h; rw [HCN.out, HCM.out]; omega)
              clear hg1 hg2
              go_wp2_with fail
              refine hF.out.mono ?_
              rintro e w' ⟨rfl, rfl⟩
              go_wp2_with fail
              refine hR.out.mono ?_
              rintro e w' ⟨rfl, rfl⟩
              go_wp2
              go_round
              case rel => exact ⟨j + 1, by omega, by go_num, hnx.out⟩
              case measure => simp [intOf]; omega
        · have hfin : fs.take j = fs := List.take_of_length_le (by omega)
          rw [hfin] at hno
          have htw : Po.twice fs rs = false := by
            cases h : Po.twice fs rs with
            | false => rfl
            | true => obtain ⟨f, hf, h2⟩ := (Po.twice_iff fs rs).1 h; exact absurd h2 (hno f hf)
          have HE2 := Lib.hid (HE.out.trans (if_neg (by rw [htw]; simp)))
          have hct : ts.count 0 ≤ 1000000 := Nat.le_trans List.count_le_length (by omega)
          clear htw hno hfin HN HE
          have hT := Lib.hid HCt.out
          generalize hcz : ts.count 0 = z at hT hct
          have HCZ := Lib.hid hcz
          rw [hcz] at HE2
          clear hcz
          by_cases hlt : rs.length < z
          · have q : decide (rs.length < z) = true := by simp [hlt]
            have hfin2 := Lib.hid (HE2.out.trans (if_pos hlt))
            clear hlt
            go_wp2_with fail
            refine hT.out.mono ?_
            rintro e w' ⟨rfl, rfl⟩
            go_wp2
            go_ret2
            exact joinRes_err hfin2.out (by omega) rfl (Below.refl _ _)
          · have q : decide (rs.length < z) = false := by simp [hlt]
            by_cases hgt : z < rs.length
            · have q2 : decide (z < rs.length) = true := by simp [hgt]
              have hfin2 := Lib.hid (HE2.out.trans ((if_neg hlt).trans (if_pos hgt)))
              clear hlt hgt
              go_wp2_with fail
              refine hT.out.mono ?_
              rintro e w' ⟨rfl, rfl⟩
              go_wp2_with fail
              refine hT.out.mono ?_
              rintro e w' ⟨rfl, rfl⟩
              go_wp2
              go_ret2
              exact joinRes_err hfin2.out (by omega) rfl (Below.refl _ _)
            · have q2 : decide (z < rs.length) = false := by simp [hgt]
              have hE0 := Lib.hid (HE2.out.trans ((if_neg hlt).trans (if_neg hgt)))
              have hfin2 := Lib.hid (show Po.out fs ts rs = Po.rowN fs ts rs ts.length from if_pos hE0.out)
              have hzr := Lib.hid (show ts.count 0 = rs.length by rw [HCZ.out]; omega)
              clear hlt hgt HCf HCr HCt
              go_wp2_with fail
              refine hT.out.mono ?_
              rintro e w' ⟨rfl, rfl⟩
              go_wp2_with fail
              refine hT.out.mono ?_
              rintro e w' ⟨rfl, rfl⟩
              clear hT
              go_wp2_with fail
              go_loopw [2, 12, 59] (fun v a u wr => ∃ i : Nat, i ≤ ts.length ∧ u = .int .i64 i ∧ (∃ A' c', v = .slice A' (rs.drop ((ts.take i).count 0)).length c' ∧ Ints w A' c' (rs.drop ((ts.take i).count 0))) ∧ IRow wr w.heap.size a (Po.rowN fs ts rs i) ∧ Below w.heap.size w wr) (fun _ _ u _ => ts.length - (intOf u).toNat)
              case atStart => exact ⟨0, Nat.zero_le _, rfl, ⟨C, k, rfl, HZ.out⟩, IRow.nil _ _, Below.refl _ _⟩
              case round =>
                obtain ⟨i, hil, rfl, ⟨A', c', rfl, hrest⟩, hrow, hB⟩ := hrel
                have HB := Lib.hid hB
                have HR := Lib.hid hrest
                have HO := Lib.hid hrow
                have hln := Po.rowN_length fs ts rs i
                by_cases h3 : i < ts.length
                · obtain ⟨g, o, x, rfl, hg, hxi, hct2⟩ := (HY.out.grow hB).at_ h3
                  have hxr := Po.bad_at HBAD.out hxi
                  have hcs := Lib.hid (Po.count_step hxi)
                  have HXI := Lib.hid hxi
                  have hsz := HB.out.size
                  clear hB hrest hrow hxi
                  by_cases hx0 : x = 0
                  · subst hx0
                    have q : decide ((0 : Int) < 0) = false := rfl
                    have hrm := Po.room HXI.out
                    rw [hzr.out] at hrm
                    have hcs2 := Lib.hid (hcs.out.trans (by rw [if_pos rfl]))
                    obtain ⟨y, hyr⟩ : ∃ y, rs[(ts.take i).count 0]? = some y := ⟨_, List.getElem?_eq_getElem hrm⟩
                    have hdr := drop_at hyr
                    have hel := Lib.hid (Po.el_rest (fs := fs) HXI.out hyr)
                    have hR2 := HR.out
                    rw [hdr] at hR2 ⊢
                    obtain ⟨g2, o2, rfl, hg2, hc2, hcap, hnx⟩ := hR2.next
                    have hcell2 : wr.cell? ⟨g2, o2, none⟩ = some (.int .i64 y) := (HB.out.cell (p := ⟨g2, o2, none⟩) hg2).trans hc2
                    have HN := Lib.hid hnx
                    rw [← hcs2.out] at HN ⊢
                    have HS := Lib.hid (show Po.rowN fs ts rs (i + 1) = Po.rowN fs ts rs i ++ [y] by rw [Po.rowN_succ, hel.out])
                    clear HR hc2 hR2 hdr hyr hcs hnx hg2
                    generalize hrr : rs.drop ((ts.take (i + 1)).count 0) = rs2 at *
                    have HRR := Lib.hid hrr
                    clear hrr
                    simp only [List.length_cons]
                    go_wp2_with (at_builtin; refine wpList_app1 rfl _ _ rfl w.heap.size u12 _ rfl (HO.out.grow ((Below.refl _ _).alloc (Nat.le_refl _) _)) wr.heap.size y _ _ rfl (heap_alloc_new _ _) (by omega) (by simp; omega) ?_)
                    intro v' w1 hown1 hhop1
                    have hR1 := Lib.hid hown1
                    have HB1 := Lib.hid ((HO.out.grow ((Below.refl _ _).alloc (Nat.le_refl _) (.cells #[.int .i64 y] 3))).hop_below hhop1 (HB.out.alloc hsz _) (Nat.le_refl _) (Nat.le_refl _))
                    clear hown1 hhop1
                    go_wp2
                    go_roundw
                    case rel => exact ⟨i + 1, by omega, by go_num, ⟨_, _, by rw [HRR.out], by rw [HRR.out]; exact HN.out⟩, by rw [HS.out]; exact hR1.out, HB1.out⟩
                    case measure => simp [intOf]; omega
                  · obtain ⟨m, rfl⟩ : ∃ m : Nat, x = ((m + 1 : Nat) : Int) := ⟨(x - 1).toNat, by omega⟩
                    have q : decide ((0 : Int) < ((m + 1 : Nat) : Int)) = true := by simp
                    obtain ⟨g2, o2, y, rfl, hg2, hyr, hcell2⟩ := (HX.out.grow HB.out).at_ (i := m) (by omega)
                    have ek : ((m + 1 : Nat) : Int) - 1 = (m : Int) := by omega
                    have hel := Lib.hid (Po.el_place (rs := rs) HXI.out hyr)
                    have hcs2 := Lib.hid (hcs.out.trans (by rw [if_neg hx0, Nat.add_zero]))
                    have hmf : m < fs.length := by omega
                    have HS := Lib.hid (show Po.rowN fs ts rs (i + 1) = Po.rowN fs ts rs i ++ [y] by rw [Po.rowN_succ, hel.out])
                    rw [← hcs2.out] at HR ⊢
                    generalize hrr : rs.drop ((ts.take (i + 1)).count 0) = rs2 at *
                    have HRR := Lib.hid hrr
                    clear hrr hcs hyr hxr hx0
                    go_wp2_with (at_builtin; refine wpList_app1 rfl _ _ rfl w.heap.size u12 _ rfl (HO.out.grow ((Below.refl _ _).alloc (Nat.le_refl _) _)) wr.heap.size y _ _ rfl (heap_alloc_new _ _) (by omega) (by simp; omega) ?_)
                    intro v' w1 hown1 hhop1
                    have hR1 := Lib.hid hown1
                    have HB1 := Lib.hid ((HO.out.grow ((Below.refl _ _).alloc (Nat.le_refl _) (.cells #[.int .i64 y] 3))).hop_below hhop1 (HB.out.alloc hsz _) (Nat.le_refl _) (Nat.le_refl _))
                    clear hown1 hhop1
                    go_wp2
                    go_roundw
                    case rel => exact ⟨i + 1, by omega, by go_num, ⟨_, _, by rw [HRR.out], by rw [HRR.out]; exact HR.out⟩, by rw [HS.out]; exact hR1.out, HB1.out⟩
                    case measure => simp [intOf]; omega
                · have hii : i = ts.length := by omega
                  rw [hii] at hrow
                  obtain ⟨A2, c2, rfl, hrd⟩ := hrow.reads
                  rw [Po.rowN_length] at *
                  have HF := Lib.hid hrd
                  clear hrest hrow hrd hB HR HO
                  go_wp2
                  go_ret2
                  exact ⟨_, _, by rw [hfin2.out, Po.rowN_length, hE0.out]; rfl, by rw [hfin2.out]; exact HF.out, HB.out⟩
end Go.Proofs.Yteegpbdkalpeiaa
