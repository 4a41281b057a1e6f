/- The walk of layer 25: joining. -/
import Derived.Test.YteegpbdkalpeiaaPlainB
import Derived.Deep.OwnRows
namespace Go.Proofs.Yteegpbdkalpeiaa
open Go.RowKit Go.Maps

/-- What the call comes to. -/
def JoinRes (fs ts rs : List Int) (w : World) (e : Ending) (w' : World) : Prop :=
  ∃ A c, e = .returned (.tuple #[.slice A (Po.out fs ts rs).length c, .int .i64 (Po.err fs ts rs)]) ∧ Ints w' A c (Po.out fs ts rs) ∧ Below w.heap.size w w'
theorem Ints.next {w : World} {A : Option Addr} {c : Nat} {x : Int} {xs : List Int} (h : Ints w A c (x :: xs)) : ∃ g o, A = some ⟨g, o, none⟩ ∧ g < w.heap.size ∧ w.cell? ⟨g, o, none⟩ = some (.int .i64 x) ∧ xs.length + 1 ≤ c ∧ Ints w (if c = 1 then some ⟨g, o, none⟩ else some ⟨g, o + 1, none⟩) (c - 1) xs := by
  obtain ⟨g, o, rfl, hg, hc⟩ := h.2 (by simp)
  have h1 := h.1
  rw [List.length_cons] at h1
  refine ⟨g, o, rfl, hg, by simpa using hc 0 x (by simp), h1, by omega, fun hp => ?_⟩
  rw [if_neg (by omega)]
  refine ⟨g, o + 1, rfl, hg, fun j y hy => ?_⟩
  have := hc (j + 1) y (by simpa using hy)
  rw [show o + 1 + j = o + (j + 1) from by omega]
  exact this
theorem drop_at {α : Type} {l : List α} {i : Nat} {x : α} (h : l[i]? = some x) : l.drop i = x :: l.drop (i + 1) := by
  obtain ⟨h3, rfl⟩ := List.getElem?_eq_some_iff.1 h
  exact List.drop_eq_getElem_cons h3
/-- One number more is stored. -/
theorem row_step {w : World} {b n i : Nat} {t : TypeId} {f : Nat → Int} {y : Int} (h : w.rowIs b t n (fun j => if j < i then .int .i64 (f j) else .int .i64 0)) (hy : f i = y) :
    (w.setCell ⟨b, i, none⟩ (.int .i64 y)).rowIs b t n (fun j => if j < i + 1 then .int .i64 (f j) else .int .i64 0) :=
  (h.set i _).congr (fun j _ => by
    by_cases e : j = i
    · subst e; simp [hy]
    · rw [if_neg e]
      by_cases h1 : j < i
      · rw [if_pos h1, if_pos (by omega)]
      · rw [if_neg h1, if_neg (by omega)])

set_option maxHeartbeats 8000000 in
set_option maxRecDepth 100000 in
theorem join_any (A B C : Option Addr) (c d k : Nat) (fs ts rs : List Int) (w : World) (hx : Ints w A c fs) (hy : Ints w B d ts) (hz : Ints w C k rs) (hI : ∀ x ∈ fs, I64 x) (hJ : ∀ x ∈ rs, I64 x)
    (hn : fs.length ≤ 100000) (hm : ts.length ≤ 100000) (hl : rs.length ≤ 100000) :
    Calls Try.prog 12 #[.slice A fs.length c, .slice B ts.length d, .slice C rs.length k] w (JoinRes fs ts rs w) := by
  have HX := Lib.hid hx
  have HY := Lib.hid hy
  have HZ := Lib.hid hz
  have HPL := Lib.hid (check_any A B C c d k fs ts rs w hx hy hz hI hJ hn hm hl)
  clear hx hy hz hI hJ
  by_cases h0 : Po.err fs ts rs = 0
  rotate_left
  · have q : (Po.err fs ts rs != 0) = true := by simp [h0]
    have hfin := Lib.hid (show Po.out fs ts rs = [] from if_neg h0)
    clear h0 HX HY HZ
    go_enter Try.func12, Try.ntmps12
    go_wp2_with fail
    refine HPL.out.mono ?_
    rintro e w0 ⟨rfl, hb0⟩
    have HB0 := Lib.hid hb0
    clear hb0 HPL
    go_wp2
    go_ret2
    exact ⟨none, 0, by rw [hfin.out]; rfl, by rw [hfin.out]; exact Ints.nil _ _ _, HB0.out⟩
  · have hE := Lib.hid (Po.err_zero h0)
    have hfin := Lib.hid (show Po.out fs ts rs = Po.rowN fs ts rs ts.length from if_pos h0)
    have hE0 := Lib.hid h0
    rw [h0] at HPL
    clear h0
    have hmk := run_make_row' (P := Try.prog) 22 3 (.int .i64 0) 8 Try.underlying22 infoInt rfl .i64 .i64 ts.length (by omega) (by omega)
    go_enter Try.func12, Try.ntmps12
    go_wp2_with fail
    refine HPL.out.mono ?_
    rintro e w0 ⟨rfl, hb0⟩
    have HB0 := Lib.hid hb0
    clear hb0 HPL
    go_wp2_with fail
    go_loopw [2, 24] (fun v u wr => ∃ i : Nat, i ≤ ts.length ∧ u = .int .i64 i ∧ (∃ A' c', v = .slice A' (rs.drop ((ts.take i).count 0)).length c' ∧ Ints w0 A' c' (rs.drop ((ts.take i).count 0))) ∧ wr.rowIs w0.heap.size 3 ts.length (fun j => if j < i then .int .i64 (Po.el fs ts rs j) else .int .i64 0) ∧ Below w0.heap.size w0 wr) (fun _ u _ => ts.length - (intOf u).toNat)
    case atStart => exact ⟨0, Nat.zero_le _, rfl, ⟨C, k, rfl, HZ.out.grow HB0.out⟩, (World.rowIs_made w0 (.int .i64 0) ts.length 3).congr (fun j _ => by simp), (Below.refl _ _).alloc (Nat.le_refl _) _⟩
    case round =>
      obtain ⟨i, hil, rfl, ⟨A', c', rfl, hrest⟩, hrow, hB⟩ := hrel
      have HB := Lib.hid hB
      have HR := Lib.hid hrest
      have HO := Lib.hid hrow
      have HW := Lib.hid (Below.after' HB0.out hB (Nat.le_refl _))
      by_cases h1 : i < ts.length
      · obtain ⟨g, o, x, rfl, hg, hxi, hct⟩ := (HY.out.grow HW.out).at_ h1
        have hxr := Po.bad_at hE.out.1 hxi
        have hcs := Lib.hid (Po.count_step hxi)
        have hcell := hrow.cell h1
        have hfr := hrow.frozen i
        rw [if_neg (Nat.lt_irrefl i)] at hcell
        have HXI := Lib.hid hxi
        clear hB hrest hrow hxi
        by_cases hx0 : x = 0
        · subst hx0
          have q : decide ((0 : Int) < 0) = false := rfl
          have hrm := Po.room HXI.out
          rw [hE.out.2.2] at hrm
          have hcs2 := Lib.hid (hcs.out.trans (by rw [if_pos rfl]))
          obtain ⟨y, hyr⟩ : ∃ y, rs[(ts.take i).count 0]? = some y := ⟨_, List.getElem?_eq_getElem hrm⟩
          have hdr := drop_at hyr
          have hel := Lib.hid (Po.el_rest (fs := fs) HXI.out hyr)
          have hR2 := HR.out
          rw [hdr] at hR2 ⊢
          obtain ⟨g2, o2, rfl, hg2, hc2, hcap, hnx⟩ := hR2.next
          have hcell2 : wr.cell? ⟨g2, o2, none⟩ = some (.int .i64 y) := (HB.out.cell (p := ⟨g2, o2, none⟩) hg2).trans hc2
          have HN := Lib.hid hnx
          have HS := Lib.hid (row_step HO.out hel.out)
          have HD := Lib.hid (HB.out.setCell (p := ⟨w0.heap.size, i, none⟩) (Nat.le_refl _) (.int .i64 y))
          rw [← hcs2.out] at HN ⊢
          clear HR hc2 hR2 hdr hyr hcs hnx hg2
          generalize hrr : rs.drop ((ts.take (i + 1)).count 0) = rs2 at *
          have HRR := Lib.hid hrr
          clear hrr
          simp only [List.length_cons]
          go_wp2_with fail
          go_region
          all_goals go_wp2
          all_goals go_roundw
          case rel => exact ⟨i + 1, by omega, by go_num, ⟨_, _, by rw [HRR.out], by rw [HRR.out]; exact HN.out⟩, HS.out, HD.out.drew⟩
          case measure => simp [intOf]; omega
        · obtain ⟨m, rfl⟩ : ∃ m : Nat, x = ((m + 1 : Nat) : Int) := ⟨(x - 1).toNat, by omega⟩
          have q : decide ((0 : Int) < ((m + 1 : Nat) : Int)) = true := by simp
          obtain ⟨g2, o2, y, rfl, hg2, hyr, hcell2⟩ := (HX.out.grow HW.out).at_ (i := m) (by omega)
          have ek : ((m + 1 : Nat) : Int) - 1 = (m : Int) := by omega
          have hel := Lib.hid (Po.el_place (rs := rs) HXI.out hyr)
          have hcs2 := Lib.hid (hcs.out.trans (by rw [if_neg hx0, Nat.add_zero]))
          have HS := Lib.hid (row_step HO.out hel.out)
          have HD := Lib.hid (HB.out.setCell (p := ⟨w0.heap.size, i, none⟩) (Nat.le_refl _) (.int .i64 y))
          have hmf : m < fs.length := by omega
          rw [← hcs2.out] at HR ⊢
          generalize hrr : rs.drop ((ts.take (i + 1)).count 0) = rs2 at *
          have HRR := Lib.hid hrr
          clear hrr hcs hyr hxr hx0
          go_wp2_with fail
          go_roundw
          case rel => exact ⟨i + 1, by omega, by go_num, ⟨_, _, by rw [HRR.out], by rw [HRR.out]; exact HR.out⟩, HS.out, HD.out⟩
          case measure => simp [intOf]; omega
      · have hii : i = ts.length := by omega
        subst hii
        have hrd : Ints wr (some ⟨w0.heap.size, 0, none⟩) ts.length (Po.rowN fs ts rs ts.length) := ⟨by rw [Po.rowN_length]; exact Nat.le_refl _, fun _ => ⟨w0.heap.size, 0, rfl, hrow.lt, fun j x hx => by
          obtain ⟨h3, rfl⟩ := Po.rowN_get _ _ _ _ _ _ hx
          rw [Nat.zero_add, hrow.cell h3, if_pos h3]⟩⟩
        have HF := Lib.hid hrd
        clear hrest hrow hrd hB HR HO
        go_wp2
        go_ret2
        exact ⟨_, _, by rw [hfin.out, Po.rowN_length, hE0.out]; rfl, by rw [hfin.out]; exact HF.out, HW.out⟩
end Go.Proofs.Yteegpbdkalpeiaa
