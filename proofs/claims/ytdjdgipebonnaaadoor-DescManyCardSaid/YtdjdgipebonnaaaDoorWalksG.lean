/- The walks of layer 17's reference: fields' descriptors. -/
import Derived.Test.YtdjdgipebonnaaaDoorWalksF
namespace Go.Proofs.YtdjdgipebonnaaaDoor
open Go.RowKit

theorem has_one (chars : List UInt8) (c : UInt8) : De.has chars [c] = chars.contains c := by simp [De.has]
theorem last_at {c d : UInt8} {t : List UInt8} : ∃ y, (c :: d :: t)[(c :: d :: t).length - 1]? = some y ∧ (d :: t).getLast? = some y := by
  refine ⟨(d :: t).getLast (by simp), ?_, List.getLast?_eq_some_getLast (by simp)⟩
  have := List.getLast?_eq_getElem? (l := d :: t)
  rw [List.getLast?_eq_some_getLast (by simp)] at this
  simp only [List.length_cons] at this ⊢
  rw [show t.length + 1 + 1 - 1 = (t.length + 1 - 1) + 1 by omega, List.getElem?_cons_succ]
  exact this.symm
theorem mid_cut (c d : UInt8) (t : List UInt8) : (bs (c :: d :: t)).extract 1 ((c :: d :: t).length - 1) = bs (d :: t).dropLast := by
  rw [bs_extract, List.dropLast_eq_take]
  simp

set_option maxHeartbeats 8000000 in
set_option maxRecDepth 100000 in
theorem rfield_any (l : List UInt8) (w : World) (hl : l.length ≤ 1000000000) :
    Calls Tryd.prog 16 #[.string (bs l)] w fun e w' => e = .returned (.bool (De.field l)) ∧ Below w.heap.size w w' := by
  have hz := bs_size l
  have H1 := Lib.hid (rdims_any l w hl)
  have hd := De.dims_le l
  have he := drop_len l (De.dims l)
  have hzr := bs_size (l.drop (De.dims l))
  have hrl : (l.drop (De.dims l)).length = l.length - De.dims l := List.length_drop
  have hf : De.field l = (decide (De.dims l ≤ 255) && De.base (l.drop (De.dims l))) := rfl
  have HF := Lib.hid hf
  clear hf
  generalize hr : l.drop (De.dims l) = r at *
  generalize hn : De.dims l = n at *
  clear hr hn
  by_cases h255 : n ≤ 255
  · have hfin := Lib.hid (show De.field l = De.base r by rw [HF.out, decide_eq_true h255]; rfl)
    have d1 : decide ((255 : Int) < n) = false := decide_eq_false (by omega)
    match r with
    | [] =>
      have hq : ((n : Int) == l.length) = true := by simp at hrl ⊢; omega
      go_enter Tryd.func16, Tryd.ntmps16
      go_wp2_with fail
      refine H1.out.mono ?_
      rintro e w' ⟨rfl, rfl⟩
      go_wp2
      go_ret
      exact ⟨ret_bool hfin.out.symm, Below.refl _ _⟩
    | [c] =>
      have hq : ((n : Int) == l.length) = false := by have h := hrl; simp only [List.length_cons, List.length_nil] at h; rw [beq_eq_false_iff_ne]; omega
      have H2 := Lib.hid (without_any [c] [66, 67, 68, 70, 73, 74, 83, 90] w (by simp) (by simp))
      have hfin2 := Lib.hid (show De.field l = De.has [66, 67, 68, 70, 73, 74, 83, 90] [c] by rw [hfin.out, has_one]; rfl)
      have hb1 : (bs [c]).size = 1 := rfl
      clear HF hrl
      go_enter Tryd.func16, Tryd.ntmps16
      go_wp2_with fail
      refine H1.out.mono ?_
      rintro e w' ⟨rfl, rfl⟩
      go_wp2_with fail
      refine H2.out.mono ?_
      rintro e w' ⟨rfl, hb⟩
      go_wp2
      go_ret
      exact ⟨ret_bool (by rw [hfin2.out]), hb⟩
    | c :: d :: t =>
      have hq : ((n : Int) == l.length) = false := by simp at hrl ⊢; omega
      obtain ⟨y, hy1, hy2⟩ := last_at (c := c) (d := d) (t := t)
      have i0 := fun x => bs_index (c :: d :: t) 0 c rfl .i64 0 rfl x
      have hM := mid_cut c d t
      have hcl := fun w' => rclass_any (d :: t).dropLast w' (by rw [List.length_dropLast]; simp at hrl ⊢; omega)
      have hb := De.base_two c d t
      rw [hy2] at hb
      have hlen2 : 2 ≤ (c :: d :: t).length := by simp
      have hlen3 : (c :: d :: t).length ≤ 1000000000 := by omega
      generalize (d :: t).dropLast = M at *
      generalize c :: d :: t = r at *
      have il := fun x => bs_index r (r.length - 1) y hy1 .i64 ((r.length : Int) - 1) (by omega) x
      have e1 : ((r.length : Int) - 1).toNat = r.length - 1 := by omega
      have HCL := Lib.hid hcl
      have HB := Lib.hid hb
      have hq1 : ((r.length : Int) == 1) = false := by simp; omega
      clear hcl hb hy1 hy2 hrl HF
      by_cases hc : c = 76
      · have c1 : ((c.toNat : Int) == 76) = true := by rw [hc]; rfl
        by_cases hs : y = 59
        · have c2 : ((y.toNat : Int) == 59) = true := by rw [hs]; rfl
          have hfin2 := Lib.hid (show De.field l = De.cls M by rw [hfin.out, HB.out, decide_eq_true hc, hs]; simp)
          clear hc hs
          go_enter Tryd.func16, Tryd.ntmps16
          go_wp2_with fail
          refine H1.out.mono ?_
          rintro e w' ⟨rfl, rfl⟩
          go_wp2_with fail
          refine (HCL.out _).mono ?_
          rintro e w' ⟨rfl, hb⟩
          go_wp2
          go_ret
          exact ⟨ret_bool hfin2.out.symm, hb⟩
        · have c2 : ((y.toNat : Int) == 59) = false := by rw [beq_eq_false_iff_ne]; intro h; exact hs (UInt8.toNat_inj.1 (by show y.toNat = 59; omega))
          have hfin2 := Lib.hid (show De.field l = false by rw [hfin.out, HB.out, decide_eq_true hc]; simp [hs])
          clear hc hs
          go_enter Tryd.func16, Tryd.ntmps16
          go_wp2_with fail
          refine H1.out.mono ?_
          rintro e w' ⟨rfl, rfl⟩
          go_wp2
          go_ret
          exact ⟨ret_bool hfin2.out.symm, Below.refl _ _⟩
      · have c1 : ((c.toNat : Int) == 76) = false := by rw [beq_eq_false_iff_ne]; intro h; exact hc (UInt8.toNat_inj.1 (by show c.toNat = 76; omega))
        have hfin2 := Lib.hid (show De.field l = false by rw [hfin.out, HB.out, decide_eq_false hc]; rfl)
        clear hc
        go_enter Tryd.func16, Tryd.ntmps16
        go_wp2_with fail
        refine H1.out.mono ?_
        rintro e w' ⟨rfl, rfl⟩
        go_wp2
        go_ret
        exact ⟨ret_bool hfin2.out.symm, Below.refl _ _⟩
  · have hfin := Lib.hid (show De.field l = false by rw [HF.out, decide_eq_false h255]; rfl)
    have d1 : decide ((255 : Int) < n) = true := decide_eq_true (by omega)
    clear HF
    go_enter Tryd.func16, Tryd.ntmps16
    go_wp2_with fail
    refine H1.out.mono ?_
    rintro e w' ⟨rfl, rfl⟩
    go_wp2
    go_ret
    exact ⟨ret_bool hfin.out.symm, Below.refl _ _⟩
end Go.Proofs.YtdjdgipebonnaaaDoor
