/- The walks of layer 17: fields' descriptors. -/
import Derived.Test.YtdjdgipebonnaaaDoorWalksE
namespace Go.Proofs.YtdjdgipebonnaaaDoor
open Go.RowKit

theorem bs_mk (l : List UInt8) : (⟨l.toArray⟩ : ByteArray) = bs l := rfl
theorem drop_len (l : List UInt8) (n : Nat) : (bs l).extract n l.length = bs (l.drop n) := by rw [bs_extract, List.take_of_length_le (by simp)]

set_option maxHeartbeats 4000000 in
set_option maxRecDepth 100000 in
theorem field_any (l : List UInt8) (w : World) (hl : l.length ≤ 1000000000) (hm : MaxP w) :
    Calls Tryd.prog 15 #[.string (bs l)] w fun e w' => e = .returned (.bool (De.field l)) ∧ Below w.heap.size w w' := by
  have hz := bs_size l
  have H1 := Lib.hid (dims_any l w hl)
  have hd := De.dims_le l
  have he := drop_len l (De.dims l)
  have hzr := bs_size (l.drop (De.dims l))
  have hrl : (l.drop (De.dims l)).length ≤ 1000000000 := by rw [List.length_drop]; omega
  have hf : De.field l = (decide (De.dims l ≤ 255) && De.base (l.drop (De.dims l))) := rfl
  have HF := Lib.hid hf
  clear hf
  generalize hr : l.drop (De.dims l) = r at *
  generalize hn : De.dims l = n at *
  have HN := Lib.hid hn
  clear hr hn
  by_cases h255 : n ≤ 255
  · have hfin := Lib.hid (show De.field l = De.base r by rw [HF.out, decide_eq_true h255]; rfl)
    by_cases h1 : r.length = 1
    · obtain ⟨c, hc⟩ : ∃ c, r = [c] := by
        match r, h1 with
        | [c], _ => exact ⟨c, rfl⟩
      subst hc
      have H2 := calls_keep (Tryd.strings_Contains_one (bs [66, 67, 68, 70, 73, 74, 83, 90]) c w)
      rw [bs_toList, De.prim_eq] at H2
      have HC := Lib.hid H2
      clear H2 h1 HF
      go_enter Tryd.func15, Tryd.ntmps15
      go_wp2_with fail
      refine H1.out.mono ?_
      rintro e w' ⟨rfl, rfl⟩
      go_wp2_with fail
      refine HC.out.mono ?_
      rintro e w' ⟨rfl, rfl⟩
      go_wp2
      go_ret
      exact ⟨ret_bool (by rw [hfin.out]; rfl), Below.refl _ _⟩
    · have hq : ((r.length : Int) == 1) = false := by simp; omega
      have hb := De.base_gen h1
      have H2 := calls_keep (Tryd.strings_CutPrefix (bs r) ⟨#[76]⟩ w)
      have hTl : (Lib.trimPrefix r [76]).length ≤ r.length := by unfold Lib.trimPrefix; split <;> simp
      have H3 := calls_keep (Tryd.strings_CutSuffix (bs (Lib.trimPrefix r [76])) ⟨#[59]⟩ w (by rw [bs_size]; omega))
      have hUl : (Lib.trimSuffix (Lib.trimPrefix r [76]) [59]).length ≤ (Lib.trimPrefix r [76]).length := by unfold Lib.trimSuffix; split <;> simp
      have H4 := Lib.hid (class_any (Lib.trimSuffix (Lib.trimPrefix r [76]) [59]) w (by omega) hm)
      rw [bs_toList, show ((⟨#[76]⟩ : ByteArray).data.toList) = [76] from rfl, bs_mk] at H2
      rw [bs_toList, show ((⟨#[59]⟩ : ByteArray).data.toList) = [59] from rfl, bs_mk] at H3
      have H2' := Lib.hid H2
      have H3' := Lib.hid H3
      have HB := Lib.hid hb
      clear H2 H3 h1 HF hb hTl hUl
      cases hp : Lib.hasPrefix r [76]
      · have hfin2 := Lib.hid (show De.field l = false by rw [hfin.out, HB.out, hp]; rfl)
        rw [hp] at H2'
        clear hp
        go_enter Tryd.func15, Tryd.ntmps15
        go_wp2_with fail
        refine H1.out.mono ?_
        rintro e w' ⟨rfl, rfl⟩
        go_wp2_with fail
        refine H2'.out.mono ?_
        rintro e w' ⟨rfl, rfl⟩
        go_wp2_with fail
        refine H3'.out.mono ?_
        rintro e w' ⟨rfl, rfl⟩
        go_wp2
        go_ret
        exact ⟨ret_bool hfin2.out.symm, Below.refl _ _⟩
      · rw [hp] at H2'
        cases hs : Lib.hasSuffix (Lib.trimPrefix r [76]) [59]
        · have hfin2 := Lib.hid (show De.field l = false by rw [hfin.out, HB.out, hp, hs]; rfl)
          rw [hs] at H3'
          clear hp hs
          go_enter Tryd.func15, Tryd.ntmps15
          go_wp2_with fail
          refine H1.out.mono ?_
          rintro e w' ⟨rfl, rfl⟩
          go_wp2_with fail
          refine H2'.out.mono ?_
          rintro e w' ⟨rfl, rfl⟩
          go_wp2_with fail
          refine H3'.out.mono ?_
          rintro e w' ⟨rfl, rfl⟩
          go_wp2
          go_ret
          exact ⟨ret_bool hfin2.out.symm, Below.refl _ _⟩
        · have hfin2 := Lib.hid (show De.field l = De.cls (Lib.trimSuffix (Lib.trimPrefix r [76]) [59]) by rw [hfin.out, HB.out, hp, hs]; rfl)
          rw [hs] at H3'
          clear hp hs
          go_enter Tryd.func15, Tryd.ntmps15
          go_wp2_with fail
          refine H1.out.mono ?_
          rintro e w' ⟨rfl, rfl⟩
          go_wp2_with fail
          refine H2'.out.mono ?_
          rintro e w' ⟨rfl, rfl⟩
          go_wp2_with fail
          refine H3'.out.mono ?_
          rintro e w' ⟨rfl, rfl⟩
          go_wp2_with fail
          refine H4.out.mono ?_
          rintro e w' ⟨rfl, hb⟩
          go_wp2
          go_ret
          exact ⟨ret_bool hfin2.out.symm, hb⟩
  · have hfin := Lib.hid (show De.field l = false by rw [HF.out, decide_eq_false h255]; rfl)
    clear HF
    go_enter Tryd.func15, Tryd.ntmps15
    go_wp2_with fail
    refine H1.out.mono ?_
    rintro e w' ⟨rfl, rfl⟩
    go_wp2
    go_ret
    exact ⟨ret_bool hfin.out.symm, Below.refl _ _⟩
end Go.Proofs.YtdjdgipebonnaaaDoor
