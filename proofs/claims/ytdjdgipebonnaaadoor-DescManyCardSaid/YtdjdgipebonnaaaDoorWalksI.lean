/- The walks of layer 17: a descriptor from the front. -/
import Derived.Test.YtdjdgipebonnaaaDoorWalksH
import Derived.Test.YtdjdgipebonnaaaDoorPlainC
namespace Go.Proofs.YtdjdgipebonnaaaDoor
open Go.RowKit

theorem indexByte_ge (l : List UInt8) (c : UInt8) : -1 ≤ Lib.indexByte l c := by rw [← Lib.indexAny_one]; exact Lib.indexAny_ge _ _
theorem take_ext (l : List UInt8) (a : Nat) : (bs l).extract 0 a = bs (l.take a) := by rw [bs_extract]; simp

set_option maxHeartbeats 4000000 in
set_option maxRecDepth 100000 in
theorem cut_any (l : List UInt8) (w : World) (hl : l.length ≤ 1000000000) (hm : MaxP w) :
    Calls Tryd.prog 37 #[.string (bs l)] w fun e w' => e = .returned (.int .i64 (De.cut l : Nat)) ∧ Below w.heap.size w w' := by
  have hz := bs_size l
  have H1 := Lib.hid (dims_any l w hl)
  by_cases h1 : l.length ≤ De.dims l
  · have hR := Lib.hid (show De.cut l = 0 by unfold De.cut; rw [if_pos h1])
    clear hm
    go_enter Tryd.func37, Tryd.ntmps37
    go_wp2_with fail
    refine H1.out.mono ?_
    rintro e w' ⟨rfl, rfl⟩
    go_wp2
    go_ret
    exact ⟨ret_int (by rw [hR.out]; rfl), Below.refl _ _⟩
  · have hlt := De.cutAt_lt (Nat.lt_of_not_le h1)
    have hd : De.dims l < l.length := Nat.lt_of_not_le h1
    obtain ⟨c, hc⟩ : ∃ c, l[De.dims l]? = some c := ⟨_, List.getElem?_eq_getElem hd⟩
    have ic := fun x => bs_index l _ c hc .i64 _ rfl x
    have he := drop_len l (De.dims l)
    have H2 := calls_keep (Tryd.strings_IndexByte (bs (l.drop (De.dims l))) 59 w)
    rw [bs_toList, show ((59 : Int)).toNat.toUInt8 = 59 from rfl] at H2
    have HI := Lib.hid H2
    have hge := indexByte_ge (l.drop (De.dims l)) 59
    have hcut : De.cut l = if De.cutAt l < 0 then 0 else if De.field (l.take ((De.cutAt l).toNat + 1)) = true then (De.cutAt l).toNat + 1 else 0 := by unfold De.cut; rw [if_neg h1]
    have hAt : De.cutAt l = if c = 76 then De.dims l + Lib.indexByte (l.drop (De.dims l)) 59 else De.dims l := by unfold De.cutAt; rw [getD_of hc]
    have HC := Lib.hid hcut
    have HA := Lib.hid hAt
    have hA1 : -1 ≤ De.cutAt l := by rw [hAt]; split <;> omega
    have HF := Lib.hid fun a : Nat => field_any (l.take (a + 1)) w (by rw [List.length_take]; omega) hm
    clear H2 hm hc hcut hAt h1
    generalize hI : Lib.indexByte (l.drop (De.dims l)) 59 = I at *
    have HII := Lib.hid hI
    generalize hD : De.dims l = D at *
    have HDD := Lib.hid hD
    clear hI hD
    by_cases h76 : c = 76
    · have c1 : ((c.toNat : Int) == 76) = true := by rw [h76]; rfl
      have hA : De.cutAt l = (D : Int) + I := by rw [HA.out, if_pos h76]
      clear h76
      rw [hA] at hlt hA1
      by_cases hneg : (D : Int) + I < 0
      · have hR := Lib.hid (show De.cut l = 0 by rw [HC.out, hA, if_pos hneg])
        have HAA := Lib.hid hA
        clear hA
        go_enter Tryd.func37, Tryd.ntmps37
        go_wp2_with fail
        refine H1.out.mono ?_
        rintro e w' ⟨rfl, rfl⟩
        go_wp2_with fail
        refine HI.out.mono ?_
        rintro e w' ⟨rfl, rfl⟩
        go_wp2
        go_ret
        exact ⟨ret_int (by rw [hR.out]; rfl), Below.refl _ _⟩
      · obtain ⟨a, ha⟩ : ∃ a : Nat, (D : Int) + I = a := ⟨((D : Int) + I).toNat, by omega⟩
        have ea := take_ext l (a + 1)
        have hR := Lib.hid (show De.cut l = if De.field (l.take (a + 1)) = true then a + 1 else 0 by rw [HC.out, hA, if_neg hneg, ha]; rfl)
        have HAA := Lib.hid hA
        have HFa := Lib.hid (HF.out a)
        have ha2 : (a : Int) + 1 ≤ l.length := by omega
        clear hA HF
        cases hf : De.field (l.take (a + 1))
        all_goals
          have hR2 := Lib.hid (hR.out.trans (by rw [hf]))
          have hff := Lib.hid hf
          clear hf
          go_enter Tryd.func37, Tryd.ntmps37
          go_wp2_with fail
          refine H1.out.mono ?_
          rintro e w' ⟨rfl, rfl⟩
          go_wp2_with fail
          refine HI.out.mono ?_
          rintro e w' ⟨rfl, rfl⟩
          go_wp2_with fail
          refine HFa.out.mono ?_
          rw [hff.out]
          rintro e w1 ⟨rfl, hb⟩
          go_wp2
          go_ret
          exact ⟨ret_int (by rw [hR2.out]; simp), hb⟩
    · have c1 : ((c.toNat : Int) == 76) = false := by rw [beq_eq_false_iff_ne]; intro h; exact h76 (UInt8.toNat_inj.1 (by show c.toNat = 76; omega))
      have hA : De.cutAt l = D := by rw [HA.out, if_neg h76]
      clear h76
      have ea := take_ext l (D + 1)
      have hR := Lib.hid (show De.cut l = if De.field (l.take (D + 1)) = true then D + 1 else 0 by rw [HC.out, hA, if_neg (by omega)]; rfl)
      have HFa := Lib.hid (HF.out D)
      clear hA HF
      cases hf : De.field (l.take (D + 1))
      all_goals
        have hR2 := Lib.hid (hR.out.trans (by rw [hf]))
        have hff := Lib.hid hf
        clear hf
        go_enter Tryd.func37, Tryd.ntmps37
        go_wp2_with fail
        refine H1.out.mono ?_
        rintro e w' ⟨rfl, rfl⟩
        go_wp2_with fail
        refine HFa.out.mono ?_
        rw [hff.out]
        rintro e w1 ⟨rfl, hb⟩
        go_wp2
        go_ret
        exact ⟨ret_int (by rw [hR2.out]; simp), hb⟩
end Go.Proofs.YtdjdgipebonnaaaDoor
