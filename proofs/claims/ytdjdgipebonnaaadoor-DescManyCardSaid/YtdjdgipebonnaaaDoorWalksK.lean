/- The walk of layer 17: all parameters' room. (Printed for the program's and the reference's.) -/
import Derived.Test.YtdjdgipebonnaaaDoorWalksJ
import Derived.Test.YtdjdgipebonnaaaDoorPlainD
namespace Go.Proofs.YtdjdgipebonnaaaDoor
open Go.RowKit

def RoomsRes (l : List UInt8) (w : World) (e : Ending) (w' : World) : Prop := e = .returned (.tuple #[.int .i64 ((De.rooms l).getD 0 : Nat), .bool (De.rooms l).isSome]) ∧ Below w.heap.size w w'

set_option maxHeartbeats 8000000 in
set_option maxRecDepth 100000 in
theorem rooms_any (l : List UInt8) (w : World) (hl : l.length ≤ 1000000000) (hm : MaxP w) :
    Calls Tryd.prog 23 #[.string (bs l)] w (RoomsRes l w) := by
  have HM := Lib.hid hm
  have H1 := Lib.hid (params_any l w hl hm)
  have hpl := De.parList_le l
  obtain ⟨p1, p2⟩ := hpl
  have P1 := Lib.hid p1
  clear hm p1
  go_enter Tryd.func23, Tryd.ntmps23
  go_wp2_with fail
  refine H1.out.mono ?_
  rintro e w1 ⟨v, rfl, hrow, hb⟩
  have J1 := Lib.hid hb
  have HR := Lib.hid hrow
  have HM1 := Lib.hid (max_below HM.out hb)
  clear hb
  -- behind the loop: the sum of all, in some world
  have key : De.parList l = [] ∨ ∃ g cap, v = .slice (some ⟨g, 0, none⟩) (De.parList l).length cap ∧ g < w1.heap.size ∧ (De.parList l).length ≤ cap ∧ ∀ (j : Nat) x, (De.parList l)[j]? = some x → w1.cell? ⟨g, j, none⟩ = some (.string (bs x)) := by
    rcases hrow.cases with ⟨_, h⟩ | ⟨g, cap, hv, _, h1, h2, h3⟩
    · exact .inl h
    · exact .inr ⟨g, cap, hv, h1, h2, h3⟩
  have hnil : De.parList l = [] → ∃ a c, v = .slice a 0 c := by
    intro h
    rcases hrow.cases with ⟨hv, _⟩ | ⟨g, cap, hv, _⟩
    · exact ⟨_, _, hv⟩
    · rw [h] at hv; exact ⟨_, _, hv⟩
  have hcs : (Hid (De.rooms l = none) ∧ (De.params l).isSome = false ∧ De.parList l = []) ∨ ((De.params l).isSome = true ∧ Hid (De.rooms l = if De.sum (De.parList l) ≤ 255 then some (De.sum (De.parList l)) else none)) := by
    cases h : De.params l with
    | none => left; exact ⟨Lib.hid (De.rooms_no h), rfl, by unfold De.parList; rw [h]; rfl⟩
    | some x => right; exact ⟨rfl, Lib.hid (De.rooms_yes (by rw [h]; rfl))⟩
  clear hrow HR
  generalize hO : (De.params l).isSome = ok at *
  have HO := Lib.hid hO
  clear hO
  rcases hcs with ⟨hR, rfl, hnl⟩ | ⟨rfl, hR⟩
  · obtain ⟨a, c, rfl⟩ := hnil hnl
    clear key hnil hnl
    go_wp2_with fail
    refine wp_loop_rounds 1 ?_
    rw [rounds_succ]
    go_wp2
    go_ret2
    exact ⟨by rw [hR.out]; rfl, J1.out⟩
  · have hsum := De.sum_le (De.parList l)
    rcases key with hnl | ⟨g, cap, rfl, hg, hcap, hcells⟩
    · obtain ⟨a, c, rfl⟩ := hnil hnl
      have hR2 := Lib.hid (show De.rooms l = some 0 by rw [hR.out, hnl]; rfl)
      clear hnil hnl hsum
      go_wp2_with fail
      refine wp_loop_rounds 1 ?_
      rw [rounds_succ]
      go_wp2
      go_ret2
      exact ⟨by rw [hR2.out]; rfl, J1.out⟩
    · generalize De.parList l = ps at *
      have HC := Lib.hid hcells
      clear hcells hnil
      go_wp2_with fail
      go_loopw [7, 18] (fun s u wr => ∃ i : Nat, i ≤ ps.length ∧ u = .int .i64 i ∧ s = .int .i64 (De.sum (ps.take i) : Nat) ∧ Below w1.heap.size w1 wr) (fun _ u _ => ps.length - (intOf u).toNat)
      case atStart => exact ⟨0, Nat.zero_le _, rfl, rfl, Below.refl _ _⟩
      case round =>
        obtain ⟨i, hil, rfl, rfl, hB⟩ := hrel
        have HB := Lib.hid hB
        by_cases h1 : i < ps.length
        · obtain ⟨p, hp⟩ : ∃ p, ps[i]? = some p := ⟨_, List.getElem?_eq_getElem h1⟩
          have hcell : wr.cell? ⟨g, i, none⟩ = some (.string (bs p)) := by rw [World.cell?_of_block (hB.block g hg)]; exact HC.out i _ hp
          have hpl := P1.out p (List.mem_of_getElem? hp)
          have HF := Lib.hid (room_any p wr (by omega) (max_below HM1.out hB))
          have hS := Lib.hid (show De.sum (ps.take (i + 1)) = De.sum (ps.take i) + De.room p by rw [show ps.take (i + 1) = ps.take i ++ [p] from by obtain ⟨h2, rfl⟩ := List.getElem?_eq_some_iff.1 hp; exact List.take_succ_eq_append_getElem h2, De.sum_snoc])
          have hs1 := De.sum_le (ps.take i)
          have hs2 : (ps.take i).length ≤ ps.length := by rw [List.length_take]; omega
          have hs3 := De.room_le p
          clear hB hp
          have hgz : g < wr.heap.size := Nat.lt_of_lt_of_le hg HB.out.size
          go_wp2_with fail
          refine HF.out.mono ?_
          rintro e w2 ⟨rfl, hb⟩
          have HB2 := Lib.hid (Below.after' HB.out hb (Nat.le_refl _))
          clear hb
          go_wp2_with fail
          go_roundw
          case rel => exact ⟨i + 1, by omega, by go_num, by rw [hS.out]; go_num, HB2.out⟩
          case measure => simp [intOf]; omega
        · have hfin := Lib.hid (show ps.take i = ps from List.take_of_length_le (by omega))
          have hJ := Lib.hid (Below.after' J1.out hB (Nat.le_refl _))
          rw [hfin.out]
          clear hB
          generalize De.sum ps = S at *
          by_cases h255 : S ≤ 255
          · have hR2 := Lib.hid (show De.rooms l = some S by rw [hR.out, if_pos h255])
            have d1 : decide ((255 : Int) < S) = false := decide_eq_false (by omega)
            go_wp2
            go_ret2
            exact ⟨by rw [hR2.out]; rfl, hJ.out⟩
          · have hR2 := Lib.hid (show De.rooms l = none by rw [hR.out, if_neg h255])
            have d1 : decide ((255 : Int) < S) = true := decide_eq_true (by omega)
            go_wp2
            go_ret2
            exact ⟨by rw [hR2.out]; rfl, hJ.out⟩
end Go.Proofs.YtdjdgipebonnaaaDoor
