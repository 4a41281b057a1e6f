/- The walk of layer 17: a method's descriptors. -/
import Derived.Test.YtdjdgipebonnaaaDoorWalksI
namespace Go.Proofs.YtdjdgipebonnaaaDoor
open Go.RowKit

theorem infoStr : (Tryd.prog.info? 9).map (fun i => (i.zero, i.size, i.bytes)) = some (some (.string ⟨#[]⟩), 1, 16) := by kernel_rfl
theorem cutPrefix_yes (l : List UInt8) (x : UInt8) (w : World) (h : l.head? = some x) :
    Calls Tryd.prog 34 #[.string (bs l), .string ⟨#[x]⟩] w fun e w' => e = .returned (.tuple #[.string (bs (l.drop 1)), .bool true]) ∧ w = w' := by
  refine (calls_keep (Tryd.strings_CutPrefix (bs l) ⟨#[x]⟩ w)).mono fun e w' ⟨he, hw⟩ => ⟨he.trans ?_, hw⟩
  have e1 : Lib.hasPrefix (bs l).data.toList (⟨#[x]⟩ : ByteArray).data.toList = true := (pre_head l x).trans (decide_eq_true h)
  have e2 : Lib.trimPrefix (bs l).data.toList (⟨#[x]⟩ : ByteArray).data.toList = l.drop 1 := by unfold Lib.trimPrefix; rw [if_pos e1]; rfl
  rw [e1, e2]; rfl
theorem cutPrefix_no (l : List UInt8) (x : UInt8) (w : World) (h : l.head? ≠ some x) :
    Calls Tryd.prog 34 #[.string (bs l), .string ⟨#[x]⟩] w fun e w' => e = .returned (.tuple #[.string (bs l), .bool false]) ∧ w = w' := by
  refine (calls_keep (Tryd.strings_CutPrefix (bs l) ⟨#[x]⟩ w)).mono fun e w' ⟨he, hw⟩ => ⟨he.trans ?_, hw⟩
  have e1 : Lib.hasPrefix (bs l).data.toList (⟨#[x]⟩ : ByteArray).data.toList = false := (pre_head l x).trans (decide_eq_false h)
  have e2 : Lib.trimPrefix (bs l).data.toList (⟨#[x]⟩ : ByteArray).data.toList = l := by unfold Lib.trimPrefix; rw [e1]; rfl
  rw [e1, e2]; rfl
/-- What the call comes to. -/
def ParamsRes (l : List UInt8) (w : World) (e : Ending) (w' : World) : Prop :=
  ∃ v, e = .returned (.tuple #[v, .string (bs (De.parAns l)), .bool (De.params l).isSome]) ∧ SRow w' w.heap.size 9 v (De.parList l) ∧ Below w.heap.size w w'
theorem ParamsRes.none {l : List UInt8} {w w' : World} {e : Ending} (h : De.params l = Option.none) (he : e = .returned (.tuple #[.slice Option.none 0 0, .string (bs []), .bool false])) (hb : Below w.heap.size w w') : ParamsRes l w e w' :=
  ⟨_, by unfold De.parAns; rw [h]; exact he, by unfold De.parList; rw [h]; exact SRow.nil _ _ _, hb⟩
theorem ParamsRes.some {l a : List UInt8} {ps : List (List UInt8)} {w w' : World} {e : Ending} {v : Value} (h : De.params l = Option.some (ps, a)) (he : e = .returned (.tuple #[v, .string (bs a), .bool true])) (hr : SRow w' w.heap.size 9 v ps) (hb : Below w.heap.size w w') : ParamsRes l w e w' :=
  ⟨v, by unfold De.parAns; rw [h]; exact he, by unfold De.parList; rw [h]; exact hr, hb⟩
/-- What the loop keeps. -/
def PR (l : List UInt8) (w : World) (s v : Value) (wr : World) : Prop :=
  ∃ r acc, s = .string (bs r) ∧ SRow wr w.heap.size 9 v acc ∧ Below w.heap.size w wr ∧ De.params l = (De.rest r).map (fun x => (acc ++ x.1, x.2)) ∧ acc.length + r.length ≤ l.length
theorem PR.more {l r : List UInt8} {acc : List (List UInt8)} (h : De.params l = (De.rest r).map (fun x => (acc ++ x.1, x.2))) (h1 : r.head? ≠ some 41) (h0 : De.cut r ≠ 0) :
    De.params l = (De.rest (r.drop (De.cut r))).map (fun x => ((acc ++ [r.take (De.cut r)]) ++ x.1, x.2)) := by
  rw [h, De.rest_step h1 h0]
  cases De.rest (r.drop (De.cut r)) <;> simp

set_option maxHeartbeats 8000000 in
set_option maxRecDepth 100000 in
theorem params_any (l : List UInt8) (w : World) (hl : l.length ≤ 1000000000) (hm : MaxP w) :
    Calls Tryd.prog 21 #[.string (bs l)] w (ParamsRes l w) := by
  obtain ⟨i0, hi, hz0, hz1, hz2⟩ := info_parts infoStr
  have HM := Lib.hid hm
  clear hm
  by_cases h40 : l.head? = some 40
  · have H1 := Lib.hid (cutPrefix_yes l 40 w h40)
    have hpar := Lib.hid (show De.params l = De.rest (l.drop 1) by unfold De.params; rw [if_pos h40])
    have hll : (l.drop 1).length ≤ l.length := by rw [List.length_drop]; omega
    clear h40
    generalize l.drop 1 = t at *
    go_enter Tryd.func21, Tryd.ntmps21
    go_wp2_with fail
    refine H1.out.mono ?_
    rintro e w' ⟨rfl, rfl⟩
    go_wp2_with fail
    go_loopw [5, 7] (fun s v wr => PR l w s v wr) (fun s _ _ => match s with | .string b => b.size | _ => 0)
    case atStart => exact ⟨t, [], rfl, SRow.nil _ _ _, Below.refl _ _, by rw [hpar.out]; cases De.rest t <;> rfl, by rw [List.length_nil, Nat.zero_add]; exact hll⟩
    case round =>
      obtain ⟨r, acc, rfl, hrow, hB, hp, hlen⟩ := hrel
      have HR := Lib.hid hrow
      have HB := Lib.hid hB
      have HP := Lib.hid hp
      have hzr := bs_size r
      have hMr := Lib.hid (max_below HM.out hB)
      clear hrow hB hp hll
      by_cases h41 : r.head? = some 41
      · have H2 := Lib.hid (cutPrefix_yes r 41 wr h41)
        have hcl := De.rest_close h41
        have hdl : (r.drop 1).length ≤ 1000000000 := by rw [List.length_drop]; omega
        have HF := Lib.hid (field_any (r.drop 1) wr hdl hMr.out)
        have q1 := bs_is (r.drop 1) [86]
        clear h41
        generalize r.drop 1 = a at *
        by_cases hV : a = [86]
        · have hfin := Lib.hid (show De.params l = some (acc, a) by rw [HP.out, hcl, if_pos (.inl hV)]; simp)
          rw [decide_eq_true hV] at q1
          clear hV hcl
          go_wp2_with fail
          refine H2.out.mono ?_
          rintro e w' ⟨rfl, rfl⟩
          go_wp2
          go_ret3
          exact ParamsRes.some hfin.out rfl HR.out HB.out
        · rw [decide_eq_false hV] at q1
          cases hf : De.field a
          · have hfin := Lib.hid (show De.params l = none by rw [HP.out, hcl, if_neg (fun h => h.elim hV (fun h => by rw [hf] at h; cases h))]; rfl)
            have hff := Lib.hid hf
            clear hV hcl hf
            go_wp2_with fail
            refine H2.out.mono ?_
            rintro e w' ⟨rfl, rfl⟩
            go_wp2_with fail
            refine HF.out.mono ?_
            rw [hff.out]
            rintro e w1 ⟨rfl, hb⟩
            have HB2 := Lib.hid (Below.after' HB.out hb (Nat.le_refl _))
            clear hb
            go_wp2
            go_ret3
            exact ParamsRes.none hfin.out rfl HB2.out
          · have hfin := Lib.hid (show De.params l = some (acc, a) by rw [HP.out, hcl, if_pos (.inr hf)]; simp)
            have hff := Lib.hid hf
            clear hV hcl hf
            go_wp2_with fail
            refine H2.out.mono ?_
            rintro e w' ⟨rfl, rfl⟩
            go_wp2_with fail
            refine HF.out.mono ?_
            rw [hff.out]
            rintro e w1 ⟨rfl, hb⟩
            have HB2 := Lib.hid (Below.after' HB.out hb (Nat.le_refl _))
            have HR2 := Lib.hid (HR.out.grow hb)
            clear hb
            go_wp2
            go_ret3
            exact ParamsRes.some hfin.out rfl HR2.out HB2.out
      · have H2 := Lib.hid (cutPrefix_no r 41 wr h41)
        have HCU := Lib.hid (cut_any r wr (by omega) hMr.out)
        by_cases h0 : De.cut r = 0
        · have hfin := Lib.hid (show De.params l = none by rw [HP.out, De.rest_stop h41 h0]; rfl)
          rw [h0] at HCU
          clear h41 h0
          go_wp2_with fail
          refine H2.out.mono ?_
          rintro e w' ⟨rfl, rfl⟩
          go_wp2_with fail
          refine HCU.out.mono ?_
          rintro e w1 ⟨rfl, hb⟩
          have HB2 := Lib.hid (Below.after' HB.out hb (Nat.le_refl _))
          clear hb
          go_wp2
          go_ret3
          exact ParamsRes.none hfin.out rfl HB2.out
        · have hmore := Lib.hid (PR.more HP.out h41 h0)
          obtain ⟨_, hc1, hc2⟩ := De.cut_some h0
          have et := take_ext r (De.cut r)
          have ed := drop_len r (De.cut r)
          clear h41 h0
          generalize De.cut r = n at *
          have hd0 : ((n : Int) == 0) = false := by simp; omega
          have hdl : (r.drop n).length = r.length - n := List.length_drop
          generalize r.take n = T at *
          generalize hD : r.drop n = D at *
          have HD := Lib.hid hD
          clear hD
          go_wp2_with fail
          refine H2.out.mono ?_
          rintro e w' ⟨rfl, rfl⟩
          go_wp2_with fail
          refine HCU.out.mono ?_
          rintro e w1 ⟨rfl, hb⟩
          have HB2 := Lib.hid (Below.after' HB.out hb (Nat.le_refl _))
          have HR2 := Lib.hid (HR.out.grow hb)
          clear hb
          go_wp2_with (at_builtin; (refine wpList_append_row rfl _ _ 25 25 rfl w.heap.size 9 i0 (.string ⟨#[]⟩) 1 16 Tryd.underlying25 hi hz0 hz1 hz2 rfl u7 _ _ rfl (HR2.out.grow ((Below.refl _ _).alloc (Nat.le_refl _) _)) (.slice (some ⟨w1.heap.size, 0, none⟩) 1 1) 1 [.string (bs T)] rfl ?_ ?c0 ?c1 ?c2 ?c3))
          case c0 => exact src_block Tryd.underlying25 1 1 1 _ #[.string (bs T)] _ _ (heap_alloc_new _ _) rfl (by simp [Value.oneCell'])
          case c1 => unfold maxLen; omega
          case c2 => omega
          case c3 => rw [World.size_alloc]; have := HB2.out.size; omega
          intro v' w2 hown hhop
          have hown' := Lib.hid (SRow.app (xs := acc) (ys := [T]) hown rfl)
          have HB3 := Lib.hid (((HB2.out).alloc HB2.out.size (.cells #[.string (bs T)] 9)).trans (hhop.below (by rw [World.size_alloc]; have := HB2.out.size; omega) (fun k e => (HR2.out.lt k e).1)))
          clear hown hhop
          go_wp2_with fail
          go_roundw
          case rel => exact ⟨D, acc ++ [T], rfl, hown'.out, HB3.out, hmore.out, by simp; omega⟩
          case measure => show (bs D).size < (bs r).size; rw [bs_size, bs_size]; omega
  · have H1 := Lib.hid (cutPrefix_no l 40 w h40)
    have hfin := Lib.hid (show De.params l = none by unfold De.params; rw [if_neg h40])
    clear h40
    go_enter Tryd.func21, Tryd.ntmps21
    go_wp2_with fail
    refine H1.out.mono ?_
    rintro e w' ⟨rfl, rfl⟩
    go_wp2
    go_ret3
    exact ParamsRes.none hfin.out rfl (Below.refl _ _)
end Go.Proofs.YtdjdgipebonnaaaDoor
