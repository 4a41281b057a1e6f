/- The walks of layer 15's reading of rows. -/
import Derived.Test.YtdjdgipebonnaaaDoorUtf
namespace Go.Proofs.YtdjdgipebonnaaaDoor
open Go.RowKit

theorem infoU16 : (Tryd.prog.info? 30).map (fun i => (i.zero, i.size, i.bytes)) = some (some (.int .u16 0), 1, 2) := by kernel_rfl
def uc (us : List Nat) : List Value := us.map fun n : Nat => Value.int .u16 (n : Int)
theorem uc_length (us : List Nat) : (uc us).length = us.length := List.length_map ..
def URow (w : World) (base : Nat) (v : Value) (us : List Nat) : Prop := w.ownsRow base 30 1 v us.length (uc us)
theorem URow.grow {w w1 : World} {base : Nat} {v : Value} {xs : List Nat} (h : URow w base v xs) (k : Below w.heap.size w w1) : URow w1 base v xs := own_below h k
theorem URow.app {w : World} {base : Nat} {v : Value} {xs ys : List Nat} {n : Nat} (h : w.ownsRow base 30 1 v n (uc xs ++ uc ys)) (hn : n = xs.length + ys.length) : URow w base v (xs ++ ys) := by
  unfold URow
  rw [List.length_append, show uc (xs ++ ys) = uc xs ++ uc ys from List.map_append .., ← hn]
  exact h
/-- What Units comes to. -/
def UnitsRes (l : List UInt8) (w : World) (e : Ending) (w' : World) : Prop :=
  ∃ v, e = .returned (.tuple #[v, .bool (Ut.units l).isSome]) ∧ Below w.heap.size w w' ∧ (match Ut.units l with | some us => URow w' w.heap.size v us | none => v = .slice none 0 0)

set_option maxHeartbeats 8000000 in
set_option maxRecDepth 100000 in
theorem units_any (l : List UInt8) (w : World) (hl : l.length ≤ 1000000000) :
    Calls Tryd.prog 39 #[.string (bs l)] w (UnitsRes l w) := by
  obtain ⟨i0, hi, hz0, hz1, hz2⟩ := info_parts infoU16
  go_enter Tryd.func39, Tryd.ntmps39
  go_wp2_with fail
  go_loopw [0, 4] (fun s v wr => ∃ r acc, s = .string (bs r) ∧ URow wr w.heap.size v acc ∧ Below w.heap.size w wr ∧ Ut.units l = (Ut.units r).map (acc ++ ·) ∧ r.length + acc.length ≤ l.length) (fun s _ _ => match s with | .string b => b.size | _ => 0)
  case atStart => exact ⟨l, [], rfl, World.ownsRow_nil _ _ _ _, Below.refl _ _, by cases Ut.units l <;> rfl, by simp⟩
  case round =>
    obtain ⟨r, acc, rfl, hrow, hB, hu, hlen⟩ := hrel
    have HR := Lib.hid hrow
    have HB := Lib.hid hB
    have HU := Lib.hid hu
    have hzr := bs_size r
    clear hrow hB hu
    by_cases hr : r = []
    · have hr0 : r.length = 0 := by rw [hr]; rfl
      have hfin := Lib.hid (show Ut.units l = some acc by rw [HU.out, hr, Ut.units_nil]; simp)
      clear hr
      go_wp2
      go_ret2
      refine ⟨_, by rw [hfin.out]; rfl, HB.out, ?_⟩
      rw [hfin.out]
      exact HR.out
    · have hr0 : 0 < r.length := List.length_pos_iff.2 hr
      have hN := Lib.hid (next_any r wr hr (by omega))
      have hle := Ut.next_le hr
      have h16 := Ut.next_u16 r
      by_cases h0 : (Ut.next r).2 = 0
      · have hfin := Lib.hid (show Ut.units l = none by rw [HU.out, Ut.units_stop hr h0]; rfl)
        rw [h0] at hN
        clear h0 hr hle
        go_wp2_with fail
        refine hN.out.mono ?_
        rintro e w1 ⟨rfl, hb⟩
        have HB2 := Lib.hid (Below.after' HB.out hb (Nat.le_refl _))
        clear hb hN
        go_wp2
        go_ret2
        refine ⟨_, by rw [hfin.out]; rfl, HB2.out, ?_⟩
        rw [hfin.out]
        rfl
      · have hst := Lib.hid (Ut.units_step hr h0)
        generalize hnn : Ut.next r = un at *
        obtain ⟨u, n⟩ := un
        dsimp only at hle h16 h0 hst hN
        have hd0 : ((n : Int) == 0) = false := by simp; exact h0
        have hd := Lib.hid (show (bs r).extract n r.length = bs (r.drop n) by rw [bs_extract, List.take_of_length_le (by simp)])
        clear hnn hr
        go_wp2_with fail
        refine hN.out.mono ?_
        rintro e w1 ⟨rfl, hb⟩
        have HB2 := Lib.hid (Below.after' HB.out hb (Nat.le_refl _))
        have HR2 := Lib.hid (HR.out.grow hb)
        clear hb hN
        go_wp2_with (at_builtin; (refine wpList_append_row rfl _ _ 39 39 rfl w.heap.size 30 i0 (.int .u16 0) 1 2 Tryd.underlying39 hi hz0 hz1 hz2 rfl u4 _ _ rfl (HR2.out.grow ((Below.refl _ _).alloc (Nat.le_refl _) _)) (.slice (some ⟨w1.heap.size, 0, none⟩) 1 1) 1 [.int .u16 (u : Int)] rfl ?_ ?c0 ?c1 ?c2 ?c3))
        case c0 => exact src_block Tryd.underlying39 1 1 1 _ #[.int .u16 (u : Int)] _ _ (heap_alloc_new _ _) rfl (by simp [Value.oneCell'])
        case c1 => unfold maxLen; omega
        case c2 => omega
        case c3 => rw [World.size_alloc]; have := HB2.out.size; omega
        intro v' w2 hown hhop
        have hown' := Lib.hid (URow.app (xs := acc) (ys := [u]) hown rfl)
        have HB3 := Lib.hid (((HB2.out).alloc HB2.out.size (.cells #[.int .u16 (u : Int)] 30)).trans (hhop.below (by rw [World.size_alloc]; have := HB2.out.size; omega) (fun k e => (HR2.out.lt k e).1)))
        clear hown hhop
        go_wp2_with fail
        go_roundw
        case rel => exact ⟨r.drop n, acc ++ [u], by rw [hd.out], hown'.out, HB3.out, by rw [HU.out, hst.out]; cases Ut.units (r.drop n) <;> simp, by simp; omega⟩
        case measure => rw [hd.out]; show (bs (r.drop n)).size < (bs r).size; rw [bs_size, bs_size, List.length_drop]; omega

theorem right_any (l : List UInt8) (w : World) (hl : l.length ≤ 1000000000) :
    Calls Tryd.prog 26 #[.string (bs l)] w fun e w' => e = .returned (.bool (Ut.right l)) ∧ Below w.heap.size w w' := by
  have H := Lib.hid (units_any l w hl)
  go_enter Tryd.func26, Tryd.ntmps26
  go_wp2_with fail
  refine H.out.mono ?_
  rintro e w1 ⟨v, rfl, hb, _⟩
  go_wp2
  go_ret
  exact ⟨rfl, hb⟩
end Go.Proofs.YtdjdgipebonnaaaDoor
