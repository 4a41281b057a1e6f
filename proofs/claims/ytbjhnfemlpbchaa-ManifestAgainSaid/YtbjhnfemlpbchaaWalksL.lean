/- The walk of strings.Lines: the lines of a text, by a range over a function. -/
import Derived.Test.YtbjhnfemlpbchaaSeq
import Derived.Test.YtbjhnfemlpbchaaPlainC
import Derived.Test.YtbjhnfemlpbchaaWalksK
import Derived.Shelf.Abstract
import Derived.OwnWalkIn
import Derived.TacticsInMore
import Derived.LoopNIn
import Derived.LoopIn
import Derived.BigRegionIn
namespace Go.Proofs.Ytbjhnfemlpbchaa
open Go.RowKit
attribute [local go_sem] Oper.semAt_some

/-- How long the text in a cell is. -/
def lenIn (w : World) (B : Nat) : Nat := match w.cell? ⟨B, 0, none⟩ with | some (.string s) => s.size | _ => 0
theorem lenIn_of {w : World} {B : Nat} {r : List UInt8} (h : w.cell? ⟨B, 0, none⟩ = some (.string (bs r))) : lenIn w B = r.length := by
  unfold lenIn; rw [h]; exact bs_size r
theorem set_one {w : World} {s : Nat} {v v' : Value} {t : TypeId} (h : w.heap[s]? = some (.cells #[v] t (0, 0))) : (w.setCell ⟨s, 0, none⟩ v').heap[s]? = some (.cells #[v'] t (0, 0)) := by
  simp only [World.setCell, Array.getElem?_modify, if_true, h, Option.map_some]
  rfl
theorem grown_set (w : World) (B : Nat) (v : Value) : w.grownBy (w.setCell ⟨B, 0, none⟩ v) (some B) :=
  ⟨rfl, rfl, rfl, by show w.heap.size ≤ (w.heap.modify _ _).size; rw [Array.size_modify]; exact Nat.le_refl _, fun k _ hne => Below.heap_setCell w ⟨B, 0, none⟩ v k (fun e => hne (by rw [e]))⟩
theorem Abide.drew {β : Type} {B : Nat} {J : β → World → Prop} (h : Abide B J) {s : β} {X : World} (hs : J s X) : J s X.drew := h s X _ hs (grownBy_below (Below.refl _ _).drew _)
theorem Abide.set {β : Type} {B : Nat} {J : β → World → Prop} (h : Abide B J) {s : β} {X : World} (hs : J s X) (v : Value) : J s (X.setCell ⟨B, 0, none⟩ v) := h s X _ hs (grown_set X B v)

theorem lines_any (l : List UInt8) (w : World) : Calls Try.prog 37 #[.string (bs l)] w fun e w' => e = .returned (.func (.func 46) #[] #[.pointer (some ⟨w.heap.size, 0, none⟩)]) ∧ w' = w.alloc (.cells #[.string (bs l)] 9) := by
  go_enter Try.func37, Try.ntmps37
  go_wp2
  go_ret
  exact ⟨rfl, rfl⟩

set_option maxHeartbeats 4000000 in
set_option maxRecDepth 100000 in
theorem lines_hands (B : Nat) (text : List UInt8) (w : World) (hB : w.heap[B]? = some (.cells #[.string (bs text)] 9 (0, 0))) (hl : text.length ≤ 1000000000) :
    Hands Try.prog 46 #[.pointer (some ⟨B, 0, none⟩)] B (fun x => #[.string (bs x)]) (Ma.cuts text) w := by
  intro l J Jx W hWB hJ hJx hY h0
  have HY := Lib.hid hY
  have HJ := Lib.hid hJ
  clear hY hJ hJx
  show CallsIn Fence.wide 2 Try.prog 46 #[.func (.yield l) #[] #[], .pointer (some ⟨B, 0, none⟩)] W _
  refine callsIn_of_wp Try.func46 rfl trivial ?_ rfl
  simp only [Try.ntmps46, List.size_toArray, List.length_cons, List.length_nil, Nat.reduceAdd, Nat.reduceSub, Array.replicate_succ, Array.replicate_zero, List.push_toArray, List.append_toArray, List.nil_append, List.cons_append]
  gi_wp2
  gi_loopw [3] (fun _ wr => ∃ (pre : List (List UInt8)) (r : List UInt8), Ma.cuts text = pre ++ Ma.cuts r ∧ r.length ≤ text.length ∧ J pre wr ∧ wr.heap[B]? = some (.cells #[.string (bs r)] 9 (0, 0))) (fun _ wr => lenIn wr B)
  case atStart => exact ⟨[], text, rfl, Nat.le_refl _, h0, hWB.trans hB⟩
  case round =>
    obtain ⟨pre, r, hcut, hrl, hj, hcell⟩ := hrel
    obtain ⟨f1, f2⟩ := blk_facts hcell
    have c0 : wr.cell? ⟨B, 0, none⟩ = some (.string (bs r)) := f1 0
    have z0 := f2 0
    have hln := lenIn_of c0
    have hz := bs_size r
    have HC := Lib.hid hcell
    have HJJ := Lib.hid hj
    have HCUT := Lib.hid hcut
    clear f1 f2 hcell hj hcut
    by_cases h0r : r.length = 0
    · obtain rfl := List.eq_nil_of_length_eq_zero h0r
      gi_wp2
      go_end0
      exact ⟨⟨_, rfl⟩, .inl (by rw [HCUT.out, Ma.cuts_nil, List.append_nil]; exact HJJ.out)⟩
    · have hpos : decide (0 < r.length) = true := decide_eq_true (by omega)
      have hpos' : decide ((0 : Int) < (r.length : Int)) = true := decide_eq_true (by omega)
      have hI : ∀ (n : Nat) (x : World), CallsIn Fence.wide n Try.prog 47 #[.string (bs r), .int .u8 10] x fun e w' => e = .returned (.int .i64 (Lib.indexByte r 10)) ∧ w' = x := fun n x => callsIn_wide.2 (Try.strings_IndexByte (bs r) 10 x)
      have HI := Lib.hid hI
      clear hI
      by_cases hi : Lib.indexByte r 10 = -1
      · have hne : r ≠ [] := fun h => h0r (by rw [h]; rfl)
        have HST := Lib.hid (show Ma.cuts r = r :: Ma.cuts [] by rw [Ma.cuts_none hi hne, Ma.cuts_nil])
        obtain ⟨fn, tmps, assign, body, hy, hR⟩ := HY.out pre r (wr.setCell ⟨B, 0, none⟩ (.string ⟨#[]⟩)) (HJ.out.set HJJ.out _) ⟨Ma.cuts [], by rw [HCUT.out, HST.out]; simp⟩
        rw [hi] at HI
        clear hi hne
        gi_wp2_with (refine ⟨trivial, ?_⟩; gi_at_call 47; refine (HI.out _ _).mono ?_; rintro e w' ⟨rfl, rfl⟩)
        refine hR.mono ?_
        rintro e W3 (⟨rfl, hJ3, hk3⟩ | ⟨rfl, hJx3⟩)
        · have hc3 := hk3.trans (set_one HC.out)
          have HC3 := Lib.hid hc3
          have HJ3 := Lib.hid hJ3
          have hl3 := lenIn_of (show W3.cell? ⟨B, 0, none⟩ = some (.string (bs ([]))) from (blk_facts hc3).1 0)
          clear hk3 hc3 hJ3
          gi_wp2
          go_roundw
          case rel => exact ⟨pre ++ [r], [], by rw [HCUT.out, HST.out]; simp, by first | (simp; done) | (simp; omega), HJ3.out, HC3.out⟩
          case measure => rw [hl3, hln]; first | (simp; omega) | omega
        · have HJ3 := Lib.hid hJx3
          clear hJx3
          gi_wp2
          refine bodyPost_ret (results_none rfl _ _ _) rfl ?_
          exact ⟨⟨_, rfl⟩, .inr ⟨pre ++ [r], ⟨Ma.cuts ([]), by rw [HCUT.out, HST.out]; simp⟩, HJ3.out⟩⟩
      · obtain ⟨i, hii⟩ : ∃ i : Nat, Lib.indexByte r 10 = (i : Int) := ⟨(Lib.indexByte r 10).toNat, by have := Lib.indexByte_ge r 10; omega⟩
        have hlt := Ma.indexByte_lt hii
        have HST := Lib.hid (Ma.cuts_some hii)
        have hx1 := Lib.hid (show (bs r).extract 0 (i + 1) = bs (r.take (i + 1)) by rw [bs_extract, List.drop_zero, Nat.sub_zero])
        have hx2 := Lib.hid (show (bs r).extract (i + 1) r.length = bs (r.drop (i + 1)) by rw [bs_extract, List.take_of_length_le (by rw [List.length_drop]; omega)])
        obtain ⟨fn, tmps, assign, body, hy, hR⟩ := HY.out pre (r.take (i + 1)) (wr.setCell ⟨B, 0, none⟩ (.string ((bs r).extract (i + 1) r.length))).drew (HJ.out.drew (HJ.out.set HJJ.out _)) ⟨Ma.cuts (r.drop (i + 1)), by rw [HCUT.out, HST.out]; simp⟩
        rw [hii] at HI
        rw [← hx1.out] at hy
        clear hi hii
        gi_wp2_with (refine ⟨trivial, ?_⟩; gi_at_call 47; refine (HI.out _ _).mono ?_; rintro e w' ⟨rfl, rfl⟩)
        gi_region
        gi_wp2
        refine hR.mono ?_
        rintro e W3 (⟨rfl, hJ3, hk3⟩ | ⟨rfl, hJx3⟩)
        · have hc3 := hk3.trans (show (w'.setCell ⟨B, 0, none⟩ (.string ((bs r).extract (i + 1) r.length))).heap[B]? = _ from by rw [set_one HC.out, hx2.out])
          have HC3 := Lib.hid hc3
          have HJ3 := Lib.hid hJ3
          have hl3 := lenIn_of (show W3.cell? ⟨B, 0, none⟩ = some (.string (bs (r.drop (i + 1)))) from (blk_facts hc3).1 0)
          clear hk3 hc3 hJ3
          gi_wp2
          go_roundw
          case rel => exact ⟨pre ++ [r.take (i + 1)], r.drop (i + 1), by rw [HCUT.out, HST.out]; simp, by first | (simp; done) | (simp; omega), HJ3.out, HC3.out⟩
          case measure => rw [hl3, hln]; first | (simp; omega) | omega
        · have HJ3 := Lib.hid hJx3
          clear hJx3
          gi_wp2
          refine bodyPost_ret (results_none rfl _ _ _) rfl ?_
          exact ⟨⟨_, rfl⟩, .inr ⟨pre ++ [r.take (i + 1)], ⟨Ma.cuts (r.drop (i + 1)), by rw [HCUT.out, HST.out]; simp⟩, HJ3.out⟩⟩
end Go.Proofs.Ytbjhnfemlpbchaa
