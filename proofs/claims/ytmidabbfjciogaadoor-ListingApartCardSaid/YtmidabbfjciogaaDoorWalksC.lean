/- The walks of layer 35: numbers and lines. -/
import Derived.Test.YtmidabbfjciogaaDoorWalksB
import Derived.Test.YtmidabbfjciogaaDoorStrs
import Derived.Lib.SmallJoins
namespace Go.Proofs.YtmidabbfjciogaaDoor
open Go.RowKit

abbrev TabP (w : World) : Prop := Lib.TabIs Tryd.prog w "internal/strconv.uint64pow10" .u64 Lib.pow10Tab
theorem gPow : Tryd.prog.globalNamed "internal/strconv.uint64pow10" = some 0 := by kernel_rfl
theorem tab_below {w w' : World} (h : TabP w) (k : Below w.heap.size w w') : TabP w' := Joins.tab_stays gPow h k (Nat.le_refl _)
/-- A number of an int. -/
def I64 (x : Int) : Prop := -9223372036854775808 ≤ x ∧ x ≤ 9223372036854775807
theorem itoa_any (x : Int) (w : World) (h : I64 x) (ht : TabP w) : Calls Tryd.prog 17 #[.int .i64 x] w fun e w' => e = .returned (.string (bs (Lib.itoa x))) ∧ Below w.heap.size w w' := by
  refine (Tryd.strconv_Itoa x h.1 h.2 w ht).mono fun e w' ⟨he, k, os, hw⟩ => ⟨he, ?_⟩
  rw [hw]
  exact ⟨rfl, rfl, rfl, by simp [Go.Sort.grow], fun j hj => by simp [Go.Sort.grow, Array.getElem?_append, hj]⟩

/-- A text, shown or missing. -/
def Li.or (l : List UInt8) : List UInt8 := if l = [] then [45] else Li.text l
theorem Li.or_len (l : List UInt8) : (Li.or l).length ≤ 3 * l.length + 1 := by
  unfold Li.or
  split
  · simp
  · have := Li.text_len l; omega
theorem or_any (l : List UInt8) (w : World) (hl : l.length ≤ 100000000) :
    Calls Tryd.prog 15 #[.string (bs l)] w fun e w' => e = .returned (.string (bs (Li.or l))) ∧ Below w.heap.size w w' := by
  by_cases h : l = []
  · subst h
    have hnil : (bs ([] : List UInt8)).toList = [] := bs_list []
    go_enter Tryd.func15, Tryd.ntmps15
    go_wp2
    go_ret
    exact ⟨rfl, Below.refl _ _⟩
  · have hne : (bs l).toList.isEmpty = false := by rw [bs_list]; cases l with | nil => exact absurd rfl h | cons _ _ => rfl
    have HT := Lib.hid (text_any l w hl)
    have ho := Lib.hid (show Li.or l = Li.text l from if_neg h)
    go_enter Tryd.func15, Tryd.ntmps15
    go_wp2_with fail
    refine HT.out.mono ?_
    rintro e w1 ⟨rfl, hb⟩
    go_wp2
    go_ret
    exact ⟨by rw [ho.out]; rfl, hb⟩

/-- A line of words. -/
def Li.line (xs : List (List UInt8)) : List UInt8 := Lib.join xs [32]
theorem line_any (bk o c : Nat) (xs : List (List UInt8)) (w : World) (hcells : ∀ (j : Nat) x, xs[j]? = some x → w.cell? ⟨bk, o + j, none⟩ = some (.string (bs x))) (hbk : bk < w.heap.size) (hcap : xs.length ≤ c) (hN : xs.length ≤ 1000000000) (hlen : (Li.line xs).length ≤ 1000000000) :
    Calls Tryd.prog 14 #[.slice (some ⟨bk, o, none⟩) xs.length c] w fun e w' => e = .returned (.string (bs (Li.line xs))) ∧ Below w.heap.size w w' := by
  have hm : (xs.map bs).map (·.data.toList) = xs := by simp [bs, Function.comp_def]
  have hJ := Tryd.strings_Join bk o c (xs.map bs) ⟨#[32]⟩ w (fun j x hx => by
    rw [List.getElem?_map] at hx
    obtain ⟨y, hy, rfl⟩ := Option.map_eq_some_iff.1 hx
    exact hcells j y hy) hbk (by rw [List.length_map]; omega) (by rw [List.length_map]; exact hcap) (by rw [hm]; exact Nat.le_trans hlen (by decide))
  rw [hm, List.length_map] at hJ
  have HJ := Lib.hid hJ
  clear hJ hm hcells
  go_enter Tryd.func14, Tryd.ntmps14
  go_wp2_with fail
  refine HJ.out.mono ?_
  rintro e w1 ⟨rfl, hb⟩
  go_wp2
  go_ret
  exact ⟨rfl, hb⟩
theorem line_none (w : World) : Calls Tryd.prog 14 #[.slice none 0 0] w fun e w' => e = .returned (.string (bs (Li.line []))) ∧ Below w.heap.size w w' := by
  have HJ := Lib.hid (Tryd.strings_Join_none none 0 ⟨#[32]⟩ w)
  go_enter Tryd.func14, Tryd.ntmps14
  go_wp2_with fail
  refine HJ.out.mono ?_
  rintro e w1 ⟨rfl, rfl⟩
  go_wp2
  go_ret
  exact ⟨rfl, Below.refl _ _⟩
/-- .. of any row of texts. -/
theorem line_row {w : World} {base : Nat} {v : Value} {xs : List (List UInt8)} (h : SRow w base 9 v xs) (hN : xs.length ≤ 1000000000) (hlen : (Li.line xs).length ≤ 1000000000) :
    Calls Tryd.prog 14 #[v] w fun e w' => e = .returned (.string (bs (Li.line xs))) ∧ Below w.heap.size w w' := by
  rcases h.cases with ⟨rfl, rfl⟩ | ⟨g, cap, rfl, _, h1, h2, h3⟩
  · exact line_none w
  · exact line_any g 0 cap xs w (fun j x hx => by rw [Nat.zero_add]; exact h3 j x hx) h1 h2 hN hlen
end Go.Proofs.YtmidabbfjciogaaDoor
