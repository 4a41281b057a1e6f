/- Layer 25 in plain words: what is split by its favorites is joined. No program. -/
import Derived.Test.YteegpbdkalpeiaaPlainC
import Derived.Test.YteegpbdkalpeiaaWalksF
namespace Go.Proofs.Yteegpbdkalpeiaa
open Go.RowKit

theorem Po.count_tokens (fs : List Int) : ∀ l : List Int, (Po.tokens fs l).count 0 = (Po.left fs l).length
  | [] => rfl
  | x :: l => by
    have ih := Po.count_tokens fs l
    unfold Po.tokens Po.left at *
    rw [List.map_cons, List.filter_cons]
    by_cases h : Po.at fs x = 0
    · rw [h, if_pos (by simp)]
      rw [List.length_cons, ← ih]
      exact List.count_cons_self
    · rw [if_neg (by simp [h]), ← ih]
      rw [List.count_cons_of_ne (by simp; omega)]
theorem Po.back_err {fs : List Int} (hn : fs.Nodup) (l : List Int) : Po.err fs (Po.tokens fs l) (Po.left fs l) = 0 := by
  have hb : Po.bad fs (Po.tokens fs l) = false := by
    unfold Po.bad Po.tokens
    rw [List.any_map, List.any_eq_false]
    intro x _
    have := Po.at_le fs x
    simp
    omega
  have ht : Po.twice fs (Po.left fs l) = false := by
    unfold Po.twice
    rw [decide_eq_true hn, Bool.not_true, Bool.false_or, List.any_eq_false]
    intro x hx
    have := of_decide_eq_true (List.mem_filter.1 hx).2
    simp [this]
  unfold Po.err
  rw [hb, ht, Po.count_tokens]
  simp
theorem Po.back_el (fs l : List Int) {i : Nat} {x : Int} (hx : l[i]? = some x) : Po.el fs (Po.tokens fs l) (Po.left fs l) i = x := by
  have htk : (Po.tokens fs l)[i]? = some ((Po.at fs x : Nat) : Int) := by unfold Po.tokens; rw [List.getElem?_map, hx]; rfl
  by_cases h0 : Po.at fs x = 0
  · refine Po.el_rest (by rw [htk, h0]; rfl) ?_
    have e1 : (Po.tokens fs l).take i = Po.tokens fs (l.take i) := by unfold Po.tokens; rw [List.map_take]
    rw [e1, Po.count_tokens]
    have hsp : l = l.take i ++ x :: l.drop (i + 1) := by rw [← drop_at hx, List.take_append_drop]
    have e2 : Po.left fs l = Po.left fs (l.take i) ++ x :: Po.left fs (l.drop (i + 1)) := by
      conv => lhs; rw [hsp]
      unfold Po.left
      rw [List.filter_append, List.filter_cons, if_pos (by simp [h0])]
    rw [e2]
    simp
  · obtain ⟨m, hm⟩ : ∃ m, Po.at fs x = m + 1 := ⟨Po.at fs x - 1, by omega⟩
    have hg := Po.at_get h0
    rw [hm] at htk hg
    exact Po.el_place htk hg
theorem Po.back_out {fs : List Int} (hn : fs.Nodup) (l : List Int) : Po.out fs (Po.tokens fs l) (Po.left fs l) = l := by
  unfold Po.out
  rw [if_pos (Po.back_err hn l)]
  have hlen : (Po.tokens fs l).length = l.length := by unfold Po.tokens; rw [List.length_map]
  apply List.ext_getElem?
  intro j
  by_cases hj : j < l.length
  · have h1 : l[j]? = some l[j] := List.getElem?_eq_getElem hj
    rw [h1]
    unfold Po.rowN
    rw [List.getElem?_map, List.getElem?_range (by omega)]
    show some (Po.el fs (Po.tokens fs l) (Po.left fs l) j) = _
    rw [Po.back_el fs l h1]
  · rw [List.getElem?_eq_none (by rw [Po.rowN_length]; omega), List.getElem?_eq_none (by omega)]
theorem Po.favs_length (l : List Int) : ∀ k, (Po.favs l k).length ≤ k
  | 0 => Nat.le_refl _
  | k + 1 => by
    rw [Po.favs_succ, List.length_append]
    have := Po.favs_length l k
    have h2 : (Po.next l (Po.favs l k) l).toList.length ≤ 1 := by cases Po.next l (Po.favs l k) l <;> simp
    omega
end Go.Proofs.Yteegpbdkalpeiaa
