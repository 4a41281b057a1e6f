/- Layer 17 in plain words: beginnings and ends. No program. -/
import Derived.Test.YtdjdgipebonnaaaDoorPlain
import Derived.Lib.Strings
import Derived.Lib.TrimByte
namespace Go.Proofs.YtdjdgipebonnaaaDoor
open Go.RowKit

theorem pre_cons (c x : UInt8) (r : List UInt8) : Lib.hasPrefix (c :: r) [x] = decide (c = x) := by
  unfold Lib.hasPrefix
  by_cases h : c = x
  · subst h; simp
  · have : ¬ x = c := fun e => h e.symm
    simp [List.isPrefixOf, h, this]
theorem pre_nil (x : UInt8) : Lib.hasPrefix [] [x] = false := rfl
theorem pre_cut {c x : UInt8} {r : List UInt8} (h : c = x) : Lib.trimPrefix (c :: r) [x] = r := by
  unfold Lib.trimPrefix; rw [pre_cons, if_pos (decide_eq_true h)]; rfl
theorem suf_iff (m : List UInt8) (x : UInt8) : Lib.hasSuffix m [x] = decide (m.getLast? = some x) := by
  unfold Lib.hasSuffix
  rw [List.isSuffixOf, List.getLast?_eq_head?_reverse]
  cases h : m.reverse with
  | nil => rfl
  | cons a t =>
    by_cases e : x = a
    · subst e; simp
    · have : ¬ a = x := fun h => e h.symm
      simp [List.isPrefixOf, e, this]
theorem suf_cut {m : List UInt8} {x : UInt8} (h : m.getLast? = some x) : Lib.trimSuffix m [x] = m.dropLast := by
  unfold Lib.trimSuffix; rw [suf_iff, if_pos (decide_eq_true h), List.dropLast_eq_take]; rfl
theorem trimLeft_dims : ∀ l : List UInt8, Lib.trimLeftB l 91 = l.drop (De.dims l)
  | [] => rfl
  | c :: l => by
    have ih := trimLeft_dims l
    unfold Lib.trimLeftB at ih ⊢
    by_cases h : c = 91
    · subst h; rw [De.dims_cons, List.drop_succ_cons, ← ih]; simp
    · rw [De.dims_other h]; simp [h]
theorem De.dims_lt {l : List UInt8} {n : Nat} (h : n < De.dims l) : l[n]? = some 91 := by
  have h1 := De.take_dims l
  have h2 : (l.take (De.dims l))[n]? = some 91 := by rw [h1]; simp [h]
  rw [List.getElem?_take_of_lt h] at h2
  exact h2
theorem De.dims_at {l : List UInt8} {c : UInt8} (h : l[De.dims l]? = some c) : c ≠ 91 := by
  intro e
  have := De.drop_dims_ne l
  rw [List.head?_drop, h, e] at this
  exact this rfl
/-- A base of two signs or more. -/
theorem De.base_two (c d : UInt8) (r : List UInt8) : De.base (c :: d :: r) = (decide (c = 76) && decide ((d :: r).getLast? = some 59) && De.cls (d :: r).dropLast) := rfl
/-- A base that is no single sign, as the program asks. -/
theorem De.base_gen {r : List UInt8} (h : r.length ≠ 1) : De.base r = (Lib.hasPrefix r [76] && (Lib.hasSuffix (Lib.trimPrefix r [76]) [59] && De.cls (Lib.trimSuffix (Lib.trimPrefix r [76]) [59]))) := by
  match r with
  | [] => rfl
  | [c] => simp at h
  | c :: d :: t =>
    rw [De.base_two, pre_cons]
    by_cases hc : c = 76
    · rw [decide_eq_true hc, pre_cut hc, suf_iff]
      by_cases hs : (d :: t).getLast? = some 59
      · rw [decide_eq_true hs, suf_cut hs]; rfl
      · rw [decide_eq_false hs]; rfl
    · rw [decide_eq_false hc]; rfl
theorem De.prim_eq (c : UInt8) : decide (0 ≤ Lib.indexByte [66, 67, 68, 70, 73, 74, 83, 90] c) = De.prim c := (Lib.contains_iff_indexByte _ c).symm
end Go.Proofs.YtdjdgipebonnaaaDoor
