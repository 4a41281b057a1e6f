/- Layer 14 in plain words: a text cut behind its line feeds. No program. -/
import Derived.Test.YtbjhnfemlpbchaaPlainB
import Derived.Lib.IndexLaws
namespace Go.Proofs.Ytbjhnfemlpbchaa
open Go.RowKit

def Ma.cutA : List UInt8 → List UInt8 → List (List UInt8)
  | a, [] => if a = [] then [] else [a]
  | a, c :: l => if c = 10 then (a ++ [c]) :: Ma.cutA [] l else Ma.cutA (a ++ [c]) l
/-- A text's lines, each with its line feed, but for the last one. -/
def Ma.cuts (l : List UInt8) : List (List UInt8) := Ma.cutA [] l
theorem Ma.cutA_none : ∀ (l a : List UInt8), Lib.indexByte l 10 = -1 → a ++ l ≠ [] → Ma.cutA a l = [a ++ l]
  | [], a, _, h => by
    rw [List.append_nil] at h ⊢
    exact if_neg h
  | c :: l, a, h, _ => by
    unfold Lib.indexByte at h
    by_cases hc : c = 10
    · subst hc; simp at h
    · have h2 : (c == 10) = false := by simp [hc]
      rw [h2] at h
      have h3 : Lib.indexByte l 10 = -1 := by
        by_cases h4 : Lib.indexByte l 10 = -1
        · exact h4
        · have h5 : (Lib.indexByte l 10 == -1) = false := by simp [h4]
          rw [h5] at h
          have := Lib.indexByte_ge l 10
          simp at h
          omega
      unfold Ma.cutA
      rw [if_neg hc, Ma.cutA_none l (a ++ [c]) h3 (by simp)]
      simp
theorem Ma.cutA_some : ∀ (l a : List UInt8) (i : Nat), Lib.indexByte l 10 = (i : Int) → Ma.cutA a l = (a ++ l.take (i + 1)) :: Ma.cutA [] (l.drop (i + 1))
  | [], a, i, h => by simp [Lib.indexByte] at h
  | c :: l, a, i, h => by
    unfold Lib.indexByte at h
    by_cases hc : c = 10
    · subst hc
      simp at h
      obtain rfl : i = 0 := by omega
      rw [Ma.cutA, if_pos rfl]
      simp
    · have h2 : (c == 10) = false := by simp [hc]
      rw [h2] at h
      simp only [Bool.false_eq_true, if_false] at h
      by_cases h4 : Lib.indexByte l 10 = -1
      · rw [h4] at h; simp at h
      · have h5 : (Lib.indexByte l 10 == -1) = false := by simp [h4]
        rw [h5] at h
        have := Lib.indexByte_ge l 10
        simp only [Bool.false_eq_true, if_false] at h
        obtain ⟨k, rfl⟩ : ∃ k, i = k + 1 := ⟨i - 1, by omega⟩
        have h6 : Lib.indexByte l 10 = (k : Int) := by omega
        rw [Ma.cutA]
        rw [if_neg hc, Ma.cutA_some l (a ++ [c]) k h6]
        simp
theorem Ma.cuts_nil : Ma.cuts [] = [] := rfl
theorem Ma.cuts_none {l : List UInt8} (h : Lib.indexByte l 10 = -1) (h0 : l ≠ []) : Ma.cuts l = [l] := Ma.cutA_none l [] h h0
theorem Ma.cuts_some {l : List UInt8} {i : Nat} (h : Lib.indexByte l 10 = (i : Int)) : Ma.cuts l = l.take (i + 1) :: Ma.cuts (l.drop (i + 1)) := by
  have := Ma.cutA_some l [] i h
  simpa [Ma.cuts] using this
theorem Ma.indexByte_lt {l : List UInt8} {i : Nat} (h : Lib.indexByte l 10 = (i : Int)) : i < l.length := (List.getElem?_eq_some_iff.1 (Lib.indexByte_some h).1).1
theorem Ma.cutA_flat : ∀ (l a : List UInt8), (Ma.cutA a l).flatten = a ++ l
  | [], a => by
    unfold Ma.cutA
    split
    · rename_i h; simp [h]
    · simp
  | c :: l, a => by
    unfold Ma.cutA
    split
    · rw [List.flatten_cons, Ma.cutA_flat l []]; simp
    · rw [Ma.cutA_flat l (a ++ [c])]; simp
theorem Ma.cutA_ne : ∀ (l a : List UInt8), ∀ x ∈ Ma.cutA a l, x ≠ []
  | [], a => by
    unfold Ma.cutA
    split
    · simp
    · rename_i h; simp [h]
  | c :: l, a => by
    intro x hx
    unfold Ma.cutA at hx
    split at hx
    · rcases List.mem_cons.1 hx with rfl | hx
      · simp
      · exact Ma.cutA_ne l [] x hx
    · exact Ma.cutA_ne l (a ++ [c]) x hx
/-- There are no more lines than signs, and none is longer than all. -/
theorem Ma.cuts_len (l : List UInt8) : (Ma.cuts l).length ≤ l.length := by
  have h1 : ∀ xs : List (List UInt8), (∀ x ∈ xs, x ≠ []) → xs.length ≤ xs.flatten.length := by
    intro xs
    induction xs with
    | nil => intro _; simp
    | cons x xs ih =>
      intro h
      have := ih fun y hy => h y (List.mem_cons_of_mem _ hy)
      have hx := h x (List.mem_cons_self ..)
      have : 0 < x.length := List.length_pos_iff.2 hx
      rw [List.flatten_cons, List.length_append, List.length_cons]; omega
  have := h1 _ (Ma.cutA_ne l [])
  rwa [Ma.cutA_flat] at this
theorem Ma.cuts_le {l x : List UInt8} (h : x ∈ Ma.cuts l) : x.length ≤ l.length := by
  have h1 : ∀ xs : List (List UInt8), x ∈ xs → x.length ≤ xs.flatten.length := by
    intro xs
    induction xs with
    | nil => simp
    | cons y xs ih =>
      intro h
      rcases List.mem_cons.1 h with rfl | h
      · simp
      · have := ih h; rw [List.flatten_cons, List.length_append]; omega
  have := h1 _ h
  rwa [show (Ma.cuts l).flatten = l by have := Ma.cutA_flat l []; exact this] at this
end Go.Proofs.Ytbjhnfemlpbchaa
