/- Layer 14 in plain words: what a manifest is printed to, or why it is not. No program. -/
import Derived.Test.YtbjhnfemlpbchaaPlainE
namespace Go.Proofs.Ytbjhnfemlpbchaa
open Go.RowKit

def Ma.lineOf (p : Pr) : List UInt8 := p.1 ++ [58, 32] ++ p.2
def Ma.foldText (ls : List (List UInt8)) : List UInt8 := ls.flatMap fun l => l ++ [13, 10]
def Ma.pairText (p : Pr) : List UInt8 := Ma.foldText (Ma.fold (Ma.lineOf p))
def Ma.pairsText (ps : List Pr) : List UInt8 := ps.flatMap Ma.pairText
def Ma.sectText (s : List Pr) : List UInt8 := Ma.pairsText s ++ [13, 10]
def Ma.allText (ss : List (List Pr)) : List UInt8 := ss.flatMap Ma.sectText
/-- What is wrong with the headers behind others of their section: 0 if nothing is. -/
def Ma.secErr (main : Bool) : List Pr → List Pr → Nat
  | _, [] => 0
  | a, p :: ps => if Ma.take main a p ≠ 0 then Ma.take main a p else Ma.secErr main (a ++ [p]) ps
def Ma.manErr : Bool → List (List Pr) → Nat
  | _, [] => 0
  | m, s :: ss => if s = [] then 2 else if Ma.secErr m [] s ≠ 0 then Ma.secErr m [] s else Ma.manErr false ss
/-- What any manifest is printed to: an error's number, or its text. -/
def Ma.print (ss : List (List Pr)) : Nat × List UInt8 := if Ma.manErr true ss ≠ 0 then (Ma.manErr true ss, []) else (0, Ma.allText ss)

theorem Ma.drop_get {α : Type} {l : List α} {i : Nat} {x : α} (h : l[i]? = some x) : l.drop i = x :: l.drop (i + 1) := by
  obtain ⟨h1, rfl⟩ := List.getElem?_eq_some_iff.1 h
  exact List.drop_eq_getElem_cons h1
theorem Ma.secErr_at {main : Bool} {s : List Pr} {k : Nat} {p : Pr} (h : s[k]? = some p) : Ma.secErr main (s.take k) (s.drop k) = if Ma.take main (s.take k) p ≠ 0 then Ma.take main (s.take k) p else Ma.secErr main (s.take (k + 1)) (s.drop (k + 1)) := by
  rw [Ma.drop_get h, Ma.secErr]
  obtain ⟨h1, rfl⟩ := List.getElem?_eq_some_iff.1 h
  rw [List.take_succ_eq_append_getElem h1]
theorem Ma.manErr_at {m : Bool} {ss : List (List Pr)} {i : Nat} {s : List Pr} (h : ss[i]? = some s) : Ma.manErr m (ss.drop i) = if s = [] then 2 else if Ma.secErr m [] s ≠ 0 then Ma.secErr m [] s else Ma.manErr false (ss.drop (i + 1)) := by
  rw [Ma.drop_get h, Ma.manErr]
theorem Ma.flat_snoc {α : Type} (f : α → List UInt8) {l : List α} {i : Nat} {x : α} (h : l[i]? = some x) : (l.take (i + 1)).flatMap f = (l.take i).flatMap f ++ f x := by
  obtain ⟨h1, rfl⟩ := List.getElem?_eq_some_iff.1 h
  rw [List.take_succ_eq_append_getElem h1, List.flatMap_append]
  simp
theorem Ma.flat_len {α : Type} (f : α → List UInt8) (l : List α) (i : Nat) : ((l.take i).flatMap f).length ≤ (l.flatMap f).length := by
  conv => rhs; rw [← List.take_append_drop i l, List.flatMap_append, List.length_append]
  omega
theorem Ma.flat_at {α : Type} (f : α → List UInt8) {l : List α} {i : Nat} {x : α} (h : l[i]? = some x) : ((l.take i).flatMap f).length + (f x).length ≤ (l.flatMap f).length := by
  have := Ma.flat_len f l (i + 1)
  rwa [Ma.flat_snoc f h, List.length_append] at this
theorem Ma.foldText_ge : ∀ ls : List (List UInt8), ls.length ≤ (Ma.foldText ls).length
  | [] => Nat.le_refl _
  | l :: ls => by
    have := Ma.foldText_ge ls
    unfold Ma.foldText at this ⊢
    rw [List.flatMap_cons, List.length_append, List.length_append, List.length_cons]
    simp only [List.length_cons, List.length_nil]
    omega
end Go.Proofs.Ytbjhnfemlpbchaa
