/- Layer 14 in plain words: what is read of a text. No program. -/
import Derived.Test.YtbjhnfemlpbchaaPlainD
import Derived.Test.YtbjhnfemlpbchaaWalksJ
import Derived.Lib.IndexMore
namespace Go.Proofs.Ytbjhnfemlpbchaa
open Go.RowKit

/-- A line's header, if it is one. -/
def Ma.header (l : List UInt8) : Option Pr := if (Lib.cut l [58, 32]).2.2 = true then some ((Lib.cut l [58, 32]).1, (Lib.cut l [58, 32]).2.1) else none
def Ma.hstep (main : Bool) (s : Nat × List Pr) (l : List UInt8) : Nat × List Pr :=
  if s.1 ≠ 0 then s else match Ma.header l with
  | none => (2, s.2)
  | some p => (Ma.take main s.2 p, Ma.after main s.2 p)
def Ma.sect (main : Bool) (ls : List (List UInt8)) : Nat × List Pr := ls.foldl (Ma.hstep main) (0, [])
def Ma.pstep (s : Nat × List (List Pr)) (ls : List (List UInt8)) : Nat × List (List Pr) :=
  if s.1 ≠ 0 then s else if (Ma.sect (s.2.length == 0) ls).1 ≠ 0 then ((Ma.sect (s.2.length == 0) ls).1, s.2) else (0, s.2 ++ [(Ma.sect (s.2.length == 0) ls).2])
def Ma.parts (L : List (List (List UInt8))) : Nat × List (List Pr) := L.foldl Ma.pstep (0, [])
/-- What any text is read as: an error's number, or the sections. -/
def Ma.parse (b : List UInt8) : Nat × List (List Pr) :=
  if 16777216 < b.length then (3, [])
  else if Lib.hasSuffix b [10] = false then (6, [])
  else if (Ma.runl (Ma.cuts b)).1 ≠ 0 then ((Ma.runl (Ma.cuts b)).1, [])
  else if (Ma.parts (Ma.close (Ma.runl (Ma.cuts b)))).1 ≠ 0 then ((Ma.parts (Ma.close (Ma.runl (Ma.cuts b)))).1, [])
  else if (Ma.parts (Ma.close (Ma.runl (Ma.cuts b)))).2 = [] then (2, [])
  else (0, (Ma.parts (Ma.close (Ma.runl (Ma.cuts b)))).2)
theorem Ma.fold_err {α β : Type} {f : Nat × β → α → Nat × β} (hf : ∀ s x, s.1 ≠ 0 → f s x = s) : ∀ (l : List α) (s : Nat × β), s.1 ≠ 0 → l.foldl f s = s
  | [], _, _ => rfl
  | x :: l, s, h => by rw [List.foldl_cons, hf s x h]; exact Ma.fold_err hf l s h
theorem Ma.fold_pre {α β : Type} {f : Nat × β → α → Nat × β} (hf : ∀ s x, s.1 ≠ 0 → f s x = s) {l : List α} {i : Nat} {s : Nat × β} (h : ((l.take i).foldl f s).1 ≠ 0) : l.foldl f s = (l.take i).foldl f s := by
  conv => lhs; rw [← List.take_append_drop i l, List.foldl_append]
  exact Ma.fold_err hf _ _ h
theorem Ma.fold_snoc {α β : Type} {f : β → α → β} {l : List α} {i : Nat} {x : α} (h : l[i]? = some x) (s : β) : (l.take (i + 1)).foldl f s = f ((l.take i).foldl f s) x := by
  obtain ⟨h1, rfl⟩ := List.getElem?_eq_some_iff.1 h
  rw [List.take_succ_eq_append_getElem h1, List.foldl_append]
  rfl
theorem Ma.hstep_err (main : Bool) (s : Nat × List Pr) (l : List UInt8) (h : s.1 ≠ 0) : Ma.hstep main s l = s := if_pos h
theorem Ma.pstep_err (s : Nat × List (List Pr)) (ls : List (List UInt8)) (h : s.1 ≠ 0) : Ma.pstep s ls = s := if_pos h
theorem Ma.after_len (main : Bool) (ps : List Pr) (p : Pr) : (Ma.after main ps p).length ≤ ps.length + 1 := by
  unfold Ma.after
  split
  · simp
  · omega
theorem Ma.sect_len (main : Bool) (ls : List (List UInt8)) : (Ma.sect main ls).2.length ≤ ls.length := by
  have aux : ∀ (ls : List (List UInt8)) (s : Nat × List Pr), (ls.foldl (Ma.hstep main) s).2.length ≤ s.2.length + ls.length := by
    intro ls
    induction ls with
    | nil => intro s; simp
    | cons x ls ih =>
      intro s
      rw [List.foldl_cons]
      have h1 := ih (Ma.hstep main s x)
      have h2 : (Ma.hstep main s x).2.length ≤ s.2.length + 1 := by
        unfold Ma.hstep
        split
        · omega
        · split
          · simp
          · exact Ma.after_len _ _ _
      simp only [List.length_cons]; omega
  have := aux ls (0, [])
  simpa [Ma.sect] using this
theorem Ma.parts_len (L : List (List (List UInt8))) : (Ma.parts L).2.length ≤ L.length := by
  have aux : ∀ (L : List (List (List UInt8))) (s : Nat × List (List Pr)), (L.foldl Ma.pstep s).2.length ≤ s.2.length + L.length := by
    intro L
    induction L with
    | nil => intro s; simp
    | cons x L ih =>
      intro s
      rw [List.foldl_cons]
      have h1 := ih (Ma.pstep s x)
      have h2 : (Ma.pstep s x).2.length ≤ s.2.length + 1 := by
        unfold Ma.pstep
        split
        · omega
        · split
          · simp
          · simp
      simp only [List.length_cons]; omega
  have := aux L (0, [])
  simpa [Ma.parts] using this
/-- While nothing is wrong, there are as many sections as were read. -/
theorem Ma.parts_count {L : List (List (List UInt8))} (h : (Ma.parts L).1 = 0) : (Ma.parts L).2.length = L.length := by
  have aux : ∀ (L : List (List (List UInt8))) (s : Nat × List (List Pr)), (L.foldl Ma.pstep s).1 = 0 → (L.foldl Ma.pstep s).2.length = s.2.length + L.length := by
    intro L
    induction L with
    | nil => intro s _; simp
    | cons x L ih =>
      intro s h
      rw [List.foldl_cons] at h ⊢
      have h1 := ih _ h
      have h0 : (Ma.pstep s x).1 = 0 := by
        apply Classical.byContradiction
        intro hne
        rw [Ma.fold_err Ma.pstep_err L _ hne] at h
        exact hne h
      have h2 : (Ma.pstep s x).2.length = s.2.length + 1 := by
        unfold Ma.pstep at h0 ⊢
        split
        · rename_i hs; rw [if_pos hs] at h0; exact absurd h0 hs
        · rename_i hs
          rw [if_neg hs] at h0
          split
          · rename_i h3; rw [if_pos h3] at h0; exact absurd h0 h3
          · simp
      simp only [List.length_cons]; omega
  have := aux L (0, []) h
  simpa [Ma.parts] using this
theorem Ma.header_le {l : List UInt8} {p : Pr} (h : Ma.header l = some p) : p.1.length ≤ l.length ∧ p.2.length ≤ l.length := by
  unfold Ma.header at h
  split at h
  · cases h
    unfold Lib.cut
    split
    · simp only [List.length_take, List.length_drop]; omega
    · simp
  · cases h
end Go.Proofs.Ytbjhnfemlpbchaa
