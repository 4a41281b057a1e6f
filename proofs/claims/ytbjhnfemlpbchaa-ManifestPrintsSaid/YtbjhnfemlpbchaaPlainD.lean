/- Layer 14 in plain words: lines are unfolded into sections. No program. -/
import Derived.Test.YtbjhnfemlpbchaaPlainC
import Derived.Lib.Strings
namespace Go.Proofs.Ytbjhnfemlpbchaa
open Go.RowKit

/-- A line without its end. -/
def Ma.trim (l : List UInt8) : List UInt8 := Lib.trimSuffix (Lib.trimSuffix l [10]) [13]
/-- An error or none; the sections that are whole; the one that is under way. -/
abbrev Ma.St := Nat × List (List (List UInt8)) × List (List UInt8)
def Ma.put (s : Ma.St) (l : List UInt8) : Ma.St :=
  if 72 < l.length then (3, [], [])
  else if l = [] then (if s.2.2 = [] then s else (0, s.2.1 ++ [s.2.2], []))
  else if l.head? ≠ some 32 then (0, s.2.1, s.2.2 ++ [l])
  else if s.2.2 = [] then (2, [], [])
  else (0, s.2.1, s.2.2.dropLast ++ [s.2.2.getLastD [] ++ l.tail])
def Ma.step (s : Ma.St) (x : List UInt8) : Ma.St := if s.1 ≠ 0 then s else Ma.put s (Ma.trim x)
def Ma.runl (pre : List (List UInt8)) : Ma.St := pre.foldl Ma.step (0, [], [])
def Ma.close (s : Ma.St) : List (List (List UInt8)) := if s.1 ≠ 0 then [] else if s.2.2 = [] then s.2.1 else s.2.1 ++ [s.2.2]
theorem Ma.runl_snoc (pre : List (List UInt8)) (x : List UInt8) : Ma.runl (pre ++ [x]) = Ma.step (Ma.runl pre) x := by
  unfold Ma.runl; rw [List.foldl_append]; rfl
theorem Ma.runl_err {pre all : List (List UInt8)} (h : pre <+: all) (he : (Ma.runl pre).1 ≠ 0) : Ma.runl all = Ma.runl pre := by
  obtain ⟨t, rfl⟩ := h
  have aux : ∀ (t : List (List UInt8)) (s : Ma.St), s.1 ≠ 0 → t.foldl Ma.step s = s := by
    intro t
    induction t with
    | nil => intro s _; rfl
    | cons x t ih =>
      intro s hs
      rw [List.foldl_cons]
      have e : Ma.step s x = s := if_pos hs
      rw [e]; exact ih s hs
  unfold Ma.runl at he ⊢
  rw [List.foldl_append]
  exact aux t _ he
theorem Ma.trim_le (x : List UInt8) : (Ma.trim x).length ≤ x.length := by
  have h : ∀ (s p : List UInt8), (Lib.trimSuffix s p).length ≤ s.length := by
    intro s p
    unfold Lib.trimSuffix
    split
    · rw [List.length_take]; omega
    · exact Nat.le_refl _
  exact Nat.le_trans (h _ _) (h _ _)
/-- No more of anything than there was of lines and of signs. -/
def Ma.Small (s : Ma.St) (n m : Nat) : Prop := s.2.1.length ≤ n ∧ s.2.2.length ≤ n ∧ (∀ y ∈ s.2.2, y.length ≤ m) ∧ ∀ a ∈ s.2.1, a.length ≤ n ∧ ∀ y ∈ a, y.length ≤ m
theorem Ma.small_step {s : Ma.St} {n m : Nat} (h : Ma.Small s n m) (x : List UInt8) : Ma.Small (Ma.step s x) (n + 1) (m + x.length) := by
  obtain ⟨h1, h2, h3, h4⟩ := h
  have up : Ma.Small s (n + 1) (m + x.length) := ⟨by omega, by omega, fun y hy => by have := h3 y hy; omega, fun a ha => ⟨by have := (h4 a ha).1; omega, fun y hy => by have := (h4 a ha).2 y hy; omega⟩⟩
  have hx := Ma.trim_le x
  unfold Ma.step
  split
  · exact up
  · unfold Ma.put
    split
    · exact ⟨by simp, by simp, by simp, by simp⟩
    · split
      · split
        · exact up
        · refine ⟨by simp; omega, by simp, by simp, fun a ha => ?_⟩
          rcases List.mem_append.1 ha with ha | ha
          · exact up.2.2.2 a ha
          · simp at ha; subst ha; exact ⟨up.2.1, up.2.2.1⟩
      · split
        · refine ⟨up.1, by simp; omega, fun y hy => ?_, up.2.2.2⟩
          rcases List.mem_append.1 hy with hy | hy
          · exact up.2.2.1 y hy
          · simp at hy; subst hy; omega
        · split
          · exact ⟨by simp, by simp, by simp, by simp⟩
          · rename_i hne
            refine ⟨up.1, by simp; omega, fun y hy => ?_, up.2.2.2⟩
            rcases List.mem_append.1 hy with hy | hy
            · exact up.2.2.1 y (List.dropLast_subset _ hy)
            · rw [List.mem_singleton] at hy
              subst hy
              have hl : s.2.2.getLastD [] ∈ s.2.2 := by
                rw [List.getLastD_eq_getLast?, List.getLast?_eq_some_getLast hne]
                exact List.getLast_mem hne
              have := h3 _ hl
              rw [List.length_append, List.length_tail]
              omega
theorem Ma.small_run (pre : List (List UInt8)) : Ma.Small (Ma.runl pre) pre.length pre.flatten.length := by
  have aux : ∀ (t : List (List UInt8)) (s : Ma.St) (n m : Nat), Ma.Small s n m → Ma.Small (t.foldl Ma.step s) (n + t.length) (m + t.flatten.length) := by
    intro t
    induction t with
    | nil => intro s n m h; simpa using h
    | cons x t ih =>
      intro s n m h
      have := ih _ _ _ (Ma.small_step h x)
      rw [List.foldl_cons]
      have e1 : n + 1 + t.length = n + (x :: t).length := by simp; omega
      have e2 : m + x.length + t.flatten.length = m + (x :: t).flatten.length := by rw [List.flatten_cons, List.length_append]; omega
      rw [← e1, ← e2]
      exact this
  have := aux pre (0, [], []) 0 0 ⟨by simp, by simp, by simp, by simp⟩
  rw [Nat.zero_add, Nat.zero_add] at this
  exact this
theorem Ma.cuts_flat (l : List UInt8) : (Ma.cuts l).flatten = l := Ma.cutA_flat l []
theorem Ma.pre_len {pre : List (List UInt8)} {l : List UInt8} (h : pre <+: Ma.cuts l) : pre.length ≤ l.length ∧ pre.flatten.length ≤ l.length := by
  have h1 := h.length_le
  have h2 := Ma.cuts_len l
  obtain ⟨t, ht⟩ := h
  have h3 := congrArg (fun z => z.flatten.length) ht
  simp only [List.flatten_append, List.length_append, Ma.cuts_flat] at h3
  exact ⟨by omega, by omega⟩
end Go.Proofs.Ytbjhnfemlpbchaa
