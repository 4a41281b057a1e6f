/- Layer 25 in plain words: favorites' places. No program. -/
import Derived.Test.YteegpbdkalpeiaaInts
namespace Go.Proofs.Yteegpbdkalpeiaa
open Go.RowKit

/-- A number's place among favorites, from 1 on; 0: none. -/
def Po.at : List Int → Int → Nat
  | [], _ => 0
  | f :: fs, v => if f = v then 1 else if Po.at fs v = 0 then 0 else Po.at fs v + 1
theorem Po.at_le : ∀ (fs : List Int) (v : Int), Po.at fs v ≤ fs.length
  | [], _ => Nat.le_refl _
  | f :: fs, v => by
    have := Po.at_le fs v
    unfold Po.at
    split
    · simp
    · split <;> simp only [List.length_cons] <;> omega
theorem Po.at_zero : ∀ {fs : List Int} {v : Int}, Po.at fs v = 0 ↔ v ∉ fs
  | [], v => by simp [Po.at]
  | f :: fs, v => by
    unfold Po.at
    by_cases h : f = v
    · rw [if_pos h]; simp [h]
    · rw [if_neg h]
      have ih := Po.at_zero (fs := fs) (v := v)
      by_cases h0 : Po.at fs v = 0
      · rw [if_pos h0]
        have := ih.1 h0
        simp [this]
        exact fun e => h e.symm
      · rw [if_neg h0]
        have : v ∈ fs := by
          rcases Classical.em (v ∈ fs) with h1 | h1
          · exact h1
          · exact absurd (ih.2 h1) h0
        simp [this]
/-- The number at its place. -/
theorem Po.at_get : ∀ {fs : List Int} {v : Int}, Po.at fs v ≠ 0 → fs[Po.at fs v - 1]? = some v
  | [], v, h => absurd rfl h
  | f :: fs, v, h => by
    unfold Po.at at h ⊢
    by_cases h1 : f = v
    · rw [if_pos h1]; simp [h1]
    · rw [if_neg h1] at h ⊢
      by_cases h0 : Po.at fs v = 0
      · rw [if_pos h0] at h; exact absurd rfl h
      · rw [if_neg h0]
        have := Po.at_get (fs := fs) (v := v) h0
        obtain ⟨k, hk⟩ : ∃ k, Po.at fs v = k + 1 := ⟨Po.at fs v - 1, by omega⟩
        rw [hk] at this ⊢
        simpa using this
/-- One favorite more behind the others. -/
theorem Po.at_snoc : ∀ (fs : List Int) (x v : Int), Po.at (fs ++ [x]) v = if Po.at fs v ≠ 0 then Po.at fs v else if x = v then fs.length + 1 else 0
  | [], x, v => by simp [Po.at]
  | f :: fs, x, v => by
    have ih := Po.at_snoc fs x v
    simp only [List.cons_append, Po.at, ih]
    by_cases h1 : f = v
    · simp [h1]
    · simp only [h1, if_false]
      by_cases h0 : Po.at fs v = 0
      · by_cases h2 : x = v <;> simp [h0, h2]
      · simp [h0]
/-- One favorite more ahead of the others. -/
theorem Po.at_cons (f : Int) (fs : List Int) (v : Int) : Po.at (f :: fs) v = if f = v then 1 else if Po.at fs v = 0 then 0 else Po.at fs v + 1 := rfl
def Po.tokens (fs l : List Int) : List Int := l.map fun v => (Po.at fs v : Int)
def Po.left (fs l : List Int) : List Int := l.filter fun v => decide (Po.at fs v = 0)
theorem Po.tokens_snoc (fs l : List Int) (v : Int) : Po.tokens fs (l ++ [v]) = Po.tokens fs l ++ [(Po.at fs v : Int)] := by simp [Po.tokens]
theorem Po.left_snoc (fs l : List Int) (v : Int) : Po.left fs (l ++ [v]) = Po.left fs l ++ if Po.at fs v = 0 then [v] else [] := by
  unfold Po.left
  rw [List.filter_append]
  by_cases h : Po.at fs v = 0 <;> simp [h]
theorem take_snocI {α : Type} (l : List α) (i : Nat) (x : α) (h : l[i]? = some x) : l.take (i + 1) = l.take i ++ [x] := by
  obtain ⟨h1, rfl⟩ := List.getElem?_eq_some_iff.1 h
  exact List.take_succ_eq_append_getElem h1
theorem count_snoc (l : List Int) (x v : Int) : (l ++ [x]).count v = l.count v + if x = v then 1 else 0 := by
  rw [List.count_append]
  by_cases h : x = v
  · subst h; simp
  · simp [h]
end Go.Proofs.Yteegpbdkalpeiaa
