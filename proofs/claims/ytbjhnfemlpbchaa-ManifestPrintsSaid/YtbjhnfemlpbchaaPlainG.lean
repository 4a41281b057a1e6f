/- Layer 14 in plain words: the reference's lines, sections, headers. No program. -/
import Derived.Test.YtbjhnfemlpbchaaPlainE
namespace Go.Proofs.Ytbjhnfemlpbchaa
open Go.RowKit

/-- A line without a carriage return at its end. -/
def Ma.cr (s : List UInt8) : List UInt8 := if s.getLast? = some 13 then s.dropLast else s
def Ma.rlStep (st : List (List UInt8) × List UInt8) (c : UInt8) : List (List UInt8) × List UInt8 := if c = 10 then (st.1 ++ [Ma.cr st.2], []) else (st.1, st.2 ++ [c])
def Ma.rl (b : List UInt8) : List (List UInt8) × List UInt8 := b.foldl Ma.rlStep ([], [])
theorem Ma.suffix_one (s : List UInt8) (c : UInt8) : Lib.hasSuffix s [c] = (s.getLast? == some c) := by
  unfold Lib.hasSuffix
  rw [Bool.eq_iff_iff, List.isSuffixOf_iff_suffix, beq_iff_eq]
  constructor
  · rintro ⟨t, rfl⟩
    simp
  · intro h
    obtain ⟨t, rfl⟩ := List.getLast?_eq_some_iff.1 h
    exact ⟨t, rfl⟩
theorem Ma.trim_one (s : List UInt8) (c : UInt8) : Lib.trimSuffix s [c] = if s.getLast? = some c then s.dropLast else s := by
  unfold Lib.trimSuffix
  rw [Ma.suffix_one]
  by_cases h : s.getLast? = some c
  · rw [if_pos (by simp [h]), if_pos h, List.dropLast_eq_take]; rfl
  · rw [if_neg (by simp [h]), if_neg h]
theorem Ma.trim_nl (a : List UInt8) : Ma.trim (a ++ [10]) = Ma.cr a := by
  unfold Ma.trim Ma.cr
  rw [Ma.trim_one (a ++ [10]) 10, if_pos (by simp), List.dropLast_concat, Ma.trim_one]
theorem Ma.rl_fold : ∀ (l : List UInt8) (out : List (List UInt8)) (a : List UInt8), (l = [] → a = []) → (l ≠ [] → l.getLast? = some 10) → l.foldl Ma.rlStep (out, a) = (out ++ (Ma.cutA a l).map Ma.trim, [])
  | [], out, a, h, _ => by
    obtain rfl := h rfl
    simp [Ma.cutA]
  | c :: l, out, a, _, h2 => by
    have hl : l ≠ [] → l.getLast? = some 10 := fun h0 => by
      have := h2 (by simp)
      rwa [List.getLast?_cons_of_ne_nil h0] at this
    rw [List.foldl_cons]
    by_cases hc : c = 10
    · subst hc
      have e : Ma.rlStep (out, a) 10 = (out ++ [Ma.cr a], []) := if_pos rfl
      rw [e, Ma.rl_fold l _ [] (fun _ => rfl) hl]
      have e2 : Ma.cutA a (10 :: l) = (a ++ [10]) :: Ma.cutA [] l := by rw [Ma.cutA, if_pos rfl]
      rw [e2, List.map_cons, Ma.trim_nl]
      simp
    · have e : Ma.rlStep (out, a) c = (out, a ++ [c]) := if_neg hc
      rw [e, Ma.rl_fold l _ _ (fun h0 => ?_) hl]
      · conv => rhs; rw [Ma.cutA, if_neg hc]
      · subst h0
        have := h2 (by simp)
        simp at this
        exact absurd this hc
theorem Ma.rl_cuts {b : List UInt8} (h : b ≠ [] → b.getLast? = some 10) : (Ma.rl b).1 = (Ma.cuts b).map Ma.trim := by
  unfold Ma.rl
  rw [Ma.rl_fold b [] [] (fun _ => rfl) h]
  rfl
theorem Ma.rl_len : ∀ (l : List UInt8) (out : List (List UInt8)) (a : List UInt8), (l.foldl Ma.rlStep (out, a)).1.length ≤ out.length + l.length ∧ (l.foldl Ma.rlStep (out, a)).2.length ≤ a.length + l.length
  | [], out, a => ⟨Nat.le_refl _, Nat.le_refl _⟩
  | c :: l, out, a => by
    rw [List.foldl_cons]
    by_cases hc : c = 10
    · have e : Ma.rlStep (out, a) c = (out ++ [Ma.cr a], []) := if_pos hc
      rw [e]
      have := Ma.rl_len l (out ++ [Ma.cr a]) []
      simp at this ⊢
      omega
    · have e : Ma.rlStep (out, a) c = (out, a ++ [c]) := if_neg hc
      rw [e]
      have := Ma.rl_len l out (a ++ [c])
      simp at this ⊢
      omega
theorem Ma.rl_small (b : List UInt8) (i : Nat) : (Ma.rl (b.take i)).1.length ≤ i ∧ (Ma.rl (b.take i)).2.length ≤ i := by
  have := Ma.rl_len (b.take i) [] []
  rw [List.length_take] at this
  simp at this
  unfold Ma.rl
  omega
/-- Lines without their ends, put one behind the other. -/
def Ma.runS (s : Ma.St) (l : List UInt8) : Ma.St := if s.1 ≠ 0 then s else Ma.put s l
def Ma.runp (ls : List (List UInt8)) : Ma.St := ls.foldl Ma.runS (0, [], [])
theorem Ma.runp_map (ls : List (List UInt8)) : Ma.runp (ls.map Ma.trim) = Ma.runl ls := by
  unfold Ma.runp Ma.runl
  rw [List.foldl_map]
  rfl
theorem Ma.runS_err (s : Ma.St) (l : List UInt8) (h : s.1 ≠ 0) : Ma.runS s l = s := if_pos h

theorem Ma.trim_crnl (l : List UInt8) : Ma.trim (l ++ [13, 10]) = l := by
  rw [show l ++ [13, 10] = (l ++ [13]) ++ [10] by simp, Ma.trim_nl]
  unfold Ma.cr
  rw [if_pos (by simp), List.dropLast_concat]
theorem Ma.runp_as (ls : List (List UInt8)) : Ma.runp ls = Ma.runl (ls.map fun l => l ++ [13, 10]) := by
  rw [← Ma.runp_map, List.map_map]
  congr 1
  conv => lhs; rw [← List.map_id ls]
  exact List.map_congr_left fun l _ => (Ma.trim_crnl l).symm
theorem Ma.smallp (ls : List (List UInt8)) : Ma.Small (Ma.runp ls) ls.length (ls.flatten.length + 2 * ls.length) := by
  rw [Ma.runp_as]
  have h := Ma.small_run (ls.map fun l => l ++ [13, 10])
  have e : (ls.map fun l => l ++ [13, 10]).flatten.length = ls.flatten.length + 2 * ls.length := by
    induction ls with
    | nil => rfl
    | cons x ls ih =>
      simp only [List.map_cons, List.flatten_cons, List.length_append, List.length_cons, List.length_nil] at ih ⊢
      have := ih (Ma.small_run _)
      omega
  rw [e, List.length_map] at h
  exact h
theorem Ma.rl_flat : ∀ (l : List UInt8) (out : List (List UInt8)) (a : List UInt8), (l.foldl Ma.rlStep (out, a)).1.flatten.length ≤ out.flatten.length + a.length + l.length
  | [], out, a => by simp
  | c :: l, out, a => by
    rw [List.foldl_cons]
    by_cases hc : c = 10
    · have e : Ma.rlStep (out, a) c = (out ++ [Ma.cr a], []) := if_pos hc
      rw [e]
      have := Ma.rl_flat l (out ++ [Ma.cr a]) []
      have hcr : (Ma.cr a).length ≤ a.length := by
        unfold Ma.cr
        split
        · rw [List.length_dropLast]; omega
        · exact Nat.le_refl _
      rw [List.flatten_append, List.length_append] at this
      simp only [List.flatten_cons, List.flatten_nil, List.append_nil, List.length_nil, List.length_cons] at this ⊢
      omega
    · have e : Ma.rlStep (out, a) c = (out, a ++ [c]) := if_neg hc
      rw [e]
      have := Ma.rl_flat l out (a ++ [c])
      rw [List.length_append] at this
      simp only [List.length_cons, List.length_nil] at this ⊢
      omega
/-- Lines are few and short. -/
theorem Ma.rl_bounds (b : List UInt8) : (Ma.rl b).1.length ≤ b.length ∧ (Ma.rl b).1.flatten.length ≤ b.length := by
  have h1 := (Ma.rl_len b [] []).1
  have h2 := Ma.rl_flat b [] []
  simp at h1 h2
  exact ⟨h1, by unfold Ma.rl; simpa using h2⟩
theorem Ma.mem_flat {ls : List (List UInt8)} {x : List UInt8} (h : x ∈ ls) : x.length ≤ ls.flatten.length := by
  induction ls with
  | nil => cases h
  | cons y ls ih =>
    rw [List.flatten_cons, List.length_append]
    rcases List.mem_cons.1 h with rfl | h
    · omega
    · have := ih h; omega
theorem Ma.take_flat (ls : List (List UInt8)) (i : Nat) : (ls.take i).flatten.length ≤ ls.flatten.length := by
  conv => rhs; rw [← List.take_append_drop i ls, List.flatten_append, List.length_append]
  omega

theorem Ma.occ_iff {l : List UInt8} {j : Nat} : Lib.occAt l [58, 32] j = true ↔ l[j]? = some 58 ∧ l[j + 1]? = some 32 := by
  have e0 : (l.drop j)[0]? = l[j]? := by rw [List.getElem?_drop]; rfl
  have e1 : (l.drop j)[1]? = l[j + 1]? := by rw [List.getElem?_drop]
  unfold Lib.occAt
  rw [← e0, ← e1]
  generalize l.drop j = m
  cases m with
  | nil => simp
  | cons a m =>
    cases m with
    | nil => simp [List.isPrefixOf]
    | cons d m =>
      simp [List.isPrefixOf]
      constructor
      · rintro ⟨rfl, rfl⟩; exact ⟨rfl, rfl⟩
      · rintro ⟨rfl, rfl⟩; exact ⟨rfl, rfl⟩
theorem Ma.header_hit {l : List UInt8} {i : Nat} (h0 : ∀ j, j < i → Lib.occAt l [58, 32] j = false) (h1 : Lib.occAt l [58, 32] i = true) : Ma.header l = some (l.take i, l.drop (i + 2)) := by
  have hi : i ≤ l.length := by
    have := (Ma.occ_iff.1 h1).1
    have := (List.getElem?_eq_some_iff.1 this).1
    omega
  unfold Ma.header Lib.cut
  rcases Lib.index_spec l [58, 32] with ⟨h2, h3⟩ | ⟨k, h2, h3, h4, h5⟩
  · have := h3 i hi
    rw [h1] at this
    cases this
  · have e : k = i := by
      rcases Nat.lt_trichotomy k i with h | h | h
      · have := h0 k h
        rw [h4] at this
        cases this
      · exact h
      · have := h5 i h
        rw [h1] at this
        cases this
    subst e
    rw [h2]
    simp
theorem Ma.header_miss {l : List UInt8} {i : Nat} (h0 : ∀ j, j < i → Lib.occAt l [58, 32] j = false) (h1 : l.length ≤ i + 1) : Ma.header l = none := by
  unfold Ma.header Lib.cut
  rcases Lib.index_spec l [58, 32] with ⟨h2, h3⟩ | ⟨k, h2, h3, h4, h5⟩
  · rw [h2]; simp
  · have := (List.getElem?_eq_some_iff.1 (Ma.occ_iff.1 h4).2).1
    have := h0 k (by omega)
    rw [h4] at this
    cases this
end Go.Proofs.Ytbjhnfemlpbchaa
