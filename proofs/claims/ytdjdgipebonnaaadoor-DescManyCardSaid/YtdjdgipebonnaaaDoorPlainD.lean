/- Layer 17 in plain words: what a method's descriptor is made of. No program. -/
import Derived.Test.YtdjdgipebonnaaaDoorPlainC
namespace Go.Proofs.YtdjdgipebonnaaaDoor
open Go.RowKit

theorem De.paramsF_made : ∀ (f : Nat) (r : List UInt8) (ps : List (List UInt8)) (a : List UInt8), De.paramsF f r = some (ps, a) → r = ps.flatten ++ 41 :: a ∧ (∀ p ∈ ps, p ≠ []) ∧ (∀ p ∈ ps, De.field p = true)
  | 0, _, _, _, h => by cases h
  | f + 1, r, ps, a, h => by
    rw [De.paramsF] at h
    by_cases h1 : r.head? = some 41
    · rw [if_pos h1] at h
      cases r with
      | nil => cases h1
      | cons c t =>
        simp only [List.head?_cons, Option.some.injEq] at h1
        subst h1
        split at h
        · simp only [Option.some.injEq, Prod.mk.injEq] at h
          obtain ⟨rfl, rfl⟩ := h
          refine ⟨rfl, fun p hp => ?_, fun p hp => ?_⟩ <;> cases hp
        · cases h
    · rw [if_neg h1] at h
      by_cases h0 : De.cut r = 0
      · rw [if_pos h0] at h; cases h
      · rw [if_neg h0] at h
        obtain ⟨hf, h2, h3⟩ := De.cut_some h0
        obtain ⟨x, hx, hxe⟩ := Option.map_eq_some_iff.1 h
        obtain ⟨qs, b⟩ := x
        simp only [Prod.mk.injEq] at hxe
        obtain ⟨rfl, rfl⟩ := hxe
        obtain ⟨e1, e2, e3⟩ := De.paramsF_made f _ qs b hx
        refine ⟨?_, fun p hp => ?_, fun p hp => ?_⟩
        · rw [List.flatten_cons, List.append_assoc, ← e1]
          exact (List.take_append_drop _ _).symm
        · simp only [List.mem_cons] at hp
          rcases hp with rfl | hp
          · intro e
            rw [List.take_eq_nil_iff] at e
            rcases e with e | e
            · omega
            · subst e; simp at h2; omega
          · exact e2 p hp
        · simp only [List.mem_cons] at hp
          rcases hp with rfl | hp
          · exact hf
          · exact e3 p hp
theorem De.params_made {l a : List UInt8} {ps : List (List UInt8)} (h : De.params l = some (ps, a)) : l = 40 :: (ps.flatten ++ 41 :: a) ∧ (∀ p ∈ ps, p ≠ []) ∧ (∀ p ∈ ps, De.field p = true) := by
  unfold De.params at h
  by_cases h1 : l.head? = some 40
  · rw [if_pos h1] at h
    obtain ⟨e1, e2, e3⟩ := De.paramsF_made _ _ _ _ h
    cases l with
    | nil => cases h1
    | cons c t =>
      simp only [List.head?_cons, Option.some.injEq] at h1
      subst h1
      exact ⟨congrArg _ e1, e2, e3⟩
  · rw [if_neg h1] at h; cases h
theorem flat_le {p : List UInt8} : ∀ {ps : List (List UInt8)}, p ∈ ps → p.length ≤ ps.flatten.length
  | q :: ps, h => by
    simp only [List.mem_cons] at h
    rw [List.flatten_cons, List.length_append]
    rcases h with rfl | h
    · omega
    · have := flat_le h; omega
theorem flat_count : ∀ {ps : List (List UInt8)}, (∀ p ∈ ps, p ≠ []) → ps.length ≤ ps.flatten.length
  | [], _ => Nat.zero_le _
  | q :: ps, h => by
    have h1 : 0 < q.length := List.length_pos_iff.2 (h q (by simp))
    have h2 := flat_count (ps := ps) fun p hp => h p (by simp [hp])
    rw [List.flatten_cons, List.length_append, List.length_cons]
    omega
/-- All parts are no longer than the text, and no more than its signs. -/
theorem De.parList_le (l : List UInt8) : (∀ p ∈ De.parList l, p.length ≤ l.length) ∧ (De.parList l).length ≤ l.length := by
  unfold De.parList
  cases h : De.params l with
  | none => simp
  | some x =>
    obtain ⟨ps, a⟩ := x
    obtain ⟨e, h1, _⟩ := De.params_made h
    have hl : l.length = ps.flatten.length + a.length + 2 := by rw [e]; simp; omega
    refine ⟨fun p hp => ?_, ?_⟩
    · have := flat_le (p := p) (ps := ps) hp; omega
    · have := flat_count h1; show ps.length ≤ _; omega
theorem De.room_le (p : List UInt8) : De.room p ≤ 2 := by
  unfold De.room
  split
  · split <;> omega
  · omega
theorem De.sum_snoc (ps : List (List UInt8)) (p : List UInt8) : De.sum (ps ++ [p]) = De.sum ps + De.room p := by simp [De.sum]
theorem De.sum_le : ∀ ps : List (List UInt8), De.sum ps ≤ 2 * ps.length
  | [] => by simp [De.sum]
  | p :: ps => by
    have h1 := De.sum_le ps
    have h2 := De.room_le p
    simp only [De.sum, List.map_cons, List.sum_cons, List.length_cons] at h1 ⊢
    omega
/-- All parts' room; none beyond 255. -/
def De.rooms (l : List UInt8) : Option Nat := (De.params l).bind fun x => if De.sum x.1 ≤ 255 then some (De.sum x.1) else none
theorem De.rooms_no {l : List UInt8} (h : De.params l = none) : De.rooms l = none := by unfold De.rooms; rw [h]; rfl
theorem De.rooms_yes {l : List UInt8} (h : (De.params l).isSome = true) : De.rooms l = if De.sum (De.parList l) ≤ 255 then some (De.sum (De.parList l)) else none := by
  unfold De.rooms De.parList
  cases h1 : De.params l with
  | none => rw [h1] at h; cases h
  | some x => rfl
end Go.Proofs.YtdjdgipebonnaaaDoor
