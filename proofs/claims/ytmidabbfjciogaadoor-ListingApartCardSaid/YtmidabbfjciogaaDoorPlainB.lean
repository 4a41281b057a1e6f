/- Layer 35 in plain words: unlike texts are shown unlike, by plain signs. -/
import Derived.Test.YtmidabbfjciogaaDoorWalksG
namespace Go.Proofs.YtmidabbfjciogaaDoor
open Go.RowKit

theorem hexd_inj : ∀ m n : Fin 16, Li.hexd m.val = Li.hexd n.val → m = n := by decide
theorem hexd_plain : ∀ n : Fin 16, 33 ≤ (Li.hexd n.val).toNat ∧ (Li.hexd n.val).toNat ≤ 126 := by decide
theorem odd_iff (c : UInt8) : Li.odd c = true ↔ (c.toNat < 33 ∨ 126 < c.toNat ∨ c.toNat = 37) := by simp [Li.odd, or_assoc]
theorem show1_plain (c : UInt8) : ∀ b ∈ Li.show1 c, 33 ≤ b.toNat ∧ b.toNat ≤ 126 := by
  intro b hb
  have hc := c.toNat_lt
  unfold Li.show1 at hb
  split at hb
  · simp at hb
    rcases hb with rfl | rfl | rfl
    · decide
    · exact hexd_plain ⟨c.toNat / 16, by omega⟩
    · exact hexd_plain ⟨c.toNat % 16, by omega⟩
  · rename_i ho
    rw [odd_iff] at ho
    simp at hb
    subst hb
    omega
theorem text_plain (l : List UInt8) : ∀ b ∈ Li.text l, 33 ≤ b.toNat ∧ b.toNat ≤ 126 := by
  intro b hb
  obtain ⟨c, _, h⟩ := List.mem_flatMap.1 hb
  exact show1_plain c b h
theorem show1_inj {c d : UInt8} {x y : List UInt8} (h : Li.show1 c ++ x = Li.show1 d ++ y) : c = d ∧ x = y := by
  have hc := c.toNat_lt
  have hd := d.toNat_lt
  unfold Li.show1 at h
  by_cases h1 : Li.odd c = true <;> by_cases h2 : Li.odd d = true
  · rw [if_pos h1, if_pos h2] at h
    simp at h
    obtain ⟨e1, e2, e3⟩ := h
    have k1 := hexd_inj ⟨c.toNat / 16, by omega⟩ ⟨d.toNat / 16, by omega⟩ e1
    have k2 := hexd_inj ⟨c.toNat % 16, by omega⟩ ⟨d.toNat % 16, by omega⟩ e2
    simp at k1 k2
    exact ⟨UInt8.toNat_inj.1 (by omega), e3⟩
  · rw [if_pos h1, if_neg h2] at h
    simp at h
    exact absurd ((odd_iff d).2 (by rw [← h.1]; decide)) h2
  · rw [if_neg h1, if_pos h2] at h
    simp at h
    exact absurd ((odd_iff c).2 (by rw [h.1]; decide)) h1
  · rw [if_neg h1, if_neg h2] at h
    simpa using h
theorem text_inj : ∀ {a b : List UInt8}, Li.text a = Li.text b → a = b
  | [], [], _ => rfl
  | [], d :: b, h => by
    exfalso
    have : (Li.text (d :: b)).length ≠ 0 := by simp only [Li.text, List.flatMap_cons, List.length_append]; unfold Li.show1; split <;> simp
    rw [← h] at this
    exact this rfl
  | c :: a, [], h => by
    exfalso
    have : (Li.text (c :: a)).length ≠ 0 := by simp only [Li.text, List.flatMap_cons, List.length_append]; unfold Li.show1; split <;> simp
    rw [h] at this
    exact this rfl
  | c :: a, d :: b, h => by
    simp only [Li.text, List.flatMap_cons] at h
    obtain ⟨rfl, h2⟩ := show1_inj h
    rw [text_inj (a := a) (b := b) h2]
end Go.Proofs.YtmidabbfjciogaaDoor
