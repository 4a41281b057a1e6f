/- Layer 9, the plain law of signs: the greatest sign whose base is at most a number is one. -/
import Derived.Lib.Hide
namespace Go.Proofs.Ytjbbhfloomejoaa
/-- A length's base, and how many bits are added, by signs from 257 on. -/
def Bl.lenB (s : Nat) : Nat := if s = 285 then 258 else if s < 265 then s - 254 else (4 + (s - 257) % 4) * 2 ^ ((s - 257) / 4 - 1) + 3
def Bl.lenX (s : Nat) : Nat := if s = 285 then 0 else if s < 265 then 0 else (s - 257) / 4 - 1
/-- A distance's. -/
def Bl.farB (s : Nat) : Nat := if s < 4 then s + 1 else (2 + s % 2) * 2 ^ (s / 2 - 1) + 1
def Bl.farX (s : Nat) : Nat := if s < 4 then 0 else s / 2 - 1
/-- r is the greatest sign between first and last whose base is at most n. -/
def Bl.Is (f : Nat → Nat) (first last n r : Nat) : Prop := first ≤ r ∧ r ≤ last ∧ f r ≤ n ∧ ∀ s, r < s → s ≤ last → n < f s
theorem Bl.Is.one {f : Nat → Nat} {first last n r q : Nat} (h : Bl.Is f first last n r) (k : Bl.Is f first last n q) : r = q := by
  rcases Nat.lt_trichotomy r q with e | e | e
  · have := h.2.2.2 q e k.2.1; have := k.2.2.1; omega
  · exact e
  · have := k.2.2.2 r e h.2.1; have := h.2.2.1; omega
theorem Bl.len_rise : ∀ s : Fin 28, Bl.lenB (257 + s.val) < Bl.lenB (257 + s.val + 1) := by decide
theorem Bl.far_rise : ∀ s : Fin 29, Bl.farB s.val < Bl.farB (s.val + 1) := by decide
theorem Bl.rising {f : Nat → Nat} {first last : Nat} (h : ∀ s, first ≤ s → s < last → f s < f (s + 1)) : ∀ (d s : Nat), first ≤ s → s + d ≤ last → f s ≤ f (s + d)
  | 0, _, _, _ => Nat.le_refl _
  | d + 1, s, h1, h2 => by
    have e1 := Bl.rising h d s h1 (by omega)
    have e2 := h (s + d) (by omega) (by omega)
    have : s + (d + 1) = s + d + 1 := by omega
    rw [this]
    omega
theorem Bl.len_le {s t : Nat} (h1 : 257 ≤ s) (h2 : s ≤ t) (h3 : t ≤ 285) : Bl.lenB s ≤ Bl.lenB t := by
  have := Bl.rising (f := Bl.lenB) (first := 257) (last := 285) (fun s h1 h2 => by
    have h := Bl.len_rise ⟨s - 257, by omega⟩
    have e : 257 + (s - 257) = s := by omega
    simp only [e] at h
    exact h) (t - s) s h1 (by omega)
  rwa [Nat.add_sub_cancel' h2] at this
theorem Bl.far_le {s t : Nat} (h2 : s ≤ t) (h3 : t ≤ 29) : Bl.farB s ≤ Bl.farB t := by
  have := Bl.rising (f := Bl.farB) (first := 0) (last := 29) (fun s _ h2 => Bl.far_rise ⟨s, h2⟩) (t - s) s (Nat.zero_le _) (by omega)
  rwa [Nat.add_sub_cancel' h2] at this
end Go.Proofs.Ytjbbhfloomejoaa
