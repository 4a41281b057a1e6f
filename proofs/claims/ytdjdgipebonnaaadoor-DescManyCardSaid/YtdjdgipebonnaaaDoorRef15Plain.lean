/- Layer 15's reference in plain words: cut by the first byte, then held against the unit's bytes. No program. -/
import Derived.Test.YtdjdgipebonnaaaDoorRef15
namespace Go.Proofs.YtdjdgipebonnaaaDoor
open Go.RowKit

theorem ofNat_eq_iff {n : Nat} (h : n < 256) (c : UInt8) : UInt8.ofNat n = c ↔ n = c.toNat := by
  rw [← UInt8.toNat_inj, toNat_ofNat h]
def Rf.n (r : List UInt8) : Nat := if 224 ≤ (r.headD 0).toNat then 3 else if 192 ≤ (r.headD 0).toNat then 2 else 1
def Rf.v (r : List UInt8) : Nat :=
  if 224 ≤ (r.headD 0).toNat then ((r.headD 0).toNat - 224) * 4096 + (r.getD 1 0).toNat % 64 * 64 + (r.getD 2 0).toNat % 64
  else if 192 ≤ (r.headD 0).toNat then ((r.headD 0).toNat - 192) * 64 + (r.getD 1 0).toNat % 64 else (r.headD 0).toNat
def Rf.ok (r : List UInt8) : Prop := Rf.n r ≤ r.length ∧ Rf.v r ≤ 65535 ∧ Ut.bytes1 (Rf.v r) = r.take (Rf.n r)
theorem Rf.one (c : UInt8) (r : List UInt8) (h : c.toNat < 192) : (Rf.ok (c :: r) ∧ Ut.next (c :: r) = (Rf.v (c :: r), Rf.n (c :: r))) ∨ (¬ Rf.ok (c :: r) ∧ (Ut.next (c :: r)).2 = 0) := by
  have hn : Rf.n (c :: r) = 1 := by unfold Rf.n; rw [List.headD_cons, if_neg (by omega), if_neg (by omega)]
  have hv : Rf.v (c :: r) = c.toNat := by unfold Rf.v; rw [List.headD_cons, if_neg (by omega), if_neg (by omega)]
  unfold Rf.ok
  rw [hn, hv]
  by_cases h1 : 1 ≤ c.toNat ∧ c.toNat < 128
  · left
    refine ⟨⟨by simp, by omega, ?_⟩, ?_⟩
    · unfold Ut.bytes1; rw [if_pos h1]; simp
    · unfold Ut.next; rw [List.headD_cons, if_pos (by omega)]
  · right
    refine ⟨fun h2 => ?_, ?_⟩
    · have h3 := h2.2.2
      unfold Ut.bytes1 at h3
      rw [if_neg h1, if_pos (by omega)] at h3
      simp at h3
    · unfold Ut.next; rw [List.headD_cons, if_neg (by omega), if_neg (by omega), if_neg (by omega)]
theorem Rf.two (c : UInt8) (r : List UInt8) (h : 192 ≤ c.toNat) (h' : c.toNat < 224) : (Rf.ok (c :: r) ∧ Ut.next (c :: r) = (Rf.v (c :: r), Rf.n (c :: r))) ∨ (¬ Rf.ok (c :: r) ∧ (Ut.next (c :: r)).2 = 0) := by
  have hn : Rf.n (c :: r) = 2 := by unfold Rf.n; rw [List.headD_cons, if_neg (by omega), if_pos h]
  unfold Rf.ok
  rw [hn]
  cases r with
  | nil =>
    right
    refine ⟨fun h2 => by have := h2.1; simp at this, ?_⟩
    unfold Ut.next; rw [List.headD_cons]
    rw [if_neg (by omega), if_pos (by omega), if_neg (fun h1 => by have := h1.1; simp [Ut.cont] at this)]
  | cons x r =>
    have hv : Rf.v (c :: x :: r) = (c.toNat - 192) * 64 + x.toNat % 64 := by unfold Rf.v; rw [List.headD_cons, if_neg (by omega), if_pos h]; rfl
    have hx := x.toNat_lt
    have hc1 : Ut.cont (c :: x :: r) 1 = decide (x.toNat / 64 = 2) := rfl
    have hf1 : Ut.fx (c :: x :: r) 1 = if x.toNat / 64 = 2 then x.toNat % 64 else 0 := rfl
    rw [hv]
    by_cases h1 : x.toNat / 64 = 2 ∧ ((c.toNat - 192) * 64 + x.toNat % 64 = 0 ∨ 128 ≤ (c.toNat - 192) * 64 + x.toNat % 64)
    · left
      have hu : Ut.u2 (c :: x :: r) = (c.toNat - 192) * 64 + x.toNat % 64 := by unfold Ut.u2; rw [hf1, if_pos h1.1]; rw [List.headD_cons]; omega
      refine ⟨⟨by simp, by omega, ?_⟩, ?_⟩
      · unfold Ut.bytes1
        rw [if_neg (by omega), if_pos (by omega)]
        show [_, _] = [c, x]
        rw [(ofNat_eq_iff (by omega) c).2 (by omega), (ofNat_eq_iff (by omega) x).2 (by omega)]
      · unfold Ut.next; rw [List.headD_cons]
        rw [if_neg (by omega), if_pos (by omega), hc1, hu, if_pos ⟨decide_eq_true h1.1, h1.2⟩]
    · right
      refine ⟨fun h2 => ?_, ?_⟩
      · have h3 := h2.2.2
        unfold Ut.bytes1 at h3
        by_cases h4 : 1 ≤ (c.toNat - 192) * 64 + x.toNat % 64 ∧ (c.toNat - 192) * 64 + x.toNat % 64 < 128
        · rw [if_pos h4] at h3; simp at h3
        · rw [if_neg h4, if_pos (by omega)] at h3
          simp only [List.take_succ_cons, List.take_zero, List.cons.injEq, and_true] at h3
          have h5 := (ofNat_eq_iff (by omega) x).1 h3.2
          omega
      · unfold Ut.next; rw [List.headD_cons]
        rw [if_neg (by omega), if_pos (by omega), if_neg (fun h2 => ?_)]
        obtain ⟨h2, h3⟩ := h2
        rw [hc1, decide_eq_true_eq] at h2
        have hu : Ut.u2 (c :: x :: r) = (c.toNat - 192) * 64 + x.toNat % 64 := by unfold Ut.u2; rw [hf1, if_pos h2]; rw [List.headD_cons]; omega
        rw [hu] at h3
        exact h1 ⟨h2, h3⟩
theorem Rf.three (c : UInt8) (r : List UInt8) (h : 224 ≤ c.toNat) : (Rf.ok (c :: r) ∧ Ut.next (c :: r) = (Rf.v (c :: r), Rf.n (c :: r))) ∨ (¬ Rf.ok (c :: r) ∧ (Ut.next (c :: r)).2 = 0) := by
  have hn : Rf.n (c :: r) = 3 := by unfold Rf.n; rw [List.headD_cons, if_pos h]
  have hc := c.toNat_lt
  unfold Rf.ok
  rw [hn]
  have short : (c :: r).length < 3 → (Ut.next (c :: r)).2 = 0 := by
    intro hs
    unfold Ut.next; rw [List.headD_cons]
    rw [if_neg (by omega), if_neg (by omega)]
    by_cases h16 : c.toNat / 16 = 14
    · rw [if_pos h16, if_neg (fun h1 => by have := Ut.cont_lt h1.2.1; omega)]
    · rw [if_neg h16]
  match r with
  | [] => exact .inr ⟨fun h2 => by have := h2.1; simp at this, short (by simp)⟩
  | [x] => exact .inr ⟨fun h2 => by have := h2.1; simp at this, short (by simp)⟩
  | x :: y :: r =>
    have hv : Rf.v (c :: x :: y :: r) = (c.toNat - 224) * 4096 + x.toNat % 64 * 64 + y.toNat % 64 := by unfold Rf.v; rw [List.headD_cons, if_pos h]; rfl
    have hx := x.toNat_lt
    have hy := y.toNat_lt
    have hc1 : Ut.cont (c :: x :: y :: r) 1 = decide (x.toNat / 64 = 2) := rfl
    have hc2 : Ut.cont (c :: x :: y :: r) 2 = decide (y.toNat / 64 = 2) := rfl
    have hf1 : Ut.fx (c :: x :: y :: r) 1 = if x.toNat / 64 = 2 then x.toNat % 64 else 0 := rfl
    have hf2 : Ut.fx (c :: x :: y :: r) 2 = if y.toNat / 64 = 2 then y.toNat % 64 else 0 := rfl
    rw [hv]
    by_cases h1 : c.toNat < 240 ∧ x.toNat / 64 = 2 ∧ y.toNat / 64 = 2 ∧ 2048 ≤ (c.toNat - 224) * 4096 + x.toNat % 64 * 64 + y.toNat % 64
    · left
      obtain ⟨k0, k1, k2, k3⟩ := h1
      have hu : Ut.u3 (c :: x :: y :: r) = (c.toNat - 224) * 4096 + x.toNat % 64 * 64 + y.toNat % 64 := by unfold Ut.u3; rw [hf1, if_pos k1, hf2, if_pos k2]; rw [List.headD_cons]; omega
      refine ⟨⟨by simp, by omega, ?_⟩, ?_⟩
      · unfold Ut.bytes1
        rw [if_neg (by omega), if_neg (by omega)]
        show [_, _, _] = [c, x, y]
        rw [(ofNat_eq_iff (by omega) c).2 (by omega), (ofNat_eq_iff (by omega) x).2 (by omega), (ofNat_eq_iff (by omega) y).2 (by omega)]
      · unfold Ut.next; rw [List.headD_cons]
        rw [if_neg (by omega), if_neg (by omega), if_pos (by omega), hc1, hc2, hu, if_pos ⟨decide_eq_true k1, decide_eq_true k2, k3⟩]
    · right
      refine ⟨fun h2 => ?_, ?_⟩
      · have h3 := h2.2.2
        have h6 := h2.2.1
        unfold Ut.bytes1 at h3
        by_cases h4 : 1 ≤ (c.toNat - 224) * 4096 + x.toNat % 64 * 64 + y.toNat % 64 ∧ (c.toNat - 224) * 4096 + x.toNat % 64 * 64 + y.toNat % 64 < 128
        · rw [if_pos h4] at h3; simp at h3
        · rw [if_neg h4] at h3
          by_cases h5 : (c.toNat - 224) * 4096 + x.toNat % 64 * 64 + y.toNat % 64 < 2048
          · rw [if_pos h5] at h3; simp at h3
          · rw [if_neg h5] at h3
            simp only [List.take_succ_cons, List.take_zero, List.cons.injEq, and_true] at h3
            have h7 := (ofNat_eq_iff (by omega) x).1 h3.2.1
            have h8 := (ofNat_eq_iff (by omega) y).1 h3.2.2
            omega
      · unfold Ut.next; rw [List.headD_cons]
        rw [if_neg (by omega), if_neg (by omega)]
        by_cases h16 : c.toNat / 16 = 14
        · rw [if_pos h16, if_neg (fun h2 => ?_)]
          obtain ⟨h2, h3, h4⟩ := h2
          rw [hc1, decide_eq_true_eq] at h2
          rw [hc2, decide_eq_true_eq] at h3
          have hu : Ut.u3 (c :: x :: y :: r) = (c.toNat - 224) * 4096 + x.toNat % 64 * 64 + y.toNat % 64 := by unfold Ut.u3; rw [hf1, if_pos h2, hf2, if_pos h3]; rw [List.headD_cons]; omega
          rw [hu] at h4
          exact h1 ⟨by omega, h2, h3, h4⟩
        · rw [if_neg h16]
/-- What the reference finds at a row's head is what the program finds. -/
theorem Rf.step {r : List UInt8} (hr : r ≠ []) : (Rf.ok r ∧ Ut.next r = (Rf.v r, Rf.n r)) ∨ (¬ Rf.ok r ∧ (Ut.next r).2 = 0) := by
  cases r with
  | nil => exact absurd rfl hr
  | cons c r =>
    by_cases h : c.toNat < 192
    · exact Rf.one c r h
    · by_cases h' : c.toNat < 224
      · exact Rf.two c r (by omega) h'
      · exact Rf.three c r (by omega)
end Go.Proofs.YtdjdgipebonnaaaDoor
