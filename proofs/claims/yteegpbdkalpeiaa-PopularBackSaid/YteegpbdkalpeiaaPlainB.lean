/- Layer 25 in plain words: which row is told. No program. -/
import Derived.Test.YteegpbdkalpeiaaWalksE
namespace Go.Proofs.Yteegpbdkalpeiaa
open Go.RowKit

/-- The number at a place of the row. -/
def Po.el (fs ts rs : List Int) (i : Nat) : Int := if 0 < ts.getD i 0 then fs.getD (ts.getD i 0 - 1).toNat 0 else rs.getD ((ts.take i).count 0) 0
def Po.rowN (fs ts rs : List Int) (n : Nat) : List Int := (List.range n).map (Po.el fs ts rs)
theorem Po.rowN_length (fs ts rs : List Int) (n : Nat) : (Po.rowN fs ts rs n).length = n := by unfold Po.rowN; simp
theorem Po.rowN_succ (fs ts rs : List Int) (n : Nat) : Po.rowN fs ts rs (n + 1) = Po.rowN fs ts rs n ++ [Po.el fs ts rs n] := by
  unfold Po.rowN
  rw [List.range_succ, List.map_append]
  rfl
theorem Po.rowN_get (fs ts rs : List Int) (n j : Nat) (x : Int) (h : (Po.rowN fs ts rs n)[j]? = some x) : j < n ∧ x = Po.el fs ts rs j := by
  unfold Po.rowN at h
  rw [List.getElem?_map] at h
  cases hr : (List.range n)[j]? with
  | none => rw [hr] at h; simp at h
  | some y =>
    rw [hr] at h
    obtain ⟨h1, h2⟩ := List.getElem?_eq_some_iff.1 hr
    simp at h1 h2 h
    exact ⟨h1, by rw [← h, h2]⟩
/-- What is told: the row, or nothing. -/
def Po.out (fs ts rs : List Int) : List Int := if Po.err fs ts rs = 0 then Po.rowN fs ts rs ts.length else []
/-- No reason: so each token is a place or nought, and there are just enough numbers. -/
theorem Po.err_zero {fs ts rs : List Int} (h : Po.err fs ts rs = 0) : Po.bad fs ts = false ∧ Po.twice fs rs = false ∧ ts.count 0 = rs.length := by
  unfold Po.err at h
  cases hb : Po.bad fs ts with
  | true => rw [hb] at h; simp at h
  | false =>
    cases ht : Po.twice fs rs with
    | true => rw [hb, ht] at h; simp at h
    | false =>
      rw [hb, ht] at h
      refine ⟨rfl, rfl, ?_⟩
      simp only [Bool.false_eq_true, if_false] at h
      split at h
      · simp at h
      · split at h
        · simp at h
        · omega
theorem Po.bad_at {fs ts : List Int} (h : Po.bad fs ts = false) {i : Nat} {x : Int} (hx : ts[i]? = some x) : 0 ≤ x ∧ x ≤ fs.length := by
  have := List.any_eq_false.1 h x (List.mem_of_getElem? hx)
  simp at this
  omega
theorem getD_of {α : Type} {l : List α} {i : Nat} {x d : α} (h : l[i]? = some x) : l.getD i d = x := by simp [List.getD, h]
theorem Po.el_place {fs ts rs : List Int} {i m : Nat} {y : Int} (hx : ts[i]? = some ((m + 1 : Nat) : Int)) (hy : fs[m]? = some y) : Po.el fs ts rs i = y := by
  unfold Po.el
  rw [getD_of hx, if_pos (by omega)]
  have : (((m + 1 : Nat) : Int) - 1).toNat = m := by omega
  rw [this, getD_of hy]
theorem Po.el_rest {fs ts rs : List Int} {i : Nat} {y : Int} (hx : ts[i]? = some 0) (hy : rs[(ts.take i).count 0]? = some y) : Po.el fs ts rs i = y := by
  unfold Po.el
  rw [getD_of hx, if_neg (by omega), getD_of hy]
/-- A nought ahead: so a number is left. -/
theorem Po.room {ts : List Int} {i : Nat} (hx : ts[i]? = some 0) : (ts.take i).count 0 < ts.count 0 := by
  have h1 := take_snocI ts i 0 hx
  have h2 : (ts.take (i + 1)).count 0 ≤ ts.count 0 := (List.take_sublist _ _).count_le _
  rw [h1, count_snoc, if_pos rfl] at h2
  omega
theorem Po.count_step {ts : List Int} {i : Nat} {x : Int} (hx : ts[i]? = some x) : (ts.take (i + 1)).count 0 = (ts.take i).count 0 + if x = 0 then 1 else 0 := by
  rw [take_snocI ts i x hx, count_snoc]
theorem nodup_count : ∀ (l : List Int), l.Nodup ↔ ∀ a, l.count a ≤ 1
  | [] => by simp
  | x :: l => by
    rw [List.nodup_cons, nodup_count l]
    constructor
    · rintro ⟨h1, h2⟩ a
      rw [List.count_cons]
      by_cases e : x = a
      · subst e; rw [List.count_eq_zero_of_not_mem h1]; simp
      · simp [e]; exact h2 a
    · intro h
      refine ⟨fun hx => ?_, fun a => ?_⟩
      · have h1 := h x
        have h2 := List.count_pos_iff.2 hx
        rw [List.count_cons_self] at h1
        omega
      · have h1 := h a
        rw [List.count_cons] at h1
        omega
/-- The document's reasons are the program's. -/
theorem Po.twice_iff (fs rs : List Int) : Po.twice fs rs = true ↔ ∃ f ∈ fs, fs.count f > 1 ∨ rs.count f > 0 := by
  unfold Po.twice
  rw [Bool.or_eq_true, Bool.not_eq_true', decide_eq_false_iff_not, List.any_eq_true]
  constructor
  · rintro (h | ⟨x, hx, h⟩)
    · apply Classical.byContradiction
      intro hn
      refine h ((nodup_count fs).2 (fun a => ?_))
      by_cases ha : a ∈ fs
      · rcases Nat.lt_or_ge 1 (fs.count a) with h1 | h1
        · exact absurd ⟨a, ha, .inl h1⟩ hn
        · exact h1
      · rw [List.count_eq_zero_of_not_mem ha]; omega
    · have : x ∈ fs := Classical.not_not.1 (fun hn => by
        have := Po.at_zero.2 hn
        simp [this] at h)
      exact ⟨x, this, .inr (List.count_pos_iff.2 hx)⟩
  · rintro ⟨f, hf, h | h⟩
    · exact .inl (fun hn => by have := (nodup_count fs).1 hn f; omega)
    · refine .inr ⟨f, List.count_pos_iff.1 h, ?_⟩
      have : Po.at fs f ≠ 0 := fun h0 => Po.at_zero.1 h0 hf
      simp; omega
end Go.Proofs.Yteegpbdkalpeiaa
