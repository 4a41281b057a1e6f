/- Layer 17 in plain words: a method's descriptors. No program. -/
import Derived.Test.YtdjdgipebonnaaaDoorPlainB
namespace Go.Proofs.YtdjdgipebonnaaaDoor
open Go.RowKit

theorem indexByte_cons (b c : UInt8) (l : List UInt8) : Lib.indexByte (b :: l) c = if b == c then 0 else if Lib.indexByte l c == -1 then -1 else Lib.indexByte l c + 1 := rfl
theorem indexByte_lt (c : UInt8) : ∀ l : List UInt8, Lib.indexByte l c < l.length ∨ l = []
  | [] => .inr rfl
  | b :: l => by
    left
    rw [indexByte_cons]
    have ih := indexByte_lt c l
    split
    · simp only [List.length_cons]; omega
    · split
      · simp only [List.length_cons]; omega
      · rcases ih with h | h
        · simp only [List.length_cons]; omega
        · subst h; rename_i h; exact absurd rfl h
theorem indexByte_at (c : UInt8) (ys : List UInt8) : ∀ xs : List UInt8, xs.contains c = false → Lib.indexByte (xs ++ c :: ys) c = xs.length
  | [], _ => by rw [List.nil_append, indexByte_cons]; simp
  | b :: xs, h => by
    simp only [List.contains_cons, Bool.or_eq_false_iff] at h
    have hb : (b == c) = false := by
      have := h.1
      rw [beq_eq_false_iff_ne] at this ⊢
      exact fun e => this e.symm
    rw [List.cons_append, indexByte_cons, hb, indexByte_at c ys xs h.2]
    simp only [Bool.false_eq_true, if_false]
    rw [if_neg (by intro h; have := eq_of_beq h; omega)]
    simp
/-- Where a descriptor that begins here would end. -/
def De.cutAt (l : List UInt8) : Int := if l.getD (De.dims l) 0 = 76 then De.dims l + Lib.indexByte (l.drop (De.dims l)) 59 else De.dims l
/-- How long the descriptor ahead is; 0: there is none. -/
def De.cut (l : List UInt8) : Nat := if l.length ≤ De.dims l then 0 else if De.cutAt l < 0 then 0 else if De.field (l.take ((De.cutAt l).toNat + 1)) = true then (De.cutAt l).toNat + 1 else 0
theorem De.cutAt_lt {l : List UInt8} (h : De.dims l < l.length) : De.cutAt l < l.length := by
  unfold De.cutAt
  split
  · rcases indexByte_lt 59 (l.drop (De.dims l)) with h1 | h1
    · rw [List.length_drop] at h1; omega
    · rw [List.drop_eq_nil_iff] at h1; omega
  · omega
theorem De.cut_some {l : List UInt8} (h : De.cut l ≠ 0) : De.field (l.take (De.cut l)) = true ∧ De.cut l ≤ l.length ∧ 1 ≤ De.cut l := by
  unfold De.cut at h ⊢
  by_cases h1 : l.length ≤ De.dims l
  · rw [if_pos h1] at h; exact absurd rfl h
  · rw [if_neg h1] at h ⊢
    have hlt := De.cutAt_lt (Nat.lt_of_not_le h1)
    by_cases h2 : De.cutAt l < 0
    · rw [if_pos h2] at h; exact absurd rfl h
    · rw [if_neg h2] at h ⊢
      by_cases h3 : De.field (l.take ((De.cutAt l).toNat + 1)) = true
      · rw [if_pos h3]; exact ⟨h3, by omega, by omega⟩
      · rw [if_neg h3] at h; exact absurd rfl h
theorem De.field_few {l : List UInt8} {n : Nat} (h : n ≤ De.dims l) : De.field (l.take n) = false := by
  have e : l.take n = List.replicate n 91 ++ [] := by
    have h1 := congrArg (List.take n) (De.take_dims l)
    rw [List.take_take, Nat.min_eq_left h] at h1
    rw [h1, List.take_replicate, Nat.min_eq_left h, List.append_nil]
  rw [e, De.field_app n [] (by simp)]
  simp [De.base]
theorem De.field_take {l : List UInt8} {m : Nat} : De.field (l.take (De.dims l + m)) = (decide (De.dims l ≤ 255) && De.base ((l.drop (De.dims l)).take m)) := by
  have e : l.take (De.dims l + m) = List.replicate (De.dims l) 91 ++ (l.drop (De.dims l)).take m := by
    have h1 : (List.replicate (De.dims l) 91 ++ l.drop (De.dims l)).take (De.dims l + m) = List.replicate (De.dims l) 91 ++ (l.drop (De.dims l)).take m := by
      rw [List.take_append, List.length_replicate, List.take_of_length_le (by simp)]
      congr 2
      omega
    rw [← De.parts l] at h1
    exact h1
  rw [e, De.field_app]
  cases m with
  | zero => simp
  | succ m =>
    have := De.drop_dims_ne l
    cases hd : l.drop (De.dims l) with
    | nil => simp
    | cons c t => rw [hd] at this; simpa using this
/-- Whatever beginning is a descriptor: it is the one that is cut. -/
theorem De.cut_of {l : List UInt8} {n : Nat} (hn : n ≤ l.length) (hf : De.field (l.take n) = true) : De.cut l = n := by
  have hdn : De.dims l < n := by
    rcases Nat.lt_or_ge (De.dims l) n with h | h
    · exact h
    · rw [De.field_few h] at hf; cases hf
  obtain ⟨m, rfl⟩ : ∃ m, n = De.dims l + m := ⟨n - De.dims l, by omega⟩
  have hf0 := hf
  rw [De.field_take] at hf
  simp only [Bool.and_eq_true, decide_eq_true_eq] at hf
  obtain ⟨h255, hb⟩ := hf
  have hrl : (l.drop (De.dims l)).length = l.length - De.dims l := List.length_drop
  have hcut : De.cutAt l = ((De.dims l + m - 1 : Nat) : Int) := by
    unfold De.cutAt
    have hg : l.getD (De.dims l) 0 = (l.drop (De.dims l)).getD 0 0 := by simp [List.getD, List.getElem?_drop]
    rw [hg]
    generalize l.drop (De.dims l) = r at *
    match r with
    | [] => simp at hrl; omega
    | c :: t =>
      have hg2 : (c :: t).getD 0 0 = c := rfl
      rw [hg2]
      match m, hdn, hn, hb with
      | 1, _, _, hb =>
        simp only [List.take_succ_cons, List.take_zero] at hb
        have hc : c ≠ 76 := by rintro rfl; revert hb; decide
        rw [if_neg hc]
        congr 1
      | m + 2, _, hn, hb =>
        have hne : t.take (m + 1) ≠ [] := by
          intro e
          rw [List.take_eq_nil_iff] at e
          rcases e with e | e
          · omega
          · subst e; simp at hrl; omega
        obtain ⟨d, u, hu⟩ : ∃ d u, t.take (m + 1) = d :: u := by
          cases h : t.take (m + 1) with
          | nil => exact absurd h hne
          | cons d u => exact ⟨d, u, rfl⟩
        rw [List.take_succ_cons, hu, De.base_two] at hb
        simp only [Bool.and_eq_true, decide_eq_true_eq] at hb
        obtain ⟨⟨rfl, hlast⟩, hcl⟩ := hb
        rw [if_pos rfl]
        have hno : (d :: u).dropLast.contains 59 = false := by
          rw [Bool.eq_false_iff]
          intro h
          have hh : De.has [46, 59, 91] (d :: u).dropLast = true := List.any_eq_true.2 ⟨59, by rwa [List.contains_iff_mem] at h, by decide⟩
          unfold De.cls at hcl
          rw [hh] at hcl
          simp at hcl
        have hdec : d :: u = (d :: u).dropLast ++ [59] := by
          have h1 := List.dropLast_concat_getLast (l := d :: u) (by simp)
          have h2 : (d :: u).getLast (by simp) = 59 := by
            rw [List.getLast?_eq_some_getLast (by simp)] at hlast
            exact Option.some.inj hlast
          rw [h2] at h1
          exact h1.symm
        have ht : (76 : UInt8) :: t = (76 :: (d :: u).dropLast) ++ 59 :: t.drop (m + 1) := by
          have h1 : t = t.take (m + 1) ++ t.drop (m + 1) := (List.take_append_drop _ _).symm
          rw [hu, hdec] at h1
          exact (congrArg (fun x => (76 : UInt8) :: x) h1).trans (by simp)
        have hlen : (d :: u).dropLast.length = m := by
          rw [List.length_dropLast, ← hu, List.length_take]
          simp at hrl
          omega
        have hi : Lib.indexByte (76 :: t) 59 = ((76 :: (d :: u).dropLast : List UInt8).length : Int) := by
          rw [ht]
          exact indexByte_at 59 _ _ (by rw [List.contains_cons, hno]; decide)
        rw [hi, List.length_cons, hlen]
        omega
  unfold De.cut
  rw [if_neg (by omega), hcut, if_neg (by omega)]
  have e1 : (((De.dims l + m - 1 : Nat) : Int)).toNat + 1 = De.dims l + m := by omega
  rw [e1, if_pos hf0]
theorem De.cut_none {l : List UInt8} (h : ∀ n, 1 ≤ n → n ≤ l.length → De.field (l.take n) = false) : De.cut l = 0 := by
  rcases Nat.eq_zero_or_pos (De.cut l) with h0 | h0
  · exact h0
  · obtain ⟨h1, h2, h3⟩ := De.cut_some (l := l) (by omega)
    rw [h _ h3 h2] at h1
    cases h1

/-! ### a method's descriptor -/
def De.paramsF : Nat → List UInt8 → Option (List (List UInt8) × List UInt8)
  | 0, _ => none
  | f + 1, r => if r.head? = some 41 then (if r.drop 1 = [86] ∨ De.field (r.drop 1) = true then some ([], r.drop 1) else none)
      else if De.cut r = 0 then none else (De.paramsF f (r.drop (De.cut r))).map fun x => (r.take (De.cut r) :: x.1, x.2)
/-- What follows the opening bracket. -/
def De.rest (r : List UInt8) : Option (List (List UInt8) × List UInt8) := De.paramsF (r.length + 1) r
theorem De.paramsF_enough : ∀ (f g : Nat) (r : List UInt8), r.length < f → r.length < g → De.paramsF f r = De.paramsF g r
  | 0, _, _, h, _ => absurd h (Nat.not_lt_zero _)
  | _ + 1, 0, _, _, h => absurd h (Nat.not_lt_zero _)
  | f + 1, g + 1, r, h1, h2 => by
    unfold De.paramsF
    by_cases h3 : r.head? = some 41
    · rw [if_pos h3, if_pos h3]
    · rw [if_neg h3, if_neg h3]
      by_cases h4 : De.cut r = 0
      · rw [if_pos h4, if_pos h4]
      · rw [if_neg h4, if_neg h4]
        obtain ⟨_, h5, h6⟩ := De.cut_some h4
        rw [De.paramsF_enough f g (r.drop (De.cut r)) (by rw [List.length_drop]; omega) (by rw [List.length_drop]; omega)]
theorem De.rest_close {r : List UInt8} (h : r.head? = some 41) : De.rest r = if r.drop 1 = [86] ∨ De.field (r.drop 1) = true then some ([], r.drop 1) else none := by
  unfold De.rest De.paramsF; rw [if_pos h]
theorem De.rest_stop {r : List UInt8} (h : r.head? ≠ some 41) (h0 : De.cut r = 0) : De.rest r = none := by
  unfold De.rest De.paramsF; rw [if_neg h, if_pos h0]
theorem De.rest_step {r : List UInt8} (h : r.head? ≠ some 41) (h0 : De.cut r ≠ 0) : De.rest r = (De.rest (r.drop (De.cut r))).map fun x => (r.take (De.cut r) :: x.1, x.2) := by
  obtain ⟨_, h5, h6⟩ := De.cut_some h0
  have e : De.rest r = (De.paramsF r.length (r.drop (De.cut r))).map fun x => (r.take (De.cut r) :: x.1, x.2) := by
    unfold De.rest
    rw [De.paramsF, if_neg h, if_neg h0]
  rw [e]
  unfold De.rest
  rw [De.paramsF_enough r.length ((r.drop (De.cut r)).length + 1) _ (by rw [List.length_drop]; omega) (by omega)]
/-- What a text tells as a method's descriptor. -/
def De.params (l : List UInt8) : Option (List (List UInt8) × List UInt8) := if l.head? = some 40 then De.rest (l.drop 1) else none
def De.parList (l : List UInt8) : List (List UInt8) := ((De.params l).map (·.1)).getD []
def De.parAns (l : List UInt8) : List UInt8 := ((De.params l).map (·.2)).getD []
def De.sum (ps : List (List UInt8)) : Nat := (ps.map De.room).sum
end Go.Proofs.YtdjdgipebonnaaaDoor
