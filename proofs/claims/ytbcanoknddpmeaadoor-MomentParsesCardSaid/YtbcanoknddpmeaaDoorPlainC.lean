/- Layer 11 in plain words: what is printed is parsed; what may be is joined of its parts. -/
import Derived.Test.YtbcanoknddpmeaaDoorWalksK
namespace Go.Proofs.YtbcanoknddpmeaaDoor.Mo
open Go.RowKit

theorem two_all (n : Int) : (Mo.two n).all Mo.digit = true := by
  have h1 : 48 ≤ (UInt8.ofNat (48 + n.toNat / 10 % 10)).toNat ∧ (UInt8.ofNat (48 + n.toNat / 10 % 10)).toNat ≤ 57 := by rw [toNat_ofNat (by omega)]; omega
  have h2 : 48 ≤ (UInt8.ofNat (48 + n.toNat % 10)).toNat ∧ (UInt8.ofNat (48 + n.toNat % 10)).toNat ≤ 57 := by rw [toNat_ofNat (by omega)]; omega
  unfold Mo.two Mo.digit
  simp only [List.all_cons, List.all_nil, Bool.and_true, Bool.and_eq_true, decide_eq_true_eq]
  exact ⟨h1, h2⟩
theorem numL_two (a n : Int) (h0 : 0 ≤ n) (h1 : n ≤ 99) : (Mo.two n).foldl (fun n b => n * 10 + ((b.toNat : Int) - 48)) a = a * 100 + n := by
  unfold Mo.two
  simp only [List.foldl_cons, List.foldl_nil]
  rw [toNat_ofNat (by omega), toNat_ofNat (by omega)]
  omega
theorem num_two (n : Int) (h0 : 0 ≤ n) (h1 : n ≤ 99) : Mo.num (Mo.two n) = n := by
  unfold Mo.num
  rw [two_all, if_pos rfl]
  unfold Mo.numL
  rw [numL_two 0 n h0 h1]; omega
theorem num_four (y : Int) (h0 : 0 ≤ y) (h1 : y ≤ 9999) : Mo.num (Mo.two (y / 100) ++ Mo.two (y % 100)) = y := by
  unfold Mo.num
  rw [List.all_append, two_all, two_all, Bool.and_self, if_pos rfl]
  unfold Mo.numL
  rw [List.foldl_append, numL_two 0 _ (by omega) (by omega), numL_two _ _ (by omega) (by omega)]; omega
theorem print_len (d c : Int) : (Mo.print d c).length = 19 := rfl

theorem join_split (d c : Int) (hd : 0 ≤ d ∧ d ≤ 65535) (hc : 0 ≤ c ∧ c ≤ 65535) : Mo.join (1980 + d / 512) (d / 32 % 16) (d % 32) (c / 2048) (c / 32 % 64) (c % 32 * 2) = if Mo.may d c = true then (d, c, 0) else (0, 0, 5) := by
  unfold Mo.join
  have e : Mo.ok (1980 + d / 512) (d / 32 % 16) (d % 32) (c / 2048) (c / 32 % 64) (c % 32 * 2) = Mo.may d c := rfl
  rw [e]
  split
  · rw [if_neg (by omega)]
    have h1 : (1980 + d / 512 - 1980) * 512 + d / 32 % 16 * 32 + d % 32 = d := by omega
    have h2 : c / 2048 * 2048 + c / 32 % 64 * 32 + c % 32 * 2 / 2 = c := by omega
    rw [h1, h2]
  · rfl
theorem six_print (d c : Int) (hd : 0 ≤ d ∧ d ≤ 65535) (hc : 0 ≤ c ∧ c ≤ 65535) : Mo.six (Mo.print d c) = if Mo.may d c = true then (d, c, 0) else (0, 0, 5) := by
  rw [← join_split d c hd hc]
  unfold Mo.six
  have e1 : (Mo.print d c).take 4 = Mo.two ((1980 + d / 512) / 100) ++ Mo.two ((1980 + d / 512) % 100) := rfl
  have e2 : ((Mo.print d c).drop 5).take 2 = Mo.two (d / 32 % 16) := rfl
  have e3 : ((Mo.print d c).drop 8).take 2 = Mo.two (d % 32) := rfl
  have e4 : ((Mo.print d c).drop 11).take 2 = Mo.two (c / 2048) := rfl
  have e5 : ((Mo.print d c).drop 14).take 2 = Mo.two (c / 32 % 64) := rfl
  have e6 : (Mo.print d c).drop 17 = Mo.two (c % 32 * 2) := rfl
  rw [e1, e2, e3, e4, e5, e6, num_four _ (by omega) (by omega), num_two _ (by omega) (by omega), num_two _ (by omega) (by omega), num_two _ (by omega) (by omega), num_two _ (by omega) (by omega), num_two _ (by omega) (by omega)]
theorem parse_print (d c : Int) (hd : 0 ≤ d ∧ d ≤ 65535) (hc : 0 ≤ c ∧ c ≤ 65535) (hm : Mo.may d c = true) : Mo.parse (Mo.print d c) = (d, c, 0) := by
  have h6 := six_print d c hd hc
  rw [hm] at h6
  simp only [if_true] at h6
  unfold Mo.parse
  rw [h6]
  simp only [hm, if_true, and_true]
  rw [if_pos (print_len d c)]
theorem parse_cases (l : List UInt8) : ((l.length = 19 ∧ (Mo.six l).2.2 = 0 ∧ (if Mo.may (Mo.six l).1 (Mo.six l).2.1 then Mo.print (Mo.six l).1 (Mo.six l).2.1 else []) = l) ∧ Mo.parse l = ((Mo.six l).1, (Mo.six l).2.1, 0)) ∨ Mo.parse l = (0, 0, 2) := by
  by_cases hc : l.length = 19 ∧ (Mo.six l).2.2 = 0 ∧ (if Mo.may (Mo.six l).1 (Mo.six l).2.1 then Mo.print (Mo.six l).1 (Mo.six l).2.1 else []) = l
  · exact .inl ⟨hc, if_pos hc⟩
  · exact .inr (if_neg hc)
/-- Whatever is read is a moment that may be, and its print is the text. -/
theorem parse_ok {l : List UInt8} (h : (Mo.parse l).2.2 = 0) : Mo.may (Mo.parse l).1 (Mo.parse l).2.1 = true ∧ Mo.print (Mo.parse l).1 (Mo.parse l).2.1 = l := by
  rcases parse_cases l with ⟨⟨hl, _, hp⟩, e⟩ | e
  · rw [e]
    by_cases hm : Mo.may (Mo.six l).1 (Mo.six l).2.1 = true
    · rw [if_pos hm] at hp
      exact ⟨hm, hp⟩
    · rw [if_neg hm] at hp
      rw [← hp] at hl
      simp at hl
  · rw [e] at h
    simp at h
theorem parse_no {l : List UInt8} (h : (Mo.parse l).2.2 ≠ 0) : Mo.parse l = (0, 0, 2) := by
  rcases parse_cases l with ⟨_, e⟩ | e
  · rw [e] at h
    exact absurd rfl h
  · exact e
theorem parse_bounds (l : List UInt8) : 0 ≤ (Mo.parse l).1 ∧ (Mo.parse l).1 ≤ 65535 ∧ 0 ≤ (Mo.parse l).2.1 ∧ (Mo.parse l).2.1 ≤ 65535 := by
  rcases parse_cases l with ⟨_, e⟩ | e
  · rw [e]
    exact Mo.join_bounds _ _ _ _ _ _
  · rw [e]
    decide
/-- A moment of numbers is one that may be. -/
theorem join_may {y m d h n s : Int} (e : (Mo.join y m d h n s).2.2 = 0) : Mo.may (Mo.join y m d h n s).1 (Mo.join y m d h n s).2.1 = true := by
  by_cases ho : Mo.ok y m d h n s = true
  · have bd := Mo.ok_bounds ho
    by_cases hs : s % 2 = 1
    · unfold Mo.join at e
      rw [if_pos ho, if_pos hs] at e
      simp at e
    · unfold Mo.join
      rw [if_pos ho, if_neg hs]
      have h1 : 1980 + ((y - 1980) * 512 + m * 32 + d) / 512 = y := by omega
      have h2 : ((y - 1980) * 512 + m * 32 + d) / 32 % 16 = m := by omega
      have h3 : ((y - 1980) * 512 + m * 32 + d) % 32 = d := by omega
      have h4 : (h * 2048 + n * 32 + s / 2) / 2048 = h := by omega
      have h5 : (h * 2048 + n * 32 + s / 2) / 32 % 64 = n := by omega
      have h6 : (h * 2048 + n * 32 + s / 2) % 32 * 2 = s := by omega
      show Mo.ok _ _ _ _ _ _ = true
      rw [h1, h2, h3, h4, h5, h6]
      exact ho
  · unfold Mo.join at e
    rw [if_neg ho] at e
    simp at e
/-- What isn't parsed is no moment's print. -/
theorem not_print {l : List UInt8} (hp : (Mo.parse l).2.2 ≠ 0) (y m d h n s : Int) : (Mo.join y m d h n s).2.2 ≠ 0 ∨ Mo.print (Mo.join y m d h n s).1 (Mo.join y m d h n s).2.1 ≠ l := by
  by_cases e : (Mo.join y m d h n s).2.2 = 0
  · right
    intro hl
    have hb := Mo.join_bounds y m d h n s
    have := parse_print _ _ ⟨hb.1, hb.2.1⟩ ⟨hb.2.2.1, hb.2.2.2⟩ (join_may e)
    rw [hl] at this
    rw [this] at hp
    exact hp rfl
  · exact .inl e
end Go.Proofs.YtbcanoknddpmeaaDoor.Mo
