/- Layer 17 in plain words: names and descriptors. No program. -/
import Derived.Test.YtdjdgipebonnaaaDoorUtfPlain
import Derived.Lib.Split
import Derived.Lib.SplitLaws
import Derived.Lib.IndexBytes
import Derived.Lib.IndexAny
namespace Go.Proofs.YtdjdgipebonnaaaDoor
open Go.RowKit

def De.has (chars l : List UInt8) : Bool := l.any fun b => chars.contains b
theorem De.has_cons (chars : List UInt8) (b : UInt8) (l : List UInt8) : De.has chars (b :: l) = (chars.contains b || De.has chars l) := List.any_cons
def De.member (l : List UInt8) : Bool := !l.isEmpty && !De.has [46, 59, 91, 47] l && Ut.right l
def De.method (l : List UInt8) : Bool := decide (l = [60, 105, 110, 105, 116, 62]) || decide (l = [60, 99, 108, 105, 110, 105, 116, 62]) || (De.member l && !De.has [60, 62] l)
/-- No part between strokes is empty; 'b': does a part begin here? -/
def De.fine : Bool → List UInt8 → Bool
  | b, [] => !b
  | b, c :: r => if c = 47 then !b && De.fine true r else De.fine false r
def De.cls (l : List UInt8) : Bool := De.fine true l && !De.has [46, 59, 91] l && Ut.right l
def De.dims (l : List UInt8) : Nat := (l.takeWhile (fun c => c == 91)).length
def De.prim (c : UInt8) : Bool := [66, 67, 68, 70, 73, 74, 83, 90].contains c
/-- A descriptor without its dimensions. -/
def De.base : List UInt8 → Bool
  | [] => false
  | [c] => De.prim c
  | c :: d :: r => decide (c = 76) && decide ((d :: r).getLast? = some 59) && De.cls (d :: r).dropLast
def De.field (l : List UInt8) : Bool := decide (De.dims l ≤ 255) && De.base (l.drop (De.dims l))
def De.named (l : List UInt8) : Bool := De.cls l || (decide (l.head? = some 91) && De.field l)
def De.room (l : List UInt8) : Nat := if De.field l = true then (if l = [74] ∨ l = [68] then 2 else 1) else 0

/-! ### parts between strokes -/
def De.segs (c : UInt8) : List UInt8 → List (List UInt8)
  | [] => [[]]
  | b :: l => if b = c then [] :: De.segs c l else match De.segs c l with | [] => [[b]] | p :: ps => (b :: p) :: ps
theorem De.segs_ne (c : UInt8) (l : List UInt8) : De.segs c l ≠ [] := by
  cases l with
  | nil => simp [De.segs]
  | cons b l =>
    unfold De.segs
    split
    · simp
    · split <;> simp
theorem De.splitK_segs (c : UInt8) : ∀ l : List UInt8, Lib.splitK [c] 0 (l.count c) l = De.segs c l
  | [] => by simp [De.segs, Lib.splitK]
  | b :: l => by
    have ih := De.splitK_segs c l
    have hi : Lib.index (b :: l) [c] = if b == c then 0 else if Lib.indexByte l c == -1 then -1 else Lib.indexByte l c + 1 := by rw [Lib.index_one]; rfl
    by_cases hb : b = c
    · subst hb
      have hi0 : Lib.index (b :: l) [b] = 0 := by rw [hi]; simp
      rw [List.count_cons_self]
      unfold Lib.splitK De.segs
      rw [if_neg (by rw [hi0]; decide), hi0, if_pos rfl, ← ih]
      simp
    · have hbc : (b == c) = false := by simp [hb]
      rw [hbc] at hi
      have hcnt : (b :: l).count c = l.count c := List.count_cons_of_ne hb
      rw [hcnt]
      unfold De.segs
      rw [if_neg hb, ← ih]
      cases hk : l.count c with
      | zero => simp [Lib.splitK]
      | succ k =>
        have hidx := Lib.index_one l c
        have hmem : l.contains c = true := by
          rw [List.contains_iff_mem, ← List.count_pos_iff]; omega
        have h0 := Lib.contains_iff_indexByte l c
        rw [hmem] at h0
        have h0' : 0 ≤ Lib.indexByte l c := of_decide_eq_true h0.symm
        have hne : ¬ (Lib.indexByte l c == -1) = true := by simp; omega
        have hi1 : Lib.index (b :: l) [c] = Lib.indexByte l c + 1 := by rw [hi, if_neg (by simp), if_neg hne]
        unfold Lib.splitK
        rw [hi1, hidx, if_neg (by simp; omega), if_neg hne]
        obtain ⟨j, hj⟩ : ∃ j : Nat, Lib.indexByte l c = j := ⟨(Lib.indexByte l c).toNat, by omega⟩
        rw [hj]
        have e1 : ((j : Int) + 1).toNat = j + 1 := by omega
        rw [e1]
        simp
theorem De.segs_fine : ∀ (l : List UInt8), De.fine true l = !((De.segs 47 l).any fun p => p.isEmpty) ∧ De.fine false l = !(((De.segs 47 l).drop 1).any fun p => p.isEmpty)
  | [] => by simp [De.segs, De.fine]
  | b :: l => by
    obtain ⟨h1, h2⟩ := De.segs_fine l
    by_cases hb : b = 47
    · subst hb
      simp only [De.segs, De.fine, if_true]
      simp [h1]
    · simp only [De.segs, De.fine, if_neg hb]
      cases hs : De.segs 47 l with
      | nil => exact absurd hs (De.segs_ne _ _)
      | cons p ps =>
        rw [hs] at h2
        simp only [List.drop_succ_cons, List.drop_zero] at h2
        simp [h2]
theorem De.segs_has (chars : List UInt8) (h47 : chars.contains 47 = false) : ∀ l : List UInt8, ((De.segs 47 l).any fun p => De.has chars p) = De.has chars l
  | [] => by simp [De.segs, De.has]
  | b :: l => by
    have ih := De.segs_has chars h47 l
    by_cases hb : b = 47
    · subst hb
      rw [De.has_cons, h47, Bool.false_or, ← ih]
      simp [De.segs, De.has]
    · simp only [De.segs, if_neg hb]
      cases hs : De.segs 47 l with
      | nil => exact absurd hs (De.segs_ne _ _)
      | cons p ps =>
        rw [hs] at ih
        simp only [List.any_cons] at ih ⊢
        rw [De.has_cons, De.has_cons, ← ih, Bool.or_assoc]
theorem any_or {α : Type} (p q : α → Bool) : ∀ l : List α, (l.any fun x => p x || q x) = (l.any p || l.any q)
  | [] => rfl
  | a :: l => by
    rw [List.any_cons, List.any_cons, List.any_cons, any_or p q l]
    cases p a <;> cases q a <;> cases l.any p <;> cases l.any q <;> rfl
/-- What the program asks of the parts. -/
theorem De.cls_eq (l : List UInt8) : De.cls l = (!((De.segs 47 l).any fun p => p.isEmpty || De.has [46, 59, 91] p) && Ut.right l) := by
  unfold De.cls
  rw [any_or, De.segs_has _ (by decide), (De.segs_fine l).1]
  cases (De.segs 47 l).any fun p => p.isEmpty <;> cases De.has [46, 59, 91] l <;> cases Ut.right l <;> rfl

/-! ### dimensions -/
theorem De.dims_le : ∀ l : List UInt8, De.dims l ≤ l.length
  | [] => by simp [De.dims]
  | c :: l => by
    have := De.dims_le l
    by_cases h : c = 91
    · subst h; simp [De.dims] at this ⊢; exact this
    · simp [De.dims, h]
theorem De.dims_cons (l : List UInt8) : De.dims (91 :: l) = De.dims l + 1 := by simp [De.dims]
theorem De.dims_other {c : UInt8} (h : c ≠ 91) (l : List UInt8) : De.dims (c :: l) = 0 := by simp [De.dims, h]
theorem De.drop_dims_ne : ∀ l : List UInt8, (l.drop (De.dims l)).head? ≠ some 91
  | [] => by simp [De.dims]
  | c :: l => by
    by_cases h : c = 91
    · subst h; rw [De.dims_cons, List.drop_succ_cons]; exact De.drop_dims_ne l
    · rw [De.dims_other h]; simpa using h
theorem De.take_dims : ∀ l : List UInt8, l.take (De.dims l) = List.replicate (De.dims l) 91
  | [] => by simp [De.dims]
  | c :: l => by
    by_cases h : c = 91
    · subst h; rw [De.dims_cons, List.take_succ_cons, De.take_dims l, List.replicate_succ]
    · rw [De.dims_other h]; simp
theorem De.dims_app (n : Nat) (r : List UInt8) (h : r.head? ≠ some 91) : De.dims (List.replicate n 91 ++ r) = n := by
  induction n with
  | zero =>
    cases r with
    | nil => rfl
    | cons c r => simp only [List.replicate_zero, List.nil_append]; exact De.dims_other (by simpa using h) r
  | succ n ih => rw [List.replicate_succ, List.cons_append, De.dims_cons, ih]
theorem De.parts (l : List UInt8) : l = List.replicate (De.dims l) 91 ++ l.drop (De.dims l) := by
  rw [← De.take_dims]; exact (List.take_append_drop _ _).symm
theorem De.field_app (n : Nat) (r : List UInt8) (h : r.head? ≠ some 91) : De.field (List.replicate n 91 ++ r) = (decide (n ≤ 255) && De.base r) := by
  unfold De.field
  rw [De.dims_app n r h]
  congr 2
  rw [List.drop_append_of_le_length (by simp), List.drop_eq_nil_of_le (by simp)]
  rfl
end Go.Proofs.YtdjdgipebonnaaaDoor
