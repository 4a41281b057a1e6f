/- Layers 4, 5: what lengths make, and words by lengths: plain; arrays of numbers of 32 bits as functions. -/
import Derived.Test.YtjbbhfloomejoaaWrB
namespace Go.Proofs.Ytjbbhfloomejoaa
open Go.RowKit
/-- Lengths, as a row of ints. -/
def il (l : List Nat) : List Int := l.map fun (n : Nat) => (n : Int)
theorem il_len (l : List Nat) : (il l).length = l.length := List.length_map ..
theorem il_get {l : List Nat} {i n : Nat} (h : l[i]? = some n) : (il l)[i]? = some (n : Int) := by simp [il, h]
/-- Weight, words, the longest. -/
def Pf.step (s : Nat × Nat × Nat) (n : Nat) : Nat × Nat × Nat := if 0 < n then (s.1 + 32768 / 2 ^ n, s.2.1 + 1, max s.2.2 n) else s
def Pf.kst (l : List Nat) : Nat × Nat × Nat := l.foldl Pf.step (0, 0, 0)
def Pf.kind (l : List Nat) : Nat :=
  if (Pf.kst l).2.1 = 0 then 1 else if (Pf.kst l).2.1 = 1 ∧ (Pf.kst l).2.2 = 1 then 2 else if (Pf.kst l).1 = 32768 then 3 else 0
theorem take_next {α : Type} {l : List α} {i : Nat} {x : α} (h : l[i]? = some x) : l.take (i + 1) = l.take i ++ [x] := by rw [List.take_add_one, h]; rfl
theorem Pf.kst_next {l : List Nat} {i n : Nat} (h : l[i]? = some n) : Pf.kst (l.take (i + 1)) = Pf.step (Pf.kst (l.take i)) n := by
  unfold Pf.kst
  rw [take_next h, List.foldl_append]
  rfl
theorem Pf.kst_le (l : List Nat) (h : ∀ n ∈ l, n ≤ 15) : (Pf.kst l).1 ≤ 32768 * l.length ∧ (Pf.kst l).2.1 ≤ l.length ∧ (Pf.kst l).2.2 ≤ 15 := by
  suffices H : ∀ (l : List Nat) (s : Nat × Nat × Nat) (k : Nat), (∀ n ∈ l, n ≤ 15) → s.1 ≤ 32768 * k ∧ s.2.1 ≤ k ∧ s.2.2 ≤ 15 → (l.foldl Pf.step s).1 ≤ 32768 * (k + l.length) ∧ (l.foldl Pf.step s).2.1 ≤ k + l.length ∧ (l.foldl Pf.step s).2.2 ≤ 15 by
    have := H l (0, 0, 0) 0 h ⟨by simp, by simp, by simp⟩
    simpa [Pf.kst] using this
  intro l
  induction l with
  | nil => intro s k _ h; simpa using h
  | cons n l ih =>
    intro s k hl hs
    have h1 := ih (Pf.step s n) (k + 1) (fun m hm => hl m (List.mem_cons_of_mem _ hm)) (by
      unfold Pf.step
      have hn := hl n (List.mem_cons_self ..)
      have hq : 32768 / 2 ^ n ≤ 32768 := Nat.div_le_self _ _
      split
      · exact ⟨by dsimp only; omega, by dsimp only; omega, by dsimp only; omega⟩
      · exact ⟨by omega, by omega, by omega⟩)
    rw [List.foldl_cons, List.length_cons]
    rw [show k + (l.length + 1) = k + 1 + l.length by omega]
    exact h1
/-- How many of each length; the first word of each length; the words. -/
def Pf.cnt (l : List Nat) (k : Nat) : Nat := if k = 0 then 0 else l.count k
def Pf.nx (l : List Nat) : Nat → Nat
  | 0 => 0
  | n + 1 => (Pf.nx l n + Pf.cnt l n) * 2
def Pf.wd (l : List Nat) (i : Nat) : Nat := match l[i]? with
  | some 0 => 0
  | some (n + 1) => Pf.nx l (n + 1) + (l.take i).count (n + 1)
  | none => 0
theorem Pf.cnt_le (l : List Nat) (k : Nat) : Pf.cnt l k ≤ l.length := by
  unfold Pf.cnt
  split
  · exact Nat.zero_le _
  · exact List.count_le_length
theorem Pf.nx_le (l : List Nat) (hl : l.length ≤ 1000) : ∀ n, Pf.nx l n ≤ 1000 * (2 ^ (n + 1) - 2)
  | 0 => by simp [Pf.nx]
  | n + 1 => by
    have h1 := Pf.nx_le l hl n
    have h2 := Pf.cnt_le l n
    have h3 : (2 : Nat) ^ (n + 1 + 1) = 2 ^ (n + 1) * 2 := Nat.pow_succ ..
    have h4 : 2 ≤ (2 : Nat) ^ (n + 1) := by have := Nat.pow_le_pow_right (n := 2) (by decide) (show 1 ≤ n + 1 by omega); simpa using this
    unfold Pf.nx
    omega
theorem Pf.nx_most (l : List Nat) (hl : l.length ≤ 1000) {n : Nat} (hn : n ≤ 15) : Pf.nx l n ≤ 65536000 := by
  have h1 := Pf.nx_le l hl n
  have h2 : (2 : Nat) ^ (n + 1) ≤ 2 ^ 16 := Nat.pow_le_pow_right (by decide) (by omega)
  omega
theorem Pf.wd_get {l : List Nat} {i n : Nat} (h : l[i]? = some n) : Pf.wd l i = if n = 0 then 0 else Pf.nx l n + (l.take i).count n := by
  unfold Pf.wd
  rw [h]
  cases n with
  | zero => rfl
  | succ n => rfl
/-- n numbers of 32 bits, by a function. -/
def Fu (n : Nat) (f : Nat → Nat) : List Value := (List.range n).map fun k => .int .u32 (f k : Nat)
/-- n ints. -/
def Fi (n : Nat) (f : Nat → Nat) : List Value := (List.range n).map fun k => .int .i64 (f k : Nat)
section
variable {n : Nat} {f g : Nat → Nat}
theorem Fu_len : (Fu n f).length = n := by simp [Fu]
theorem Fi_len : (Fi n f).length = n := by simp [Fi]
theorem Fu_get {k : Nat} (h : k < n) : (Fu n f)[k]? = some (.int .u32 (f k : Nat)) := by
  unfold Fu
  rw [List.getElem?_map, List.getElem?_range h]
  rfl
theorem Fi_get {k : Nat} (h : k < n) : (Fi n f)[k]? = some (.int .i64 (f k : Nat)) := by
  unfold Fi
  rw [List.getElem?_map, List.getElem?_range h]
  rfl
theorem Fu_ext (h : ∀ k, k < n → f k = g k) : Fu n f = Fu n g := List.map_congr_left fun k hk => by rw [h k (List.mem_range.1 hk)]
theorem Fi_ext (h : ∀ k, k < n → f k = g k) : Fi n f = Fi n g := List.map_congr_left fun k hk => by rw [h k (List.mem_range.1 hk)]
theorem Fu_set {i c : Nat} (h : ∀ k, k < n → g k = if k = i then c else f k) : (Fu n f).toArray.setIfInBounds i (.int .u32 (c : Nat)) = (Fu n g).toArray := by
  rw [List.setIfInBounds_toArray]
  congr 1
  refine List.ext_getElem? fun k => ?_
  rw [List.getElem?_set]
  by_cases hk : k < n
  · rw [Fu_get (f := g) hk, h k hk, Fu_len]
    by_cases hi : i = k
    · subst hi; simp [hk]
    · rw [if_neg hi, Fu_get (f := f) hk, if_neg (fun e => hi e.symm)]
  · rw [List.getElem?_eq_none (by rw [Fu_len]; omega), List.getElem?_eq_none (by rw [Fu_len]; omega), Fu_len]
    by_cases hi : i = k
    · subst hi; simp [hk]
    · simp [hi]
theorem Fi_set {i c : Nat} (h : ∀ k, k < n → g k = if k = i then c else f k) : (Fi n f).toArray.setIfInBounds i (.int .i64 (c : Nat)) = (Fi n g).toArray := by
  rw [List.setIfInBounds_toArray]
  congr 1
  refine List.ext_getElem? fun k => ?_
  rw [List.getElem?_set]
  by_cases hk : k < n
  · rw [Fi_get (f := g) hk, h k hk, Fi_len]
    by_cases hi : i = k
    · subst hi; simp [hk]
    · rw [if_neg hi, Fi_get (f := f) hk, if_neg (fun e => hi e.symm)]
  · rw [List.getElem?_eq_none (by rw [Fi_len]; omega), List.getElem?_eq_none (by rw [Fi_len]; omega), Fi_len]
    by_cases hi : i = k
    · subst hi; simp [hk]
    · simp [hi]
end
/-- A block of n numbers of 32 bits; of n ints. -/
def UB (w : World) (B n : Nat) (t : TypeId) (f : Nat → Nat) : Prop := w.heap[B]? = some (.cells (Fu n f).toArray t (0, 0))
def IB (w : World) (B n : Nat) (t : TypeId) (f : Nat → Nat) : Prop := w.heap[B]? = some (.cells (Fi n f).toArray t (0, 0))
section
variable {w : World} {B n : Nat} {t : TypeId} {f g : Nat → Nat}
theorem UB.lt (h : UB w B n t f) : B < w.heap.size := (Array.getElem?_eq_some_iff.1 h).1
theorem IB.lt (h : IB w B n t f) : B < w.heap.size := (Array.getElem?_eq_some_iff.1 h).1
theorem UB.cell (h : UB w B n t f) {k : Nat} (hk : k < n) : w.cell? ⟨B, k, none⟩ = some (.int .u32 (f k : Nat)) := by rw [Lib.cell_of_heap h, List.getElem?_toArray, Fu_get hk]
theorem IB.cell (h : IB w B n t f) {k : Nat} (hk : k < n) : w.cell? ⟨B, k, none⟩ = some (.int .i64 (f k : Nat)) := by rw [Lib.cell_of_heap h, List.getElem?_toArray, Fi_get hk]
theorem UB.set (h : UB w B n t f) {i c : Nat} (hg : ∀ k, k < n → g k = if k = i then c else f k) : UB (w.setCell ⟨B, i, none⟩ (.int .u32 (c : Nat))) B n t g := by
  have := set_at' (k := i) h (.int .u32 (c : Nat))
  rw [Fu_set hg] at this
  exact this
theorem IB.set (h : IB w B n t f) {i c : Nat} (hg : ∀ k, k < n → g k = if k = i then c else f k) : IB (w.setCell ⟨B, i, none⟩ (.int .i64 (c : Nat))) B n t g := by
  have := set_at' (k := i) h (.int .i64 (c : Nat))
  rw [Fi_set hg] at this
  exact this
theorem UB.else_ (h : UB w B n t f) {b i : Nat} (v : Value) (hb : b ≠ B) : UB (w.setCell ⟨b, i, none⟩ v) B n t f := (set_else' _ _ hb).trans h
theorem IB.else_ (h : IB w B n t f) {b i : Nat} (v : Value) (hb : b ≠ B) : IB (w.setCell ⟨b, i, none⟩ v) B n t f := (set_else' _ _ hb).trans h
theorem UB.ext (h : UB w B n t f) (e : ∀ k, k < n → f k = g k) : UB w B n t g := by unfold UB; rw [← Fu_ext e]; exact h
theorem IB.ext (h : IB w B n t f) (e : ∀ k, k < n → f k = g k) : IB w B n t g := by unfold IB; rw [← Fi_ext e]; exact h
theorem UB.grow {w' : World} (h : UB w B n t f) (k : Below w.heap.size w w') : UB w' B n t f := (k.block B h.lt).trans h
theorem IB.grow {w' : World} (h : IB w B n t f) (k : Below w.heap.size w w') : IB w' B n t f := (k.block B h.lt).trans h
end
end Go.Proofs.Ytjbbhfloomejoaa
