/- Four rows of numbers that the call makes, in one block. -/
import Derived.Test.YtdgoffpfcgipkaaFile
import Derived.OneCell
import Derived.Deep.OwnRows
import Derived.Test.YtdgoffpfcgipkaaOrder
namespace Go.Proofs.Ytdgoffpfcgipkaa
open Go.RowKit

/-- All blocks of cells but those of two types are as they were. -/
def KB (t u : TypeId) (w w' : World) : Prop := w.heap.size ≤ w'.heap.size ∧ ∀ (j : Nat) (c : Array Value) (ty : TypeId) (fr : Nat × Nat), w.heap[j]? = some (.cells c ty fr) → ty ≠ t → ty ≠ u → w'.heap[j]? = some (.cells c ty fr)
theorem KB.refl (t u : TypeId) (w : World) : KB t u w w := ⟨Nat.le_refl _, fun _ _ _ _ h _ _ => h⟩
theorem KB.trans {t u : TypeId} {a b c : World} (h : KB t u a b) (k : KB t u b c) : KB t u a c := ⟨Nat.le_trans h.1 k.1, fun j x ty fr e h1 h2 => k.2 j x ty fr (h.2 j x ty fr e h1 h2) h1 h2⟩
theorem KB.of_below {t u : TypeId} {w w' : World} (k : Below w.heap.size w w') : KB t u w w' := ⟨k.size, fun j c ty fr h _ _ => (k.block j (Array.getElem?_eq_some_iff.1 h).1).trans h⟩
theorem KB.of_grown {t u : TypeId} {w w' : World} {r : Option Nat} (k : w.grownBy w' r) (hr : ∀ g, r = some g → ∃ c ty fr, w.heap[g]? = some (.cells c ty fr) ∧ (ty = t ∨ ty = u)) : KB t u w w' := by
  refine ⟨k.size, fun j c ty fr h h1 h2 => ?_⟩
  rw [k.block j (Array.getElem?_eq_some_iff.1 h).1 (fun e => ?_)]
  · exact h
  · obtain ⟨c', ty', fr', h3, h4⟩ := hr j e.symm
    rw [h] at h3
    injection h3 with h3
    injection h3 with _ h3 _
    subst h3
    rcases h4 with h4 | h4
    · exact h1 h4
    · exact h2 h4
theorem KB.row {t u : TypeId} {w w' : World} {base size n : Nat} {e : TypeId} {v : Value} {vals : List Value} (k : KB t u w w') (h : w.ownsRow base e size v n vals) (h1 : e ≠ t) (h2 : e ≠ u) : w'.ownsRow base e size v n vals := by
  refine ⟨h.1, ?_⟩
  rcases h.2 with h0 | ⟨g, cap, cur, h3, h4, h5, h6⟩
  · exact .inl h0
  · exact .inr ⟨g, cap, cur, h3, h4, k.2 g _ _ _ h5 h1 h2, h6⟩

structure RowsAt (w : World) (base R : Nat) (cs : Nat → List Int) (no : Option Nat) (vs : Nat → Value) : Prop where
  block : w.heap[R]? = some (.cells #[vs 0, vs 1, vs 2, vs 3] 43 (0, 0))
  low : base ≤ R
  row : ∀ j, j < 4 → IRow w base (vs j) (cs j)
  apart : ∀ j k, j < 4 → k < 4 → j ≠ k → ∀ g, (vs j).ownBlock = some g → (vs k).ownBlock ≠ some g
  no_ : ∀ j, j < 4 → ∀ g, (vs j).ownBlock = some g → no ≠ some g
theorem irow_cells {w : World} {base : Nat} {v : Value} {xs : List Int} (h : IRow w base v xs) {g : Nat} (hg : v.ownBlock = some g) : base ≤ g ∧ ∃ cur, w.heap[g]? = some (.cells cur 3 (0, 0)) := by
  rcases h.2 with ⟨h, _⟩ | ⟨g', cap, cur, h, h1, hg', _⟩
  · rw [h] at hg; simp [Value.ownBlock] at hg
  · rw [h] at hg
    simp [Value.ownBlock] at hg
    subst hg
    exact ⟨h1, cur, hg'⟩
theorem RowsAt.hop {w w' : World} {base R : Nat} {cs : Nat → List Int} {no no' : Option Nat} {vs : Nat → Value} (h : RowsAt w base R cs no vs) {r : Option Nat} (k : w.grownBy w' r) (hr : ∀ g, r = some g → ∀ c fr t, w.heap[g]? = some (.cells c t fr) → t ≠ 3 ∧ t ≠ 43) (hn : ∀ L, no' = some L → w.heap.size ≤ L ∨ no = some L) : RowsAt w' base R cs no' vs where
  block := (k.block R (Array.getElem?_eq_some_iff.1 h.block).1 (fun e => (hr R e.symm _ _ _ h.block).2 rfl)).trans h.block
  low := h.low
  row := fun j hj => (h.row j hj).kept k (by
    cases e : (vs j).ownBlock with
    | none => exact .inl rfl
    | some g =>
      refine .inr fun e2 => ?_
      obtain ⟨_, cur, hh⟩ := irow_cells (h.row j hj) e
      exact (hr g e2.symm _ _ _ hh).1 rfl)
  apart := h.apart
  no_ := fun j hj g hg e => by
    rcases hn g e with h1 | h1
    · obtain ⟨_, cur, hh⟩ := irow_cells (h.row j hj) hg
      have := (Array.getElem?_eq_some_iff.1 hh).1
      omega
    · exact h.no_ j hj g hg h1
theorem RowsAt.grow {w w' : World} {base R : Nat} {cs : Nat → List Int} {no no' : Option Nat} {vs : Nat → Value} (h : RowsAt w base R cs no vs) (k : Below w.heap.size w w') (hn : ∀ L, no' = some L → w.heap.size ≤ L ∨ no = some L) : RowsAt w' base R cs no' vs := h.hop (r := none) (grownBy_below k none) (fun g e => by cases e) hn
def upV (vs : Nat → Value) (k : Nat) (v : Value) : Nat → Value := fun j => if j = k then v else vs j
def upC (cs : Nat → List Int) (k : Nat) (x : Int) : Nat → List Int := fun j => if j = k then cs j ++ [x] else cs j
theorem RowsAt.still {w w0 w1 : World} {base R k : Nat} {cs : Nat → List Int} {no : Option Nat} {vs : Nat → Value} {o' : Option Nat} (h : RowsAt w base R cs no vs) (hk : k < 4) (hb : Below w.heap.size w w0) (h2 : Hop w0 w1 (vs k).ownBlock o') :
    w1.heap[R]? = some (.cells #[vs 0, vs 1, vs 2, vs 3] 43 (0, 0)) := by
  have hRlt := (Array.getElem?_eq_some_iff.1 h.block).1
  have hs0 := hb.size
  refine (h2.1.block R (by omega) (fun e => ?_)).trans ((hb.block R hRlt).trans h.block)
  obtain ⟨_, cur, hh⟩ := irow_cells (h.row k hk) e.symm
  rw [h.block] at hh
  simp at hh
/-- One row is appended to, and put back into its place. -/
theorem RowsAt.put {w w0 w1 : World} {base R k : Nat} {cs : Nat → List Int} {no : Option Nat} {vs : Nat → Value} {x : Int} {v' : Value} (h : RowsAt w base R cs no vs) (hk : k < 4) (hb : Below w.heap.size w w0)
    (h1 : IRow w1 base v' (cs k ++ [x])) (h2 : Hop w0 w1 (vs k).ownBlock v'.ownBlock) (hbase : base ≤ w.heap.size) (hL : ∀ L, no = some L → L < w.heap.size) :
    RowsAt (w1.setCell ⟨R, k, none⟩ v') base R (upC cs k x) no (upV vs k v') ∧ Below base w (w1.setCell ⟨R, k, none⟩ v') ∧ KB 3 43 w (w1.setCell ⟨R, k, none⟩ v') ∧
    (∀ L c fr, no = some L → w.heap[L]? = some (.cells c 3 fr) → (w1.setCell ⟨R, k, none⟩ v').heap[L]? = some (.cells c 3 fr)) := by
  have h0 : RowsAt w0 base R cs no vs := h.grow hb (fun L e => .inr e)
  have hlt : ∀ j, j < 4 → ∀ g, (vs j).ownBlock = some g → g < w.heap.size := fun j hj g hg => by
    obtain ⟨_, cur, hh⟩ := irow_cells (h.row j hj) hg
    exact (Array.getElem?_eq_some_iff.1 hh).1
  have hRne : ∀ j, j < 4 → (vs j).ownBlock ≠ some R := fun j hj e => by
    obtain ⟨_, cur, hh⟩ := irow_cells (h.row j hj) e
    rw [h.block] at hh
    simp at hh
  have hRlt := (Array.getElem?_eq_some_iff.1 h.block).1
  have hs0 := hb.size
  have hR1 : w1.heap[R]? = some (.cells #[vs 0, vs 1, vs 2, vs 3] 43 (0, 0)) := (h2.1.block R (by omega) (fun e => hRne k hk e.symm)).trans h0.block
  have hRv' : v'.ownBlock ≠ some R := by
    rcases h2.2 with e | ⟨g, hg, e⟩
    · rw [e]; exact hRne k hk
    · rw [e]; intro e2; injection e2 with e2; omega
  have new : ∀ g, v'.ownBlock = some g → (vs k).ownBlock = some g ∨ w.heap.size ≤ g := fun g hg => by
    rcases h2.2 with e | ⟨g', hg', e⟩
    · rw [e] at hg; exact .inl hg
    · rw [e] at hg; injection hg with hg; exact .inr (by omega)
  refine ⟨⟨?_, h.low, fun j hj => ?_, fun i j hi hj hij g hg => ?_, fun j hj g hg => ?_⟩, ?_, ?_, fun L c fr e hc => ?_⟩
  · simp only [World.setCell, Array.getElem?_modify, if_true, hR1, Option.map_some]
    congr 1
    match k, hk with
    | 0, _ => rfl
    | 1, _ => rfl
    | 2, _ => rfl
    | 3, _ => rfl
  · by_cases e : j = k
    · subst e
      simp only [upC, upV, if_true]
      exact ownsRow_setCell_other h1 hRv' _
    · simp only [upC, upV, if_neg e]
      refine ownsRow_setCell_other (World.ownsRow.kept (h0.row j hj) h2.1 ?_) (hRne j hj) _
      cases e2 : (vs j).ownBlock with
      | none => exact .inl rfl
      | some g => exact .inr fun e3 => h.apart j k hj hk e g e2 e3.symm
  · by_cases ei : i = k
    · subst ei
      have ej : ¬ j = i := fun e => hij e.symm
      simp only [upV, if_true, if_neg ej] at hg ⊢
      intro e
      rcases new g hg with h3 | h3
      · exact h.apart i j hi hj hij g h3 e
      · have := hlt j hj g e; omega
    · by_cases ej : j = k
      · subst ej
        simp only [upV, if_true, if_neg ei] at hg ⊢
        intro e
        rcases new g e with h3 | h3
        · exact h.apart i j hi hj hij g hg h3
        · have := hlt i hi g hg; omega
      · simp only [upV, if_neg ei, if_neg ej] at hg ⊢
        exact h.apart i j hi hj hij g hg
  · by_cases e : j = k
    · subst e
      simp only [upV, if_true] at hg
      intro e2
      rcases new g hg with h3 | h3
      · exact h.no_ j hj g h3 e2
      · have := hL g e2; omega
    · simp only [upV, if_neg e] at hg
      exact h.no_ j hj g hg
  · refine ((hb.mono hbase).trans (h2.below (B := base) (by omega) fun g hg => ?_)).setCell (p := ⟨R, k, none⟩) h.low _
    exact (irow_cells (h.row k hk) hg).1
  · refine KB.trans (KB.of_below hb) (KB.trans (KB.of_grown (t := 3) (u := 43) h2.1 fun g hg => ?_) ⟨by simp [World.setCell], fun j c ty fr hj h3 h4 => ?_⟩)
    · obtain ⟨_, cur, hh⟩ := irow_cells (h0.row k hk) hg
      exact ⟨_, _, _, hh, .inl rfl⟩
    · rw [Below.heap_setCell _ _ _ _ (show j ≠ R from fun e => by
        subst e
        rw [hR1] at hj
        injection hj with hj
        injection hj with _ hj _
        exact h4 hj.symm)]
      exact hj
  · have hne : L ≠ R := fun e2 => by
      subst e2
      rw [h.block] at hc
      simp at hc
    rw [Below.heap_setCell _ _ _ _ hne, h2.1.block L (by have := hL L e; omega) (fun e2 => h.no_ k hk L e2.symm e), hb.block L (hL L e)]
    exact hc
theorem RowsAt.congr {w : World} {base R : Nat} {cs cs' : Nat → List Int} {no : Option Nat} {vs : Nat → Value} (h : RowsAt w base R cs no vs) (e : ∀ j, j < 4 → cs j = cs' j) : RowsAt w base R cs' no vs :=
  ⟨h.block, h.low, fun j hj => e j hj ▸ h.row j hj, h.apart, h.no_⟩
theorem infoInts : (Try.prog.info? 43).map (fun i => (i.zero, i.size, i.bytes)) = some (some (.slice none 0 0), 1, 24) := by kernel_rfl
theorem make_rows (w : World) : (Instr.makeSlice 26 (.int .i64 4) (.int .i64 4)).run Try.prog w = .ok (.slice (some ⟨w.heap.size, 0, none⟩) 4 4) (w.alloc (.cells #[.slice none 0 0, .slice none 0 0, .slice none 0 0, .slice none 0 0] 43)) := by
  have h := run_make_row' 26 43 (.slice none 0 0) 24 Try.underlying26 infoInts rfl .i64 .i64 4 (by omega) (by omega) w
  have e : madeCells #[Value.slice none 0 0] 4 = #[.slice none 0 0, .slice none 0 0, .slice none 0 0, .slice none 0 0] := by kernel_rfl
  rw [e] at h
  exact h
theorem RowsAt.made (w : World) (no : Option Nat) : RowsAt (w.alloc (.cells #[.slice none 0 0, .slice none 0 0, .slice none 0 0, .slice none 0 0] 43)) w.heap.size w.heap.size (fun _ => []) no (fun _ => .slice none 0 0) :=
  ⟨heap_alloc_new _ _, Nat.le_refl _, fun _ _ => IRow.nil _ _, fun _ _ _ _ _ g hg => by simp [Value.ownBlock] at hg, fun _ _ g hg => by simp [Value.ownBlock] at hg⟩
theorem wpList_appI {w : World} {ops : Array Oper} {rest : List Oper} {o : Oper} {a : Act} {Q : Exit → Act → World → Prop} (hgd : o.guard = none) (s x : Operand)
    (ho : o.op = .call { callee := .builtin .append, args := #[s, x], argTypes := #[43, 43] })
    (base : Nat) (v : Value) (xs : List Int) (hv : a.eval s = v) (hown : IRow w base v xs) (B : Nat) (n : Int) (t : TypeId) (fr : Nat × Nat) (hX : a.eval x = .slice (some ⟨B, 0, none⟩) 1 1)
    (hb : w.heap[B]? = some (.cells #[.int .i64 n] t fr)) (hn : xs.length ≤ 1000000000000) (hbase : base ≤ w.heap.size)
    (h : ∀ v' w', IRow w' base v' (xs ++ [n]) → Hop w w' v.ownBlock v'.ownBlock → wpList Try.prog ops Q rest (a.put o.dst v') w') : wpList Try.prog ops Q (o :: rest) a w := by
  obtain ⟨i0, hi, hz0, hz1, hz2⟩ := info_parts infoInt
  refine wpList_append_row hgd s x 43 43 ho base 3 i0 _ 1 8 Try.underlying43 hi hz0 hz1 hz2 rfl v _ _ hv hown _ 1 [.int .i64 n] hX (fun v' w' h1 h2 => h v' w' (IRow.app (ys := [n]) h1 rfl) h2) ?_ ?_ ?_ hbase
  · exact src_block Try.underlying43 1 1 1 _ #[.int .i64 n] _ _ hb rfl (by simp [Value.oneCell'])
  · unfold maxLen; omega
  · omega
/-- Four rows that are read. -/
def Cols (w : World) (R : Nat) (cs : Nat → List Int) : Prop := R < w.heap.size ∧ ∀ j, j < 4 → ∃ A c, w.cell? ⟨R, j, none⟩ = some (.slice A (cs j).length c) ∧ Ints w A c (cs j)
theorem Cols.grow {w w' : World} {R : Nat} {cs : Nat → List Int} (h : Cols w R cs) (k : Below w.heap.size w w') : Cols w' R cs :=
  ⟨Nat.lt_of_lt_of_le h.1 k.size, fun j hj => by
    obtain ⟨A, c, h1, h2⟩ := h.2 j hj
    exact ⟨A, c, (k.cell (p := ⟨R, j, none⟩) h.1).trans h1, h2.grow k⟩⟩
theorem RowsAt.cell {w : World} {base R : Nat} {cs : Nat → List Int} {no : Option Nat} {vs : Nat → Value} (h : RowsAt w base R cs no vs) {j : Nat} (hj : j < 4) : w.cell? ⟨R, j, none⟩ = some (vs j) := by
  rw [(blk_facts h.block).1 j]
  match j, hj with
  | 0, _ => rfl
  | 1, _ => rfl
  | 2, _ => rfl
  | 3, _ => rfl
theorem RowsAt.cols {w : World} {base R : Nat} {cs : Nat → List Int} {no : Option Nat} {vs : Nat → Value} (h : RowsAt w base R cs no vs) : Cols w R cs :=
  ⟨(Array.getElem?_eq_some_iff.1 h.block).1, fun j hj => by
    obtain ⟨A, c, e, hr⟩ := (h.row j hj).reads
    exact ⟨A, c, by rw [h.cell hj, e], hr⟩⟩
end Go.Proofs.Ytdgoffpfcgipkaa
