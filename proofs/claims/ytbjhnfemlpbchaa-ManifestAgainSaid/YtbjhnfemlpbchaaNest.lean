/- Rows of rows of headers (by the rows of sections of lines, turned). -/
import Derived.Test.YtbjhnfemlpbchaaPairs
import Derived.Test.YtbjhnfemlpbchaaWalksM
import Derived.Test.YtbjhnfemlpbchaaAppend
import Derived.RangeFuncNested
namespace Go.Proofs.Ytbjhnfemlpbchaa
open Go.RowKit

theorem PRow.kept {w w1 : World} {base : Nat} {v : Value} {xs : List Pr} {row : Option Nat} (h : PRow w base v xs) (g : w.grownBy w1 row) (hne : ∀ k, v.ownBlock = some k → row ≠ some k) : PRow w1 base v xs :=
  World.ownsRow.kept h g (by
    cases e : v.ownBlock with
    | none => exact .inl rfl
    | some k => exact .inr (fun e2 => hne k e e2.symm))
theorem PRow.cells {w : World} {base : Nat} {v : Value} {xs : List Pr} (h : PRow w base v xs) {g : Nat} (hg : v.ownBlock = some g) : base ≤ g ∧ ∃ cur, w.heap[g]? = some (.cells cur 44 (0, 0)) := by
  rcases h.2 with ⟨h, _⟩ | ⟨g', cap, cur, h, h1, hg', _⟩
  · rw [h] at hg; simp [Value.ownBlock] at hg
  · rw [h] at hg
    simp [Value.ownBlock] at hg
    subst hg
    exact ⟨h1, cur, hg'⟩
/-- Sections that are whole: a row of rows, none of which lies in 'no'. -/
def POuts (w : World) (base : Nat) (v : Value) (out : List (List Pr)) (no : Option Nat) : Prop :=
  ∃ vals, w.ownsRow base 24 1 v out.length vals ∧ (∀ u ∈ vals, u.oneCell' = true) ∧ ∀ (j : Nat) u x, vals[j]? = some u → out[j]? = some x → PRow w base u x ∧ ∀ k, u.ownBlock = some k → no ≠ some k
theorem pouts_own {w : World} {base : Nat} {v : Value} {out : List (List Pr)} {no : Option Nat} (h : POuts w base v out no) {g : Nat} (hg : v.ownBlock = some g) : base ≤ g ∧ ∃ cur, w.heap[g]? = some (.cells cur 24 (0, 0)) := by
  obtain ⟨vals, h, _⟩ := h
  rcases h.2 with ⟨h, _⟩ | ⟨g', cap, cur, h, h1, hg', _⟩
  · rw [h] at hg; simp [Value.ownBlock] at hg
  · rw [h] at hg
    simp [Value.ownBlock] at hg
    subst hg
    exact ⟨h1, cur, hg'⟩
/-- They stay so while a block turns that is neither the row's own nor one of its rows'. -/
theorem POuts.kept {w w1 : World} {base : Nat} {v : Value} {out : List (List Pr)} {no no' : Option Nat} {row : Option Nat} (h : POuts w base v out no) (g : w.grownBy w1 row)
    (h1 : ∀ k, v.ownBlock = some k → row ≠ some k) (h2 : ∀ k, row = some k → no = some k ∨ k < base ∨ ∀ cur, w.heap[k]? ≠ some (.cells cur 44 (0, 0))) (h3 : ∀ k, no' = some k → no = some k ∨ w.heap.size ≤ k) : POuts w1 base v out no' := by
  obtain ⟨vals, k1, k2, k3⟩ := h
  refine ⟨vals, k1.kept g (by
    cases e : v.ownBlock with
    | none => exact .inl rfl
    | some k => exact .inr (fun e2 => h1 k e e2.symm)), k2, fun j u x hu hx => ?_⟩
  obtain ⟨k4, k5⟩ := k3 j u x hu hx
  refine ⟨k4.kept g fun k hk hr => ?_, fun k hk hn => ?_⟩
  · obtain ⟨hb, cur, hc⟩ := k4.cells hk
    rcases h2 k hr with h | h | h
    · exact k5 k hk h
    · omega
    · exact h cur hc
  · rcases h3 k hn with h | h
    · exact k5 k hk h
    · obtain ⟨_, cur, hc⟩ := k4.cells hk
      have := (Array.getElem?_eq_some_iff.1 hc).1
      omega
theorem POuts.nil (w : World) (base : Nat) (no : Option Nat) : POuts w base (.slice none 0 0) [] no := ⟨[], World.ownsRow_nil w base 24 1, by simp, fun j u x hu => by simp at hu⟩

theorem POuts.set {w : World} {base : Nat} {v : Value} {out : List (List Pr)} {no : Option Nat} (h : POuts w base v out no) {a : Addr} (ha : a.block < base) (u : Value) : POuts (w.setCell a u) base v out no := by
  obtain ⟨vals, k1, k2, k3⟩ := h
  exact ⟨vals, ownsRow_setCell_below k1 ha u, k2, fun j x y hx hy => ⟨ownsRow_setCell_below (k3 j x y hx hy).1 ha u, (k3 j x y hx hy).2⟩⟩
theorem pown_apart {X : World} {base : Nat} {vo : Value} {out : List (List Pr)} {no : Option Nat} (h : POuts X base vo out no) {u : Value} {x : List Pr} (k : PRow X base u x) : ∀ g, u.ownBlock = some g → vo.ownBlock ≠ some g := by
  intro g hg hv
  obtain ⟨_, c1, e1⟩ := pouts_own h hv
  obtain ⟨_, c2, e2⟩ := k.cells hg
  rw [e1] at e2
  simp at e2
theorem POuts.forget {w : World} {base b' : Nat} {v : Value} {out : List (List Pr)} {no : Option Nat} (h : POuts w base v out no) (hb : b' ≤ base) : POuts w b' v out none := by
  have low : ∀ {e : TypeId} {sz : Nat} {v : Value} {n : Nat} {xs : List Value}, w.ownsRow base e sz v n xs → w.ownsRow b' e sz v n xs := by
    rintro e sz v n xs ⟨h1, h2⟩
    refine ⟨h1, ?_⟩
    rcases h2 with h2 | ⟨g, cap, cur, h2, h3, h4⟩
    · exact .inl h2
    · exact .inr ⟨g, cap, cur, h2, Nat.le_trans hb h3, h4⟩
  obtain ⟨vals, k1, k2, k3⟩ := h
  exact ⟨vals, low k1, k2, fun j u x hu hx => ⟨low (k3 j u x hu hx).1, fun _ _ => by simp⟩⟩
/-- What is no block of cells may turn. -/
theorem POuts.putObj {w : World} {base : Nat} {v : Value} {out : List (List Pr)} {no : Option Nat} (h : POuts w base v out no) {D : Nat} {o : Obj} (hD : w.heap[D]? = some o) (ho : o.isCells = false) (o' : Obj) : POuts (w.putObj D o') base v out no :=
  h.kept (grownBy_putObj' w D o') (fun k hk e => by
    injection e with e; subst e
    obtain ⟨_, cur, hc⟩ := pouts_own h hk
    rw [hD] at hc; cases hc; cases ho) (fun k e => .inr (.inr fun cur hc => by
    injection e with e; subst e
    rw [hD] at hc; cases hc; cases ho)) (fun k e => .inl e)

theorem POuts.grow {w w1 : World} {base : Nat} {v : Value} {out : List (List Pr)} {no : Option Nat} (h : POuts w base v out no) (k : Below w.heap.size w w1) : POuts w1 base v out no :=
  h.kept (grownBy_below k none) (fun _ _ => by simp) (fun _ e => by cases e) (fun j e => .inl e)
theorem infoPairs : (Try.prog.info? 24).map (fun i => (i.zero, i.size, i.bytes)) = some (some (.slice none 0 0), 1, 24) := by kernel_rfl
/-- A row is put behind the others. -/
theorem POuts.app {X X0 w1 : World} {base : Nat} {out : List (List Pr)} {now : List Pr} {vo v' vn : Value} {vals : List Value} {no : Option Nat}
    (k : POuts X base vo out no) (k1 : X.ownsRow base 24 1 vo out.length vals) (k2 : ∀ u ∈ vals, u.oneCell' = true) (k3 : ∀ (j : Nat) u x, vals[j]? = some u → out[j]? = some x → PRow X base u x) (h1 : vn.oneCell' = true)
    (r7 : PRow X base vn now) (hown : w1.ownsRow base 24 1 v' (out.length + 1) (vals ++ [vn])) (hb : Below X.heap.size X X0) (hg : X0.grownBy w1 vo.ownBlock) : POuts w1 base v' (out ++ [now]) none := by
  have row1 : ∀ u x, PRow X base u x → PRow w1 base u x := fun u x hu => (PRow.grow hu hb).kept hg (pown_apart k hu)
  refine ⟨vals ++ [vn], by rw [List.length_append]; exact hown, fun u hu => ?_, fun j u x hu hx => ⟨row1 u x ?_, fun _ _ => by simp⟩⟩
  · rcases List.mem_append.1 hu with hu | hu
    · exact k2 u hu
    · rw [List.mem_singleton] at hu; rw [hu]; exact h1
  · have hvl : vals.length = out.length := by have := k1.1; simpa using this
    by_cases hj : j < out.length
    · rw [List.getElem?_append_left (by omega)] at hu
      rw [List.getElem?_append_left hj] at hx
      exact k3 j u x hu hx
    · have hj2 := (List.getElem?_eq_some_iff.1 hu).1
      simp at hj2
      obtain rfl : j = out.length := by omega
      rw [← hvl] at hu
      simp at hu hx
      subst hu hx
      exact r7
theorem wpList_appPP {w : World} {ops : Array Oper} {rest : List Oper} {o : Oper} {a : Act} {Q : Exit → Act → World → Prop} (hgd : o.guard = none) (s x : Operand)
    (ho : o.op = .call { callee := .builtin .append, args := #[s, x], argTypes := #[25, 25] })
    (base : Nat) (v : Value) (n : Nat) (vals : List Value) (hv : a.eval s = v) (hown : w.ownsRow base 24 1 v n vals) (B : Nat) (u : Value) (hu : u.oneCell' = true) (t : TypeId) (fr : Nat × Nat) (hX : a.eval x = .slice (some ⟨B, 0, none⟩) 1 1)
    (hb : w.heap[B]? = some (.cells #[u] t fr)) (hn : n ≤ 1000000) (hbase : base ≤ w.heap.size)
    (h : ∀ v' w', w'.ownsRow base 24 1 v' (n + 1) (vals ++ [u]) → Hop w w' v.ownBlock v'.ownBlock → wpList Try.prog ops Q rest (a.put o.dst v') w') : wpList Try.prog ops Q (o :: rest) a w := by
  obtain ⟨i0, hi, hz0, hz1, hz2⟩ := info_parts infoPairs
  refine wpList_append_row hgd s x 25 25 ho base 24 i0 _ 1 24 Try.underlying25 hi hz0 hz1 hz2 rfl v _ _ hv hown _ 1 [u] hX (fun v' w' h1 h2 => h v' w' h1 h2) ?_ ?_ ?_ hbase
  · exact src_block Try.underlying25 1 1 1 _ #[u] _ _ hb rfl (by simpa using hu)
  · unfold maxLen; omega
  · omega
/-- Rows of headers that are read. -/
def PNest (w : World) (A : Option Addr) (c : Nat) (xs : List (List Pr)) : Prop :=
  xs.length ≤ c ∧ (0 < xs.length → ∃ g o, A = some ⟨g, o, none⟩ ∧ g < w.heap.size ∧ ∀ (j : Nat) x, xs[j]? = some x → ∃ B d, w.cell? ⟨g, o + j, none⟩ = some (.slice B x.length d) ∧ Prs w B d x)
theorem PNest.grow {w w' : World} {A : Option Addr} {c : Nat} {xs : List (List Pr)} (h : PNest w A c xs) (k : Below w.heap.size w w') : PNest w' A c xs :=
  ⟨h.1, fun hp => by
    obtain ⟨g, o, e, hg, hc⟩ := h.2 hp
    exact ⟨g, o, e, Nat.lt_of_lt_of_le hg k.size, fun j x hx => by
      obtain ⟨B, d, h1, h2⟩ := hc j x hx
      exact ⟨B, d, (k.cell (p := ⟨g, _, none⟩) hg).trans h1, h2.grow k⟩⟩⟩
theorem PNest.nil (w : World) (A : Option Addr) (c : Nat) : PNest w A c [] := ⟨Nat.zero_le _, fun h => by simp at h⟩
theorem PNest.at_ {w : World} {A : Option Addr} {c : Nat} {xs : List (List Pr)} (h : PNest w A c xs) {i : Nat} (hi : i < xs.length) : ∃ g o x B d, A = some ⟨g, o, none⟩ ∧ g < w.heap.size ∧ xs[i]? = some x ∧ w.cell? ⟨g, o + i, none⟩ = some (.slice B x.length d) ∧ Prs w B d x := by
  obtain ⟨g, o, e, hg, hc⟩ := h.2 (by omega)
  obtain ⟨B, d, h1, h2⟩ := hc i _ (List.getElem?_eq_getElem hi)
  exact ⟨g, o, _, B, d, e, hg, List.getElem?_eq_getElem hi, h1, h2⟩
theorem PNest.tail {w : World} {g o c : Nat} {x : List Pr} {xs : List (List Pr)} (h : PNest w (some ⟨g, o, none⟩) c (x :: xs)) : PNest w (some ⟨g, o + 1, none⟩) (c - 1) xs := by
  refine ⟨by have := h.1; simp at this; omega, fun hp => ?_⟩
  obtain ⟨g', o', e, hg, hc⟩ := h.2 (by simp)
  cases e
  exact ⟨g, o + 1, rfl, hg, fun j y hy => by
    have := hc (j + 1) y (by simpa using hy)
    rwa [show o + (j + 1) = o + 1 + j from by omega] at this⟩
theorem POuts.reads {w : World} {base : Nat} {v : Value} {out : List (List Pr)} {no : Option Nat} (h : POuts w base v out no) : ∃ A c, v = .slice A out.length c ∧ PNest w A c out ∧ (∀ g o, A = some ⟨g, o, none⟩ → o = 0) := by
  obtain ⟨vals, k1, k2, k3⟩ := h
  have hc := fun (g : Nat) (hg : v.ownBlock = some g) => World.ownsRow.cells k1 hg
  rcases k1.2 with ⟨rfl, hn⟩ | ⟨g, cap, cur, rfl, h1, h2, h3, _⟩
  · obtain rfl : out = [] := List.eq_nil_of_length_eq_zero hn
    exact ⟨none, 0, rfl, PNest.nil _ _ _, fun g o e => by cases e⟩
  · have hvl : vals.length = out.length := by have := k1.1; simpa using this
    refine ⟨_, cap, rfl, ⟨h3, fun _ => ⟨g, 0, rfl, (Array.getElem?_eq_some_iff.1 h2).1, fun j x hx => ?_⟩⟩, fun g' o e => by cases e; rfl⟩
    have hj := (List.getElem?_eq_some_iff.1 hx).1
    obtain ⟨u, hu⟩ : ∃ u, vals[j]? = some u := ⟨_, List.getElem?_eq_getElem (by omega)⟩
    have h4 := hc g rfl j u hu
    rw [addr_add] at h4
    obtain ⟨A', c', rfl, hP, _⟩ := (k3 j u x hu hx).1.reads
    exact ⟨A', c', h4, hP⟩
/-- A manifest as a value: its main section, and its parts. -/
def Mani (w : World) (v : Value) (main : List Pr) (parts : List (List Pr)) : Prop :=
  ∃ A c B d, v = .agg #[.slice A main.length c, .slice B parts.length d] ∧ Prs w A c main ∧ PNest w B d parts
theorem Mani.grow {w w' : World} {v : Value} {main : List Pr} {parts : List (List Pr)} (h : Mani w v main parts) (k : Below w.heap.size w w') : Mani w' v main parts := by
  obtain ⟨A, c, B, d, h1, h2, h3⟩ := h
  exact ⟨A, c, B, d, h1, h2.grow k, h3.grow k⟩
theorem Mani.zero (w : World) : Mani w (.agg #[.slice none 0 0, .slice none 0 0]) [] [] := ⟨none, 0, none, 0, rfl, Prs.nil _ _ _, PNest.nil _ _ _⟩
/-- A row of texts that is read. -/
def Txt (w : World) (A : Option Addr) (c : Nat) (xs : List (List UInt8)) : Prop :=
  xs.length ≤ c ∧ (0 < xs.length → ∃ g o, A = some ⟨g, o, none⟩ ∧ g < w.heap.size ∧ ∀ (j : Nat) x, xs[j]? = some x → w.cell? ⟨g, o + j, none⟩ = some (.string (bs x)))
theorem Txt.grow {w w' : World} {A : Option Addr} {c : Nat} {xs : List (List UInt8)} (h : Txt w A c xs) (k : Below w.heap.size w w') : Txt w' A c xs :=
  ⟨h.1, fun hp => by
    obtain ⟨g, o, e, hg, hc⟩ := h.2 hp
    exact ⟨g, o, e, Nat.lt_of_lt_of_le hg k.size, fun j x hx => (k.cell (p := ⟨g, _, none⟩) hg).trans (hc j x hx)⟩⟩
theorem Txt.nil (w : World) (A : Option Addr) (c : Nat) : Txt w A c [] := ⟨Nat.zero_le _, fun h => by simp at h⟩
theorem Txt.at_ {w : World} {A : Option Addr} {c : Nat} {xs : List (List UInt8)} (h : Txt w A c xs) {i : Nat} (hi : i < xs.length) : ∃ g o x, A = some ⟨g, o, none⟩ ∧ g < w.heap.size ∧ xs[i]? = some x ∧ w.cell? ⟨g, o + i, none⟩ = some (.string (bs x)) := by
  obtain ⟨g, o, e, hg, hc⟩ := h.2 (by omega)
  exact ⟨g, o, _, e, hg, List.getElem?_eq_getElem hi, hc i _ (List.getElem?_eq_getElem hi)⟩
theorem TRow.reads {w : World} {base : Nat} {v : Value} {xs : List (List UInt8)} (h : TRow w base v xs) : ∃ A c, v = .slice A xs.length c ∧ Txt w A c xs := by
  rcases h.cases with ⟨rfl, rfl⟩ | ⟨g, cap, rfl, _, hg, hc, hx⟩
  · exact ⟨none, 0, rfl, Txt.nil _ _ _⟩
  · exact ⟨_, cap, rfl, hc, fun _ => ⟨g, 0, rfl, hg, fun j x hj => by rw [Nat.zero_add]; exact hx j x hj⟩⟩
def TNest (w : World) (A : Option Addr) (c : Nat) (xs : List (List (List UInt8))) : Prop :=
  xs.length ≤ c ∧ (0 < xs.length → ∃ g o, A = some ⟨g, o, none⟩ ∧ g < w.heap.size ∧ ∀ (j : Nat) x, xs[j]? = some x → ∃ B d, w.cell? ⟨g, o + j, none⟩ = some (.slice B x.length d) ∧ Txt w B d x)
theorem TNest.grow {w w' : World} {A : Option Addr} {c : Nat} {xs : List (List (List UInt8))} (h : TNest w A c xs) (k : Below w.heap.size w w') : TNest w' A c xs :=
  ⟨h.1, fun hp => by
    obtain ⟨g, o, e, hg, hc⟩ := h.2 hp
    exact ⟨g, o, e, Nat.lt_of_lt_of_le hg k.size, fun j x hx => by
      obtain ⟨B, d, h1, h2⟩ := hc j x hx
      exact ⟨B, d, (k.cell (p := ⟨g, _, none⟩) hg).trans h1, h2.grow k⟩⟩⟩
theorem TNest.at_ {w : World} {A : Option Addr} {c : Nat} {xs : List (List (List UInt8))} (h : TNest w A c xs) {i : Nat} (hi : i < xs.length) : ∃ g o x B d, A = some ⟨g, o, none⟩ ∧ g < w.heap.size ∧ xs[i]? = some x ∧ w.cell? ⟨g, o + i, none⟩ = some (.slice B x.length d) ∧ Txt w B d x := by
  obtain ⟨g, o, e, hg, hc⟩ := h.2 (by omega)
  obtain ⟨B, d, h1, h2⟩ := hc i _ (List.getElem?_eq_getElem hi)
  exact ⟨g, o, _, B, d, e, hg, List.getElem?_eq_getElem hi, h1, h2⟩
theorem Outs.reads {w : World} {base : Nat} {v : Value} {out : List (List (List UInt8))} {no : Option Nat} (h : Outs w base v out no) : ∃ A c, v = .slice A out.length c ∧ TNest w A c out := by
  obtain ⟨vals, k1, k2, k3⟩ := h
  have hc := fun (g : Nat) (hg : v.ownBlock = some g) => World.ownsRow.cells k1 hg
  rcases k1.2 with ⟨rfl, hn⟩ | ⟨g, cap, cur, rfl, h1, h2, h3, _⟩
  · obtain rfl : out = [] := List.eq_nil_of_length_eq_zero hn
    exact ⟨none, 0, rfl, Nat.zero_le _, fun h => by simp at h⟩
  · have hvl : vals.length = out.length := by have := k1.1; simpa using this
    refine ⟨_, cap, rfl, h3, fun _ => ⟨g, 0, rfl, (Array.getElem?_eq_some_iff.1 h2).1, fun j x hx => ?_⟩⟩
    have hj := (List.getElem?_eq_some_iff.1 hx).1
    obtain ⟨u, hu⟩ : ∃ u, vals[j]? = some u := ⟨_, List.getElem?_eq_getElem (by omega)⟩
    have h4 := hc g rfl j u hu
    rw [addr_add] at h4
    obtain ⟨A', c', rfl, hP⟩ := (k3 j u x hu hx).1.reads
    exact ⟨A', c', h4, hP⟩
theorem PRow.low {w : World} {base b' : Nat} {v : Value} {xs : List Pr} (h : PRow w base v xs) (hb : b' ≤ base) : PRow w b' v xs := by
  obtain ⟨h1, h2⟩ := h
  refine ⟨h1, ?_⟩
  rcases h2 with h2 | ⟨g, cap, cur, h2, h3, h4⟩
  · exact .inl h2
  · exact .inr ⟨g, cap, cur, h2, Nat.le_trans hb h3, h4⟩
/-- A row of bytes that is read. -/
def BAt (w : World) (A : Option Addr) (c : Nat) (l : List UInt8) : Prop :=
  l.length ≤ c ∧ (0 < l.length → ∃ g o, A = some ⟨g, o, none⟩ ∧ g < w.heap.size ∧ ∀ (j : Nat) x, l[j]? = some x → w.cell? ⟨g, o + j, none⟩ = some (.int .u8 (x.toNat : Int)))
theorem BAt.grow {w w' : World} {A : Option Addr} {c : Nat} {l : List UInt8} (h : BAt w A c l) (k : Below w.heap.size w w') : BAt w' A c l :=
  ⟨h.1, fun hp => by
    obtain ⟨g, o, e, hg, hc⟩ := h.2 hp
    exact ⟨g, o, e, Nat.lt_of_lt_of_le hg k.size, fun j x hx => (k.cell (p := ⟨g, _, none⟩) hg).trans (hc j x hx)⟩⟩
theorem BAt.text {w : World} {A : Option Addr} {c : Nat} {l : List UInt8} (h : BAt w A c l) : (convert 22 9 (.slice A l.length c)).run Try.prog w = .ok (.string (bs l)) w := by
  by_cases h0 : l.length = 0
  · obtain rfl := List.eq_nil_of_length_eq_zero h0
    cases A with
    | none =>
      rw [run_convert_bytes_string w 22 9 5 none ([] : List UInt8).length c Try.underlying22 Try.underlying5 Try.underlying9]
      rfl
    | some a => exact run_convert_bytes_back (P := Try.prog) w 22 9 5 a c [] Try.underlying22 Try.underlying5 Try.underlying9 (fun j hj => by simp at hj)
  · obtain ⟨g, o, rfl, hg, hc⟩ := h.2 (by omega)
    exact run_convert_bytes_back (P := Try.prog) w 22 9 5 ⟨g, o, none⟩ c l Try.underlying22 Try.underlying5 Try.underlying9 (fun j hj => by
      rw [addr_add]; exact hc j _ (List.getElem?_eq_getElem hj))
end Go.Proofs.Ytbjhnfemlpbchaa
