/- Rows of values: six cells each; what is read, and rows of the call's own. -/
import Derived.Test.YtekcfjfkbiciaaaPlain
import Derived.Test.YtekcfjfkbiciaaaInts
import Derived.Test.YtekcfjfkbiciaaaOrder
import Derived.Test.YtekcfjfkbiciaaaStrs
import Derived.Test.YtekcfjfkbiciaaaProg
import Derived.Lib.Hide
import Derived.Laws.OwnMore
import Derived.Laws.AppendOwn
namespace Go.Proofs.Ytekcfjfkbiciaaa
open Go.RowKit

/-- A value that numbers and lengths of the machine can hold. -/
def Pv.fits (v : Pv) : Prop := I64 v.tag ∧ v.bits < 18446744073709551616 ∧ v.text.length ≤ 140737488355328 ∧ v.cls.length ≤ 140737488355328 ∧ v.name.length ≤ 140737488355328 ∧ v.desc.length ≤ 140737488355328
/-- A value as it lies in cells. -/
def vv (v : Pv) : Value := .agg #[.int .i64 v.tag, .string (bs v.text), .int .u64 v.bits, .string (bs v.cls), .string (bs v.name), .string (bs v.desc)]
def vc : List Pv → List Value
  | [] => []
  | v :: xs => .int .i64 v.tag :: .string (bs v.text) :: .int .u64 v.bits :: .string (bs v.cls) :: .string (bs v.name) :: .string (bs v.desc) :: vc xs
theorem vc_length : ∀ xs : List Pv, (vc xs).length = xs.length * 6
  | [] => rfl
  | v :: xs => by simp only [vc, List.length_cons, vc_length xs]; omega
theorem vc_append : ∀ xs ys : List Pv, vc (xs ++ ys) = vc xs ++ vc ys
  | [], ys => rfl
  | v :: xs, ys => by simp only [List.cons_append, vc, vc_append xs ys]
theorem vc_one : ∀ xs : List Pv, ∀ u ∈ vc xs, u.oneCell' = true
  | [], u, h => by simp [vc] at h
  | v :: xs, u, h => by
    simp only [vc, List.mem_cons] at h
    rcases h with rfl | rfl | rfl | rfl | rfl | rfl | h
    · rfl
    · rfl
    · rfl
    · rfl
    · rfl
    · rfl
    · exact vc_one xs u h
theorem vc_get : ∀ {xs : List Pv} {j : Nat} {v : Pv}, xs[j]? = some v → (vc xs)[j * 6]? = some (.int .i64 v.tag) ∧ (vc xs)[j * 6 + 1]? = some (.string (bs v.text)) ∧ (vc xs)[j * 6 + 2]? = some (.int .u64 v.bits) ∧
    (vc xs)[j * 6 + 3]? = some (.string (bs v.cls)) ∧ (vc xs)[j * 6 + 4]? = some (.string (bs v.name)) ∧ (vc xs)[j * 6 + 5]? = some (.string (bs v.desc))
  | [], j, v, h => by simp at h
  | q :: xs, 0, v, h => by
    simp at h
    subst h
    exact ⟨rfl, rfl, rfl, rfl, rfl, rfl⟩
  | q :: xs, j + 1, v, h => by
    have := vc_get (xs := xs) (j := j) (v := v) (by simpa using h)
    rw [show (j + 1) * 6 = j * 6 + 6 from by omega]
    simpa [vc] using this
theorem infoVal : (Try.prog.info? 25).map (fun i => (i.zero, i.size, i.bytes)) = some (some (.agg #[.int .i64 0, .string ⟨#[]⟩, .int .u64 0, .string ⟨#[]⟩, .string ⟨#[]⟩, .string ⟨#[]⟩]), 6, 80) := by kernel_rfl
/-- The six cells of a value. -/
def VAt (w : World) (g o : Nat) (v : Pv) : Prop :=
  w.cell? ⟨g, o, none⟩ = some (.int .i64 v.tag) ∧ w.cell? ⟨g, o + 1, none⟩ = some (.string (bs v.text)) ∧ w.cell? ⟨g, o + 2, none⟩ = some (.int .u64 v.bits) ∧
  w.cell? ⟨g, o + 3, none⟩ = some (.string (bs v.cls)) ∧ w.cell? ⟨g, o + 4, none⟩ = some (.string (bs v.name)) ∧ w.cell? ⟨g, o + 5, none⟩ = some (.string (bs v.desc))
theorem VAt.keep {w w' : World} {g o : Nat} {v : Pv} (h : VAt w g o v) {B : Nat} (k : Below B w w') (hg : g < B) : VAt w' g o v := by
  obtain ⟨h0, h1, h2, h3, h4, h5⟩ := h
  exact ⟨(k.cell (p := ⟨g, _, none⟩) hg).trans h0, (k.cell (p := ⟨g, _, none⟩) hg).trans h1, (k.cell (p := ⟨g, _, none⟩) hg).trans h2, (k.cell (p := ⟨g, _, none⟩) hg).trans h3, (k.cell (p := ⟨g, _, none⟩) hg).trans h4, (k.cell (p := ⟨g, _, none⟩) hg).trans h5⟩
/-- A box with a value. -/
def VBox (w : World) (b : Nat) (v : Pv) : Prop := w.heap[b]? = some (.cells #[.int .i64 v.tag, .string (bs v.text), .int .u64 v.bits, .string (bs v.cls), .string (bs v.name), .string (bs v.desc)] 25 (0, 0))
theorem VBox.lt {w : World} {b : Nat} {v : Pv} (h : VBox w b v) : b < w.heap.size := (Array.getElem?_eq_some_iff.1 h).1
theorem VBox.keep {w w' : World} {b : Nat} {v : Pv} (h : VBox w b v) {B : Nat} (k : Below B w w') (hb : b < B) : VBox w' b v := (k.block b hb).trans h
theorem VBox.at_ {w : World} {b : Nat} {v : Pv} (h : VBox w b v) : w.cell? ⟨b, 0, none⟩ = some (.int .i64 v.tag) ∧ w.cell? ⟨b, 1, none⟩ = some (.string (bs v.text)) ∧ w.cell? ⟨b, 2, none⟩ = some (.int .u64 v.bits) ∧
    w.cell? ⟨b, 3, none⟩ = some (.string (bs v.cls)) ∧ w.cell? ⟨b, 4, none⟩ = some (.string (bs v.name)) ∧ w.cell? ⟨b, 5, none⟩ = some (.string (bs v.desc)) :=
  ⟨(blk_facts h).1 0, (blk_facts h).1 1, (blk_facts h).1 2, (blk_facts h).1 3, (blk_facts h).1 4, (blk_facts h).1 5⟩
theorem vbox_new (w : World) (v : Pv) : VBox (w.alloc (.cells #[.int .i64 v.tag, .string (bs v.text), .int .u64 v.bits, .string (bs v.cls), .string (bs v.name), .string (bs v.desc)] 25)) w.heap.size v := heap_alloc_new _ _
/-- A row that reads as these values. -/
def Vals (w : World) (A : Option Addr) (c : Nat) (xs : List Pv) : Prop :=
  xs.length ≤ c ∧ (0 < xs.length → ∃ g o, A = some ⟨g, o, none⟩ ∧ g < w.heap.size ∧ ∀ (j : Nat) v, xs[j]? = some v → VAt w g (o + j * 6) v)
theorem Vals.keep {w w' : World} {A : Option Addr} {c : Nat} {xs : List Pv} (h : Vals w A c xs) {B : Nat} (k : Below B w w') (hB : ∀ g o, A = some ⟨g, o, none⟩ → 0 < xs.length → g < B) : Vals w' A c xs :=
  ⟨h.1, fun hp => by
    obtain ⟨g, o, e, hg, hc⟩ := h.2 hp
    exact ⟨g, o, e, Nat.lt_of_lt_of_le hg k.size, fun j x hx => (hc j x hx).keep k (hB g o e hp)⟩⟩
theorem Vals.grow {w w' : World} {A : Option Addr} {c : Nat} {xs : List Pv} (h : Vals w A c xs) (k : Below w.heap.size w w') : Vals w' A c xs :=
  h.keep k fun g o e hp => by
    obtain ⟨g', o', e', hg, _⟩ := h.2 hp
    rw [e] at e'
    cases e'
    exact hg
theorem Vals.nil (w : World) (A : Option Addr) (c : Nat) : Vals w A c [] := ⟨Nat.zero_le _, fun h => by simp at h⟩
/-- The place at i. -/
theorem Vals.at_ {w : World} {A : Option Addr} {c : Nat} {xs : List Pv} (h : Vals w A c xs) {i : Nat} (hi : i < xs.length) : ∃ g o v, A = some ⟨g, o, none⟩ ∧ g < w.heap.size ∧ xs[i]? = some v ∧ VAt w g (o + i * 6) v := by
  obtain ⟨g, o, e, hg, hc⟩ := h.2 (by omega)
  exact ⟨g, o, _, e, hg, List.getElem?_eq_getElem hi, hc i _ (List.getElem?_eq_getElem hi)⟩
def VRow (w : World) (base : Nat) (v : Value) (xs : List Pv) : Prop := w.ownsRow base 25 6 v xs.length (vc xs)
theorem VRow.grow {w w1 : World} {base : Nat} {v : Value} {xs : List Pv} (h : VRow w base v xs) (k : Below w.heap.size w w1) : VRow w1 base v xs := own_below h k
theorem VRow.nil (w : World) (base : Nat) : VRow w base (.slice none 0 0) [] := World.ownsRow_nil w base 25 6
theorem VRow.app {w : World} {base : Nat} {v : Value} {xs ys : List Pv} {n : Nat} (h : w.ownsRow base 25 6 v n (vc xs ++ vc ys)) (hn : n = xs.length + ys.length) : VRow w base v (xs ++ ys) := by
  unfold VRow
  rw [List.length_append, vc_append, ← hn]
  exact h
theorem VRow.kept {w w1 : World} {base : Nat} {v : Value} {xs : List Pv} {row : Option Nat} (h : VRow w base v xs) (g : w.grownBy w1 row) (hne : ∀ k, v.ownBlock = some k → row ≠ some k) : VRow w1 base v xs :=
  World.ownsRow.kept h g (by
    cases e : v.ownBlock with
    | none => exact .inl rfl
    | some k => exact .inr (fun e2 => hne k e e2.symm))
theorem VRow.lower {w : World} {base b' : Nat} {v : Value} {xs : List Pv} (h : VRow w base v xs) (hb : b' ≤ base) : VRow w b' v xs := by
  refine ⟨h.1, ?_⟩
  rcases h.2 with h2 | ⟨g, cap, cur, h2, h3, h4⟩
  · exact .inl h2
  · exact .inr ⟨g, cap, cur, h2, Nat.le_trans hb h3, h4⟩
theorem addr_add (g o j : Nat) : Addr.add ⟨g, o, none⟩ j = ⟨g, o + j, none⟩ := by unfold Addr.add; split <;> simp_all
theorem VRow.reads {w : World} {base : Nat} {v : Value} {xs : List Pv} (h : VRow w base v xs) : ∃ A c, v = .slice A xs.length c ∧ Vals w A c xs ∧ (∀ g o, A = some ⟨g, o, none⟩ → base ≤ g ∧ o = 0) := by
  have hc := fun (g : Nat) (hg : v.ownBlock = some g) => World.ownsRow.cells h hg
  rcases h.2 with ⟨rfl, hn⟩ | ⟨g, cap, cur, rfl, h1, h2, h3, _⟩
  · obtain rfl : xs = [] := List.eq_nil_of_length_eq_zero hn
    exact ⟨none, 0, rfl, Vals.nil _ _ _, fun g o e => by cases e⟩
  · refine ⟨_, cap, rfl, ⟨h3, fun _ => ⟨g, 0, rfl, (Array.getElem?_eq_some_iff.1 h2).1, fun j x hx => ?_⟩⟩, fun g' o e => by cases e; exact ⟨h1, rfl⟩⟩
    obtain ⟨p0, p1, p2, p3, p4, p5⟩ := vc_get hx
    have c0 := hc g rfl _ _ p0
    have c1 := hc g rfl _ _ p1
    have c2 := hc g rfl _ _ p2
    have c3 := hc g rfl _ _ p3
    have c4 := hc g rfl _ _ p4
    have c5 := hc g rfl _ _ p5
    rw [addr_add] at c0 c1 c2 c3 c4 c5
    unfold VAt
    simp only [Nat.add_assoc]
    exact ⟨c0, c1, c2, c3, c4, c5⟩
theorem VRow.base_le {w : World} {base : Nat} {v : Value} {xs : List Pv} (h : VRow w base v xs) {k : Nat} (hk : v.ownBlock = some k) : base ≤ k := (World.ownsRow.lt h k hk).1
/-- What is appended out of a row that is read. -/
theorem Vals.src {w0 w : World} {A : Option Addr} {c : Nat} {xs : List Pv} (h : Vals w0 A c xs) (k : Below w0.heap.size w0 w) : Src Try.prog 6 22 (.slice A xs.length c) xs.length (vc xs) w := by
  have h' := h.grow k
  cases xs with
  | nil =>
    cases A with
    | none => exact Src.ofNil w Try.underlying22 c
    | some a => exact Src.ofSlice w Try.underlying22 a 0 c [] rfl (fun j u hu => by simp at hu) (fun u hu => by cases hu)
  | cons y ys =>
    obtain ⟨g, o, rfl, hg, hc⟩ := h'.2 (by simp)
    refine Src.ofSlice w Try.underlying22 ⟨g, o, none⟩ _ c _ (vc_length _) (fun j u hu => ?_) (vc_one _)
    have hj : j < (vc (y :: ys)).length := (List.getElem?_eq_some_iff.1 hu).1
    rw [vc_length] at hj
    have hi : j / 6 < (y :: ys).length := by omega
    have hx := List.getElem?_eq_getElem hi
    obtain ⟨p0, p1, p2, p3, p4, p5⟩ := vc_get hx
    obtain ⟨c0, c1, c2, c3, c4, c5⟩ := hc _ _ hx
    rw [addr_add]
    have hr : j % 6 = 0 ∨ j % 6 = 1 ∨ j % 6 = 2 ∨ j % 6 = 3 ∨ j % 6 = 4 ∨ j % 6 = 5 := by omega
    have fin : ∀ k, j % 6 = k → j = j / 6 * 6 + k := fun k hk => by omega
    rcases hr with e | e | e | e | e | e <;> (have e1 := fin _ e; revert hu; generalize j / 6 = q at *; subst e1; intro hu)
    · rw [show q * 6 + 0 = q * 6 from rfl] at hu; rw [p0] at hu; cases hu; exact c0
    · rw [p1] at hu; cases hu; exact c1
    · rw [p2] at hu; cases hu; exact c2
    · rw [p3] at hu; cases hu; exact c3
    · rw [p4] at hu; cases hu; exact c4
    · rw [p5] at hu; cases hu; exact c5
/-- One value, out of a fresh block. -/
theorem src_val {w : World} {B : Nat} {v : Pv} {t : TypeId} {fr : Nat × Nat} (hb : w.heap[B]? = some (.cells #[.int .i64 v.tag, .string (bs v.text), .int .u64 v.bits, .string (bs v.cls), .string (bs v.name), .string (bs v.desc)] t fr)) (c : Nat) :
    Src Try.prog 6 22 (.slice (some ⟨B, 0, none⟩) 1 c) 1 (vc [v]) w :=
  src_block Try.underlying22 6 1 c B _ t fr hb rfl (vc_one [v])
/-- append of whatever values onto an own row. -/
theorem wpList_appV {w : World} {ops : Array Oper} {rest : List Oper} {o : Oper} {a : Act} {Q : Exit → Act → World → Prop} (hgd : o.guard = none) (s x : Operand)
    (ho : o.op = .call { callee := .builtin .append, args := #[s, x], argTypes := #[22, 22] })
    (base : Nat) (v : Value) (xs : List Pv) (hv : a.eval s = v) (hown : VRow w base v xs) (X : Value) (ys : List Pv) (hX : a.eval x = X)
    (hs : Src Try.prog 6 22 X ys.length (vc ys) w) (hn : xs.length + ys.length ≤ 1000000000000) (hbase : base ≤ w.heap.size)
    (h : ∀ v' w', VRow w' base v' (xs ++ ys) → Hop w w' v.ownBlock v'.ownBlock → wpList Try.prog ops Q rest (a.put o.dst v') w') : wpList Try.prog ops Q (o :: rest) a w := by
  obtain ⟨i0, hi, hz0, hz1, hz2⟩ := info_parts infoVal
  refine wpList_append_row hgd s x 22 22 ho base 25 i0 _ 6 80 Try.underlying22 hi hz0 hz1 hz2 rfl v _ _ hv hown X ys.length (vc ys) hX (fun v' w' h1 h2 => h v' w' (VRow.app h1 rfl) h2) hs ?_ ?_ hbase
  · unfold maxLen; omega
  · omega
theorem step_appV {w : World} {ops : Array Oper} {o : Oper} {a : Act} {K : Act → World → Prop} {Q : Exit → Act → World → Prop} {E : Prop} (hgd : o.guard = none) (s x : Operand)
    (ho : o.op = .call { callee := .builtin .append, args := #[s, x], argTypes := #[22, 22] })
    (base : Nat) (v : Value) (xs : List Pv) (hv : a.eval s = v) (hown : VRow w base v xs) (X : Value) (ys : List Pv) (hX : a.eval x = X)
    (hs : Src Try.prog 6 22 X ys.length (vc ys) w) (hn : xs.length + ys.length ≤ 1000000000000) (hbase : base ≤ w.heap.size)
    (h : ∀ v' w', VRow w' base v' (xs ++ ys) → Hop w w' v.ownBlock v'.ownBlock → K (a.put o.dst v') w') :
    if Region.wanted o (yielded ops a.tmps) = true then Oper.wp Try.prog o a w K Q else E := by
  obtain ⟨i0, hi, hz0, hz1, hz2⟩ := info_parts infoVal
  refine step_append_row hgd s x 22 22 ho base 25 i0 _ 6 80 Try.underlying22 hi hz0 hz1 hz2 rfl v _ _ hv hown X ys.length (vc ys) hX (fun v' w' h1 h2 => h v' w' (VRow.app h1 rfl) h2) hs ?_ ?_ hbase
  · unfold maxLen; omega
  · omega
end Go.Proofs.Ytekcfjfkbiciaaa
