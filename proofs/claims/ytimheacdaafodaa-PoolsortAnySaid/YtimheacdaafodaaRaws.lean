/- Rows of constants: five cells each; what is read, and rows of the call's own. -/
import Derived.Test.YtimheacdaafodaaVals
namespace Go.Proofs.Ytimheacdaafodaa
open Go.RowKit

/-- A constant as it lies in cells. -/
def rr (v : Rw) : Value := .agg #[.int .i64 v.tag, .string (bs v.text), .int .u64 v.bits, .int .i64 v.a, .int .i64 v.b]
def rc : List Rw → List Value
  | [] => []
  | v :: xs => .int .i64 v.tag :: .string (bs v.text) :: .int .u64 v.bits :: .int .i64 v.a :: .int .i64 v.b :: rc xs
theorem rc_length : ∀ xs : List Rw, (rc xs).length = xs.length * 5
  | [] => rfl
  | v :: xs => by simp only [rc, List.length_cons, rc_length xs]; omega
theorem rc_append : ∀ xs ys : List Rw, rc (xs ++ ys) = rc xs ++ rc ys
  | [], ys => rfl
  | v :: xs, ys => by simp only [List.cons_append, rc, rc_append xs ys]
theorem rc_one : ∀ xs : List Rw, ∀ u ∈ rc xs, u.oneCell' = true
  | [], u, h => by simp [rc] at h
  | v :: xs, u, h => by
    simp only [rc, List.mem_cons] at h
    rcases h with rfl | rfl | rfl | rfl | rfl | h
    · rfl
    · rfl
    · rfl
    · rfl
    · rfl
    · exact rc_one xs u h
theorem rc_get : ∀ {xs : List Rw} {j : Nat} {v : Rw}, xs[j]? = some v → (rc xs)[j * 5]? = some (.int .i64 v.tag) ∧ (rc xs)[j * 5 + 1]? = some (.string (bs v.text)) ∧ (rc xs)[j * 5 + 2]? = some (.int .u64 v.bits) ∧
    (rc xs)[j * 5 + 3]? = some (.int .i64 v.a) ∧ (rc xs)[j * 5 + 4]? = some (.int .i64 v.b)
  | [], j, v, h => by simp at h
  | q :: xs, 0, v, h => by
    simp at h
    subst h
    exact ⟨rfl, rfl, rfl, rfl, rfl⟩
  | q :: xs, j + 1, v, h => by
    have := rc_get (xs := xs) (j := j) (v := v) (by simpa using h)
    rw [show (j + 1) * 5 = j * 5 + 5 from by omega]
    simpa [rc] using this
theorem infoRaw : (Try.prog.info? 49).map (fun i => (i.zero, i.size, i.bytes)) = some (some (.agg #[.int .i64 0, .string ⟨#[]⟩, .int .u64 0, .int .i64 0, .int .i64 0]), 5, 48) := by kernel_rfl
/-- The five cells of a constant. -/
def RAt (w : World) (g o : Nat) (v : Rw) : Prop :=
  w.cell? ⟨g, o, none⟩ = some (.int .i64 v.tag) ∧ w.cell? ⟨g, o + 1, none⟩ = some (.string (bs v.text)) ∧ w.cell? ⟨g, o + 2, none⟩ = some (.int .u64 v.bits) ∧
  w.cell? ⟨g, o + 3, none⟩ = some (.int .i64 v.a) ∧ w.cell? ⟨g, o + 4, none⟩ = some (.int .i64 v.b)
theorem RAt.keep {w w' : World} {g o : Nat} {v : Rw} (h : RAt w g o v) {B : Nat} (k : Below B w w') (hg : g < B) : RAt w' g o v := by
  obtain ⟨h0, h1, h2, h3, h4⟩ := h
  exact ⟨(k.cell (p := ⟨g, _, none⟩) hg).trans h0, (k.cell (p := ⟨g, _, none⟩) hg).trans h1, (k.cell (p := ⟨g, _, none⟩) hg).trans h2, (k.cell (p := ⟨g, _, none⟩) hg).trans h3, (k.cell (p := ⟨g, _, none⟩) hg).trans h4⟩
/-- A box with a constant. -/
def RBox (w : World) (b : Nat) (v : Rw) : Prop := w.heap[b]? = some (.cells #[.int .i64 v.tag, .string (bs v.text), .int .u64 v.bits, .int .i64 v.a, .int .i64 v.b] 49 (0, 0))
theorem RBox.lt {w : World} {b : Nat} {v : Rw} (h : RBox w b v) : b < w.heap.size := (Array.getElem?_eq_some_iff.1 h).1
theorem RBox.keep {w w' : World} {b : Nat} {v : Rw} (h : RBox w b v) {B : Nat} (k : Below B w w') (hb : b < B) : RBox w' b v := (k.block b hb).trans h
theorem RBox.at_ {w : World} {b : Nat} {v : Rw} (h : RBox w b v) : RAt w b 0 v :=
  ⟨(blk_facts h).1 0, (blk_facts h).1 1, (blk_facts h).1 2, (blk_facts h).1 3, (blk_facts h).1 4⟩
/-- A row that reads as these constants. -/
def Raws (w : World) (A : Option Addr) (c : Nat) (xs : List Rw) : Prop :=
  xs.length ≤ c ∧ (0 < xs.length → ∃ g o, A = some ⟨g, o, none⟩ ∧ g < w.heap.size ∧ ∀ (j : Nat) v, xs[j]? = some v → RAt w g (o + j * 5) v)
theorem Raws.keep {w w' : World} {A : Option Addr} {c : Nat} {xs : List Rw} (h : Raws w A c xs) {B : Nat} (k : Below B w w') (hB : ∀ g o, A = some ⟨g, o, none⟩ → 0 < xs.length → g < B) : Raws w' A c xs :=
  ⟨h.1, fun hp => by
    obtain ⟨g, o, e, hg, hc⟩ := h.2 hp
    exact ⟨g, o, e, Nat.lt_of_lt_of_le hg k.size, fun j x hx => (hc j x hx).keep k (hB g o e hp)⟩⟩
theorem Raws.grow {w w' : World} {A : Option Addr} {c : Nat} {xs : List Rw} (h : Raws w A c xs) (k : Below w.heap.size w w') : Raws w' A c xs :=
  h.keep k fun g o e hp => by
    obtain ⟨g', o', e', hg, _⟩ := h.2 hp
    rw [e] at e'
    cases e'
    exact hg
theorem Raws.nil (w : World) (A : Option Addr) (c : Nat) : Raws w A c [] := ⟨Nat.zero_le _, fun h => by simp at h⟩
theorem Raws.at_ {w : World} {A : Option Addr} {c : Nat} {xs : List Rw} (h : Raws w A c xs) {i : Nat} (hi : i < xs.length) : ∃ g o v, A = some ⟨g, o, none⟩ ∧ g < w.heap.size ∧ xs[i]? = some v ∧ RAt w g (o + i * 5) v := by
  obtain ⟨g, o, e, hg, hc⟩ := h.2 (by omega)
  exact ⟨g, o, _, e, hg, List.getElem?_eq_getElem hi, hc i _ (List.getElem?_eq_getElem hi)⟩
def RRow (w : World) (base : Nat) (v : Value) (xs : List Rw) : Prop := w.ownsRow base 49 5 v xs.length (rc xs)
theorem RRow.grow {w w1 : World} {base : Nat} {v : Value} {xs : List Rw} (h : RRow w base v xs) (k : Below w.heap.size w w1) : RRow w1 base v xs := own_below h k
theorem RRow.nil (w : World) (base : Nat) : RRow w base (.slice none 0 0) [] := World.ownsRow_nil w base 49 5
theorem RRow.app {w : World} {base : Nat} {v : Value} {xs ys : List Rw} {n : Nat} (h : w.ownsRow base 49 5 v n (rc xs ++ rc ys)) (hn : n = xs.length + ys.length) : RRow w base v (xs ++ ys) := by
  unfold RRow
  rw [List.length_append, rc_append, ← hn]
  exact h
theorem RRow.kept {w w1 : World} {base : Nat} {v : Value} {xs : List Rw} {row : Option Nat} (h : RRow w base v xs) (g : w.grownBy w1 row) (hne : ∀ k, v.ownBlock = some k → row ≠ some k) : RRow w1 base v xs :=
  World.ownsRow.kept h g (by
    cases e : v.ownBlock with
    | none => exact .inl rfl
    | some k => exact .inr (fun e2 => hne k e e2.symm))
theorem RRow.lower {w : World} {base b' : Nat} {v : Value} {xs : List Rw} (h : RRow w base v xs) (hb : b' ≤ base) : RRow w b' v xs := by
  refine ⟨h.1, ?_⟩
  rcases h.2 with h2 | ⟨g, cap, cur, h2, h3, h4⟩
  · exact .inl h2
  · exact .inr ⟨g, cap, cur, h2, Nat.le_trans hb h3, h4⟩
theorem RRow.reads {w : World} {base : Nat} {v : Value} {xs : List Rw} (h : RRow w base v xs) : ∃ A c, v = .slice A xs.length c ∧ Raws w A c xs := by
  have hc := fun (g : Nat) (hg : v.ownBlock = some g) => World.ownsRow.cells h hg
  rcases h.2 with ⟨rfl, hn⟩ | ⟨g, cap, cur, rfl, h1, h2, h3, _⟩
  · obtain rfl : xs = [] := List.eq_nil_of_length_eq_zero hn
    exact ⟨none, 0, rfl, Raws.nil _ _ _⟩
  · refine ⟨_, cap, rfl, ⟨h3, fun _ => ⟨g, 0, rfl, (Array.getElem?_eq_some_iff.1 h2).1, fun j x hx => ?_⟩⟩⟩
    obtain ⟨p0, p1, p2, p3, p4⟩ := rc_get hx
    have c0 := hc g rfl _ _ p0
    have c1 := hc g rfl _ _ p1
    have c2 := hc g rfl _ _ p2
    have c3 := hc g rfl _ _ p3
    have c4 := hc g rfl _ _ p4
    rw [addr_add] at c0 c1 c2 c3 c4
    unfold RAt
    simp only [Nat.add_assoc]
    exact ⟨c0, c1, c2, c3, c4⟩
theorem RRow.vals {x : World} {base : Nat} {A : Option Addr} {n c : Nat} {xs : List Rw} (h : RRow x base (.slice A n c) xs) : Raws x A c xs := by
  obtain ⟨A', c', e, hv⟩ := h.reads
  cases e
  exact hv
theorem RRow.base_le {w : World} {base : Nat} {v : Value} {xs : List Rw} (h : RRow w base v xs) {k : Nat} (hk : v.ownBlock = some k) : base ≤ k := (World.ownsRow.lt h k hk).1
theorem RRow.lt {x : World} {base : Nat} {u : Value} {xs : List Rw} (h : RRow x base u xs) {k : Nat} (hk : u.ownBlock = some k) : k < x.heap.size := (World.ownsRow.lt h k hk).2
theorem rrow_of_block {w : World} {M base n : Nat} {cs : Array Value} (h : w.heap[M]? = some (.cells cs 49 (0, 0))) (hb : base ≤ M) (xs : List Rw) (hcs : cs.toList = rc xs) (hn : n = xs.length) (hl : xs.length ≤ 1000) : RRow w base (.slice (some ⟨M, 0, none⟩) n n) xs := by
  subst hn
  have hs : cs.size = xs.length * 5 := by rw [← rc_length, ← hcs]; simp
  refine ⟨rc_length xs, .inr ⟨M, xs.length, cs, rfl, hb, h, Nat.le_refl _, by unfold maxLen; omega, hs, ?_⟩⟩
  rw [hcs, ← rc_length]
  exact List.take_length
/-- One constant, out of a fresh block. -/
theorem src_raw {w : World} {B : Nat} {v : Rw} {t : TypeId} {fr : Nat × Nat} (hb : w.heap[B]? = some (.cells #[.int .i64 v.tag, .string (bs v.text), .int .u64 v.bits, .int .i64 v.a, .int .i64 v.b] t fr)) (c : Nat) :
    Src Try.prog 5 35 (.slice (some ⟨B, 0, none⟩) 1 c) 1 (rc [v]) w :=
  src_block Try.underlying35 5 1 c B _ t fr hb rfl (rc_one [v])
/-- append of whatever constants onto an own row. -/
theorem wpList_appR {w : World} {ops : Array Oper} {rest : List Oper} {o : Oper} {a : Act} {Q : Exit → Act → World → Prop} (hgd : o.guard = none) (s x : Operand)
    (ho : o.op = .call { callee := .builtin .append, args := #[s, x], argTypes := #[35, 35] })
    (base : Nat) (v : Value) (xs : List Rw) (hv : a.eval s = v) (hown : RRow w base v xs) (X : Value) (ys : List Rw) (hX : a.eval x = X)
    (hs : Src Try.prog 5 35 X ys.length (rc ys) w) (hn : xs.length + ys.length ≤ 1000000000000) (hbase : base ≤ w.heap.size)
    (h : ∀ v' w', RRow w' base v' (xs ++ ys) → Hop w w' v.ownBlock v'.ownBlock → wpList Try.prog ops Q rest (a.put o.dst v') w') : wpList Try.prog ops Q (o :: rest) a w := by
  obtain ⟨i0, hi, hz0, hz1, hz2⟩ := info_parts infoRaw
  refine wpList_append_row hgd s x 35 35 ho base 49 i0 _ 5 48 Try.underlying35 hi hz0 hz1 hz2 rfl v _ _ hv hown X ys.length (rc ys) hX (fun v' w' h1 h2 => h v' w' (RRow.app h1 rfl) h2) hs ?_ ?_ hbase
  · unfold maxLen; omega
  · omega
theorem Rw.eq_iff (a b : Rw) : a = b ↔ a.tag = b.tag ∧ a.text = b.text ∧ a.bits = b.bits ∧ a.a = b.a ∧ a.b = b.b := by
  constructor
  · rintro rfl; exact ⟨rfl, rfl, rfl, rfl, rfl⟩
  · intro ⟨h0, h1, h2, h3, h4⟩
    cases a; cases b
    simp only at h0 h1 h2 h3 h4
    subst h0 h1 h2 h3 h4
    rfl
instance : DecidableEq Rw := fun a b => if h : a.tag = b.tag ∧ a.text = b.text ∧ a.bits = b.bits ∧ a.a = b.a ∧ a.b = b.b then isTrue ((Rw.eq_iff a b).2 h) else isFalse (fun e => h ((Rw.eq_iff a b).1 e))
set_option maxHeartbeats 1000000 in
theorem eq_raw (a b : Rw) (x : World) : (Op.equalIn 10000 49 (rr a) (rr b)).run Try.prog x = .ok (decide (a = b)) x := by
  unfold rr
  have nat : ∀ m n : Nat, ((m : Int) == (n : Int)) = decide (m = n) := fun m n => by
    by_cases h : m = n
    · simp [h]
    · have h' : ¬ (m : Int) = (n : Int) := by omega
      simp [h, h']
  have h0 : ((a.tag : Int) == b.tag) = decide (a.tag = b.tag) := by by_cases h : a.tag = b.tag <;> simp [h]
  have h1 := bs_beq a.text b.text
  have h2 := nat a.bits b.bits
  have h3 := nat a.a b.a
  have h4 := nat a.b b.b
  clear nat
  rw [show (10000 : Nat) = 9999 + 1 from rfl]
  go_simp
  by_cases e : a = b
  · subst e; simp
  · rw [decide_eq_false e]
    rw [Rw.eq_iff] at e
    repeat' split
    all_goals first | rfl | exact absurd ⟨by assumption, by assumption, by assumption, by assumption, by assumption⟩ e
end Go.Proofs.Ytimheacdaafodaa
