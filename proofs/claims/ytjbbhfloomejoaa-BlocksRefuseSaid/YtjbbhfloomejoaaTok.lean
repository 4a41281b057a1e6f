/- Tokens: three cells each; what is read, and rows of the call's own; what they stand for (plain). -/
import Derived.Test.YtjbbhfloomejoaaOff
import Derived.Test.YtjbbhfloomejoaaInts
import Derived.Test.YtjbbhfloomejoaaOrder
import Derived.Test.YtjbbhfloomejoaaStrs
import Derived.Test.YtjbbhfloomejoaaBig
import Derived.Test.YtjbbhfloomejoaaProg
import Derived.Lib.Hide
import Derived.Laws.OwnMore
import Derived.Laws.AppendOwn
namespace Go.Proofs.Ytjbbhfloomejoaa
open Go.RowKit

structure Tk where
  lit : UInt8
  len : Int
  dist : Int
def Tk.fits (t : Tk) : Prop := I64 t.len ∧ I64 t.dist
/-- Whether it is a token. -/
def Tk.right (t : Tk) : Bool := if t.len = 0 then decide (t.dist = 0) else decide (3 ≤ t.len ∧ t.len ≤ 258 ∧ 1 ≤ t.dist ∧ t.dist ≤ 32768 ∧ t.lit = 0)
/-- n bytes, each from so far back. -/
def Tk.copy (b : List UInt8) (d : Nat) : Nat → List UInt8
  | 0 => b
  | n + 1 => Tk.copy b d n ++ [((Tk.copy b d n)[(Tk.copy b d n).length - d]?).getD 0]
def Tk.put (b : List UInt8) (t : Tk) : List UInt8 := if t.len = 0 then b ++ [t.lit] else Tk.copy b t.dist.toNat t.len.toNat
/-- What tokens stand for. -/
def Tk.exp (l : List Tk) : List UInt8 := l.foldl Tk.put []
/-- A token may stand behind so many bytes. -/
def Tk.ok (b : List UInt8) (t : Tk) : Prop := t.right = true ∧ t.dist ≤ b.length
def Tk.good (l : List Tk) : Prop := ∀ i t, l[i]? = some t → Tk.ok (Tk.exp (l.take i)) t
theorem Tk.copy_len (b : List UInt8) (d : Nat) : ∀ n, (Tk.copy b d n).length = b.length + n
  | 0 => rfl
  | n + 1 => by
    unfold Tk.copy
    rw [List.length_append, Tk.copy_len b d n]
    rfl
theorem Tk.exp_next {l : List Tk} {i : Nat} {t : Tk} (h : l[i]? = some t) : Tk.exp (l.take (i + 1)) = Tk.put (Tk.exp (l.take i)) t := by
  unfold Tk.exp
  rw [List.take_add_one, h, List.foldl_append]
  rfl
theorem Tk.put_len {b : List UInt8} {t : Tk} (h : t.right = true) : (Tk.put b t).length ≤ b.length + 258 := by
  unfold Tk.right at h
  unfold Tk.put
  split
  · rw [List.length_append, List.length_singleton]; omega
  · rename_i h0
    rw [if_neg h0] at h
    have := of_decide_eq_true h
    rw [Tk.copy_len]
    omega
theorem Tk.exp_len (l : List Tk) (h : ∀ t ∈ l, t.right = true) : (Tk.exp l).length ≤ 258 * l.length := by
  suffices H : ∀ (l : List Tk) (b : List UInt8), (∀ t ∈ l, t.right = true) → (l.foldl Tk.put b).length ≤ b.length + 258 * l.length by
    have := H l [] h
    simpa [Tk.exp] using this
  intro l
  induction l with
  | nil => intro b _; simp
  | cons t l ih =>
    intro b hl
    have h1 := ih (Tk.put b t) (fun x hx => hl x (List.mem_cons_of_mem _ hx))
    have h2 := Tk.put_len (b := b) (hl t (List.mem_cons_self ..))
    rw [List.foldl_cons, List.length_cons]
    omega
/-- The law's: what may not stand there is a byte. -/
def Tk.fix (b : List UInt8) (t : Tk) : Tk := if t.right = true ∧ t.dist ≤ b.length then t else ⟨t.lit, 0, 0⟩
def Tk.toks (l : List Tk) : List Tk := l.foldl (fun out t => out ++ [Tk.fix (Tk.exp out) t]) []
theorem Tk.fix_ok (b : List UInt8) (t : Tk) : Tk.ok b (Tk.fix b t) := by
  unfold Tk.fix
  split
  · assumption
  · exact ⟨rfl, by show (0 : Int) ≤ _; omega⟩
theorem Tk.toks_next {l : List Tk} {i : Nat} {t : Tk} (h : l[i]? = some t) : Tk.toks (l.take (i + 1)) = Tk.toks (l.take i) ++ [Tk.fix (Tk.exp (Tk.toks (l.take i))) t] := by
  unfold Tk.toks
  rw [List.take_add_one, h, List.foldl_append]
  rfl
theorem Tk.good_app {l : List Tk} {t : Tk} (h : Tk.good l) (k : Tk.ok (Tk.exp l) t) : Tk.good (l ++ [t]) := fun i x hx => by
  by_cases hi : i < l.length
  · rw [List.getElem?_append_left hi] at hx
    rw [List.take_append_of_le_length (by omega)]
    exact h i x hx
  · have hie : i = l.length := by
      have := (List.getElem?_eq_some_iff.1 hx).1
      rw [List.length_append, List.length_singleton] at this
      omega
    subst hie
    rw [List.getElem?_append_right (Nat.le_refl _), Nat.sub_self] at hx
    cases hx
    rw [List.take_left]
    exact k
theorem Tk.toks_good (l : List Tk) : ∀ i, i ≤ l.length → Tk.good (Tk.toks (l.take i)) ∧ (Tk.toks (l.take i)).length = i
  | 0, _ => ⟨fun i t h => by simp [Tk.toks] at h, by simp [Tk.toks]⟩
  | i + 1, h => by
    obtain ⟨h1, h2⟩ := Tk.toks_good l i (by omega)
    have hx := List.getElem?_eq_getElem (show i < l.length by omega)
    rw [Tk.toks_next hx]
    exact ⟨Tk.good_app h1 (Tk.fix_ok _ _), by rw [List.length_append, h2]; rfl⟩
theorem Tk.good_right {l : List Tk} (h : Tk.good l) : ∀ t ∈ l, t.right = true := fun t ht => by
  obtain ⟨i, hi, rfl⟩ := List.mem_iff_getElem.1 ht
  exact (h i _ (List.getElem?_eq_getElem hi)).1
/-- A token as it lies in cells. -/
def tv (t : Tk) : Value := .agg #[.int .u8 (t.lit.toNat : Int), .int .i64 t.len, .int .i64 t.dist]
def tkc : List Tk → List Value
  | [] => []
  | t :: xs => .int .u8 (t.lit.toNat : Int) :: .int .i64 t.len :: .int .i64 t.dist :: tkc xs
theorem tkc_length : ∀ xs : List Tk, (tkc xs).length = xs.length * 3
  | [] => rfl
  | v :: xs => by simp only [tkc, List.length_cons, tkc_length xs]; omega
theorem tkc_append : ∀ xs ys : List Tk, tkc (xs ++ ys) = tkc xs ++ tkc ys
  | [], ys => rfl
  | v :: xs, ys => by simp only [List.cons_append, tkc, tkc_append xs ys]
theorem tkc_one : ∀ xs : List Tk, ∀ u ∈ tkc xs, u.oneCell' = true
  | [], u, h => by simp [tkc] at h
  | v :: xs, u, h => by
    simp only [tkc, List.mem_cons] at h
    rcases h with rfl | rfl | rfl | h
    · rfl
    · rfl
    · rfl
    · exact tkc_one xs u h
theorem tkc_get : ∀ {xs : List Tk} {j : Nat} {t : Tk}, xs[j]? = some t → (tkc xs)[j * 3]? = some (.int .u8 (t.lit.toNat : Int)) ∧ (tkc xs)[j * 3 + 1]? = some (.int .i64 t.len) ∧ (tkc xs)[j * 3 + 2]? = some (.int .i64 t.dist)
  | [], j, v, h => by simp at h
  | q :: xs, 0, v, h => by
    simp at h
    subst h
    exact ⟨rfl, rfl, rfl⟩
  | q :: xs, j + 1, v, h => by
    have := tkc_get (xs := xs) (j := j) (t := v) (by simpa using h)
    rw [show (j + 1) * 3 = j * 3 + 3 from by omega]
    simpa [tkc] using this
theorem infoTok : (Try.prog.info? 43).map (fun i => (i.zero, i.size, i.bytes)) = some (some (.agg #[.int .u8 0, .int .i64 0, .int .i64 0]), 3, 24) := by kernel_rfl
/-- The cells of a token. -/
def TAt (w : World) (g o : Nat) (t : Tk) : Prop :=
  w.cell? ⟨g, o, none⟩ = some (.int .u8 (t.lit.toNat : Int)) ∧ w.cell? ⟨g, o + 1, none⟩ = some (.int .i64 t.len) ∧ w.cell? ⟨g, o + 2, none⟩ = some (.int .i64 t.dist)
theorem TAt.keep {w w' : World} {g o : Nat} {v : Tk} (h : TAt w g o v) {B : Nat} (k : Below B w w') (hg : g < B) : TAt w' g o v := by
  obtain ⟨h0, h1, h2⟩ := h
  exact ⟨(k.cell (p := ⟨g, _, none⟩) hg).trans h0, (k.cell (p := ⟨g, _, none⟩) hg).trans h1, (k.cell (p := ⟨g, _, none⟩) hg).trans h2⟩
/-- A box with a token. -/
def TBox (w : World) (b : Nat) (t : Tk) : Prop := w.heap[b]? = some (.cells #[.int .u8 (t.lit.toNat : Int), .int .i64 t.len, .int .i64 t.dist] 43 (0, 0))
theorem TBox.lt {w : World} {b : Nat} {v : Tk} (h : TBox w b v) : b < w.heap.size := (Array.getElem?_eq_some_iff.1 h).1
theorem TBox.grow {w w' : World} {b : Nat} {v : Tk} (h : TBox w b v) (k : Below w.heap.size w w') : TBox w' b v := (k.block b h.lt).trans h
theorem TBox.at_ {w : World} {b : Nat} {v : Tk} (h : TBox w b v) : w.cell? ⟨b, 0, none⟩ = some (.int .u8 (v.lit.toNat : Int)) ∧ w.cell? ⟨b, 1, none⟩ = some (.int .i64 v.len) ∧ w.cell? ⟨b, 2, none⟩ = some (.int .i64 v.dist) :=
  ⟨(blk_facts h).1 0, (blk_facts h).1 1, (blk_facts h).1 2⟩
theorem tbox_new (w : World) (v : Tk) : TBox (w.alloc (.cells #[.int .u8 (v.lit.toNat : Int), .int .i64 v.len, .int .i64 v.dist] 43)) w.heap.size v := heap_alloc_new _ _
/-- A row that reads as these tokens. -/
def Toks (w : World) (A : Option Addr) (c : Nat) (xs : List Tk) : Prop :=
  xs.length ≤ c ∧ (0 < xs.length → ∃ g o, A = some ⟨g, o, none⟩ ∧ g < w.heap.size ∧ ∀ (j : Nat) v, xs[j]? = some v → TAt w g (o + j * 3) v)
theorem Toks.keep {w w' : World} {A : Option Addr} {c : Nat} {xs : List Tk} (h : Toks w A c xs) {B : Nat} (k : Below B w w') (hB : ∀ g o, A = some ⟨g, o, none⟩ → 0 < xs.length → g < B) : Toks w' A c xs :=
  ⟨h.1, fun hp => by
    obtain ⟨g, o, e, hg, hc⟩ := h.2 hp
    exact ⟨g, o, e, Nat.lt_of_lt_of_le hg k.size, fun j x hx => (hc j x hx).keep k (hB g o e hp)⟩⟩
theorem Toks.grow {w w' : World} {A : Option Addr} {c : Nat} {xs : List Tk} (h : Toks w A c xs) (k : Below w.heap.size w w') : Toks w' A c xs :=
  h.keep k fun g o e hp => by
    obtain ⟨g', o', e', hg, _⟩ := h.2 hp
    rw [e] at e'
    cases e'
    exact hg
theorem Toks.nil (w : World) (A : Option Addr) (c : Nat) : Toks w A c [] := ⟨Nat.zero_le _, fun h => by simp at h⟩
/-- The place at i. -/
theorem Toks.at_ {w : World} {A : Option Addr} {c : Nat} {xs : List Tk} (h : Toks w A c xs) {i : Nat} (hi : i < xs.length) : ∃ g o v, A = some ⟨g, o, none⟩ ∧ g < w.heap.size ∧ xs[i]? = some v ∧ TAt w g (o + i * 3) v := by
  obtain ⟨g, o, e, hg, hc⟩ := h.2 (by omega)
  exact ⟨g, o, _, e, hg, List.getElem?_eq_getElem hi, hc i _ (List.getElem?_eq_getElem hi)⟩
def TkRow (w : World) (base : Nat) (v : Value) (xs : List Tk) : Prop := w.ownsRow base 43 3 v xs.length (tkc xs)
theorem TkRow.grow {w w1 : World} {base : Nat} {v : Value} {xs : List Tk} (h : TkRow w base v xs) (k : Below w.heap.size w w1) : TkRow w1 base v xs := own_below h k
theorem TkRow.nil (w : World) (base : Nat) : TkRow w base (.slice none 0 0) [] := World.ownsRow_nil w base 43 3
theorem TkRow.app {w : World} {base : Nat} {v : Value} {xs ys : List Tk} {n : Nat} (h : w.ownsRow base 43 3 v n (tkc xs ++ tkc ys)) (hn : n = xs.length + ys.length) : TkRow w base v (xs ++ ys) := by
  unfold TkRow
  rw [List.length_append, tkc_append, ← hn]
  exact h
theorem TkRow.reads {w : World} {base : Nat} {v : Value} {xs : List Tk} (h : TkRow w base v xs) : ∃ A c, v = .slice A xs.length c ∧ Toks w A c xs ∧ (∀ g o, A = some ⟨g, o, none⟩ → base ≤ g ∧ o = 0) := by
  have hc := fun (g : Nat) (hg : v.ownBlock = some g) => World.ownsRow.cells h hg
  rcases h.2 with ⟨rfl, hn⟩ | ⟨g, cap, cur, rfl, h1, h2, h3, _⟩
  · obtain rfl : xs = [] := List.eq_nil_of_length_eq_zero hn
    exact ⟨none, 0, rfl, Toks.nil _ _ _, fun g o e => by cases e⟩
  · refine ⟨_, cap, rfl, ⟨h3, fun _ => ⟨g, 0, rfl, (Array.getElem?_eq_some_iff.1 h2).1, fun j x hx => ?_⟩⟩, fun g' o e => by cases e; exact ⟨h1, rfl⟩⟩
    obtain ⟨p0, p1, p2⟩ := tkc_get hx
    have c0 := hc g rfl _ _ p0
    have c1 := hc g rfl _ _ p1
    have c2 := hc g rfl _ _ p2
    rw [off_addr] at c0 c1 c2
    unfold TAt
    simp only [Nat.add_assoc]
    exact ⟨c0, c1, c2⟩
theorem TkRow.base_le {w : World} {base : Nat} {v : Value} {xs : List Tk} (h : TkRow w base v xs) {k : Nat} (hk : v.ownBlock = some k) : base ≤ k := (World.ownsRow.lt h k hk).1
/-- One token, out of a fresh block. -/
theorem src_tok {w : World} {B : Nat} {t : Tk} {ty : TypeId} {fr : Nat × Nat} (hb : w.heap[B]? = some (.cells #[.int .u8 (t.lit.toNat : Int), .int .i64 t.len, .int .i64 t.dist] ty fr)) (c : Nat) :
    Src Try.prog 3 22 (.slice (some ⟨B, 0, none⟩) 1 c) 1 (tkc [t]) w :=
  src_block Try.underlying22 3 1 c B _ ty fr hb rfl (tkc_one [t])
/-- append of whatever tokens onto an own row. -/
theorem wpList_appTk {w : World} {ops : Array Oper} {rest : List Oper} {o : Oper} {a : Act} {Q : Exit → Act → World → Prop} (hgd : o.guard = none) (s x : Operand)
    (ho : o.op = .call { callee := .builtin .append, args := #[s, x], argTypes := #[22, 22] })
    (base : Nat) (v : Value) (xs : List Tk) (hv : a.eval s = v) (hown : TkRow w base v xs) (X : Value) (ys : List Tk) (hX : a.eval x = X)
    (hs : Src Try.prog 3 22 X ys.length (tkc ys) w) (hn : xs.length + ys.length ≤ 1000000000000) (hbase : base ≤ w.heap.size)
    (h : ∀ v' w', TkRow w' base v' (xs ++ ys) → Hop w w' v.ownBlock v'.ownBlock → wpList Try.prog ops Q rest (a.put o.dst v') w') : wpList Try.prog ops Q (o :: rest) a w := by
  obtain ⟨i0, hi, hz0, hz1, hz2⟩ := info_parts infoTok
  refine wpList_append_row hgd s x 22 22 ho base 43 i0 _ 3 24 Try.underlying22 hi hz0 hz1 hz2 rfl v _ _ hv hown X ys.length (tkc ys) hX (fun v' w' h1 h2 => h v' w' (TkRow.app h1 rfl) h2) hs ?_ ?_ hbase
  · unfold maxLen; omega
  · omega
end Go.Proofs.Ytjbbhfloomejoaa
