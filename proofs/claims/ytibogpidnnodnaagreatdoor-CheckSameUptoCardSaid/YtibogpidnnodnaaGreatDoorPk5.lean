/- Joined texts: Vals, EqV, Cls0, Told, Field, Class, TellA. -/
import Derived.Test.YtibogpidnnodnaaGreatDoorPk4
import Derived.Test.YtibogpidnnodnaaGreatDoorPk1
import Derived.Test.YtibogpidnnodnaaGreatDoorProg
import Derived.Lib.Hide
import Derived.Laws.OwnMore
import Derived.Laws.AppendOwn
import Derived.OneCell
import Derived.RowKit
import Derived.Test.YtibogpidnnodnaaGreatDoorPk2
import Derived.Deep.Cut
/- Rows of values: six cells each; what is read, and rows of the call's own. -/
namespace Go.Proofs.YtibogpidnnodnaaGreatDoor
open Go.RowKit

/-- A value that numbers and lengths of the machine can hold. -/
def Pv.fits (v : Pv) : Prop := I64 v.tag ∧ v.bits < 18446744073709551616 ∧ v.text.length ≤ 140737488355328 ∧ v.cls.length ≤ 140737488355328 ∧ v.name.length ≤ 140737488355328 ∧ v.desc.length ≤ 140737488355328
/-- A value as it lies in cells. -/
def vv (v : Pv) : Value := .agg #[.int .i64 v.tag, .string (bs v.text), .int .u64 v.bits, .string (bs v.cls), .string (bs v.name), .string (bs v.desc)]
def vc : List Pv → List Value
  | [] => []
  | v :: xs => .int .i64 v.tag :: .string (bs v.text) :: .int .u64 v.bits :: .string (bs v.cls) :: .string (bs v.name) :: .string (bs v.desc) :: vc xs
theorem vc_length : ∀ xs : List Pv, (vc xs).length = xs.length * 6
  | [] => rfl
  | v :: xs => by simp only [vc, List.length_cons, vc_length xs]; omega
theorem vc_append : ∀ xs ys : List Pv, vc (xs ++ ys) = vc xs ++ vc ys
  | [], ys => rfl
  | v :: xs, ys => by simp only [List.cons_append, vc, vc_append xs ys]
theorem vc_one : ∀ xs : List Pv, ∀ u ∈ vc xs, u.oneCell' = true
  | [], u, h => by simp [vc] at h
  | v :: xs, u, h => by
    simp only [vc, List.mem_cons] at h
    rcases h with rfl | rfl | rfl | rfl | rfl | rfl | h
    · rfl
    · rfl
    · rfl
    · rfl
    · rfl
    · rfl
    · exact vc_one xs u h
theorem vc_get : ∀ {xs : List Pv} {j : Nat} {v : Pv}, xs[j]? = some v → (vc xs)[j * 6]? = some (.int .i64 v.tag) ∧ (vc xs)[j * 6 + 1]? = some (.string (bs v.text)) ∧ (vc xs)[j * 6 + 2]? = some (.int .u64 v.bits) ∧
    (vc xs)[j * 6 + 3]? = some (.string (bs v.cls)) ∧ (vc xs)[j * 6 + 4]? = some (.string (bs v.name)) ∧ (vc xs)[j * 6 + 5]? = some (.string (bs v.desc))
  | [], j, v, h => by simp at h
  | q :: xs, 0, v, h => by
    simp at h
    subst h
    exact ⟨rfl, rfl, rfl, rfl, rfl, rfl⟩
  | q :: xs, j + 1, v, h => by
    have := vc_get (xs := xs) (j := j) (v := v) (by simpa using h)
    rw [show (j + 1) * 6 = j * 6 + 6 from by omega]
    simpa [vc] using this
theorem infoVal : (Tryz.prog.info? 32).map (fun i => (i.zero, i.size, i.bytes)) = some (some (.agg #[.int .i64 0, .string ⟨#[]⟩, .int .u64 0, .string ⟨#[]⟩, .string ⟨#[]⟩, .string ⟨#[]⟩]), 6, 80) := by kernel_rfl
/-- The six cells of a value. -/
def VAt (w : World) (g o : Nat) (v : Pv) : Prop :=
  w.cell? ⟨g, o, none⟩ = some (.int .i64 v.tag) ∧ w.cell? ⟨g, o + 1, none⟩ = some (.string (bs v.text)) ∧ w.cell? ⟨g, o + 2, none⟩ = some (.int .u64 v.bits) ∧
  w.cell? ⟨g, o + 3, none⟩ = some (.string (bs v.cls)) ∧ w.cell? ⟨g, o + 4, none⟩ = some (.string (bs v.name)) ∧ w.cell? ⟨g, o + 5, none⟩ = some (.string (bs v.desc))
theorem VAt.keep {w w' : World} {g o : Nat} {v : Pv} (h : VAt w g o v) {B : Nat} (k : Below B w w') (hg : g < B) : VAt w' g o v := by
  obtain ⟨h0, h1, h2, h3, h4, h5⟩ := h
  exact ⟨(k.cell (p := ⟨g, _, none⟩) hg).trans h0, (k.cell (p := ⟨g, _, none⟩) hg).trans h1, (k.cell (p := ⟨g, _, none⟩) hg).trans h2, (k.cell (p := ⟨g, _, none⟩) hg).trans h3, (k.cell (p := ⟨g, _, none⟩) hg).trans h4, (k.cell (p := ⟨g, _, none⟩) hg).trans h5⟩
/-- A box with a value. -/
def VBox (w : World) (b : Nat) (v : Pv) : Prop := w.heap[b]? = some (.cells #[.int .i64 v.tag, .string (bs v.text), .int .u64 v.bits, .string (bs v.cls), .string (bs v.name), .string (bs v.desc)] 32 (0, 0))
theorem VBox.lt {w : World} {b : Nat} {v : Pv} (h : VBox w b v) : b < w.heap.size := (Array.getElem?_eq_some_iff.1 h).1
theorem VBox.keep {w w' : World} {b : Nat} {v : Pv} (h : VBox w b v) {B : Nat} (k : Below B w w') (hb : b < B) : VBox w' b v := (k.block b hb).trans h
theorem VBox.at_ {w : World} {b : Nat} {v : Pv} (h : VBox w b v) : w.cell? ⟨b, 0, none⟩ = some (.int .i64 v.tag) ∧ w.cell? ⟨b, 1, none⟩ = some (.string (bs v.text)) ∧ w.cell? ⟨b, 2, none⟩ = some (.int .u64 v.bits) ∧
    w.cell? ⟨b, 3, none⟩ = some (.string (bs v.cls)) ∧ w.cell? ⟨b, 4, none⟩ = some (.string (bs v.name)) ∧ w.cell? ⟨b, 5, none⟩ = some (.string (bs v.desc)) :=
  ⟨(blk_facts h).1 0, (blk_facts h).1 1, (blk_facts h).1 2, (blk_facts h).1 3, (blk_facts h).1 4, (blk_facts h).1 5⟩
theorem vbox_new (w : World) (v : Pv) : VBox (w.alloc (.cells #[.int .i64 v.tag, .string (bs v.text), .int .u64 v.bits, .string (bs v.cls), .string (bs v.name), .string (bs v.desc)] 32)) w.heap.size v := heap_alloc_new _ _
/-- A row that reads as these values. -/
def Vals (w : World) (A : Option Addr) (c : Nat) (xs : List Pv) : Prop :=
  xs.length ≤ c ∧ (0 < xs.length → ∃ g o, A = some ⟨g, o, none⟩ ∧ g < w.heap.size ∧ ∀ (j : Nat) v, xs[j]? = some v → VAt w g (o + j * 6) v)
theorem Vals.keep {w w' : World} {A : Option Addr} {c : Nat} {xs : List Pv} (h : Vals w A c xs) {B : Nat} (k : Below B w w') (hB : ∀ g o, A = some ⟨g, o, none⟩ → 0 < xs.length → g < B) : Vals w' A c xs :=
  ⟨h.1, fun hp => by
    obtain ⟨g, o, e, hg, hc⟩ := h.2 hp
    exact ⟨g, o, e, Nat.lt_of_lt_of_le hg k.size, fun j x hx => (hc j x hx).keep k (hB g o e hp)⟩⟩
theorem Vals.grow {w w' : World} {A : Option Addr} {c : Nat} {xs : List Pv} (h : Vals w A c xs) (k : Below w.heap.size w w') : Vals w' A c xs :=
  h.keep k fun g o e hp => by
    obtain ⟨g', o', e', hg, _⟩ := h.2 hp
    rw [e] at e'
    cases e'
    exact hg
theorem Vals.nil (w : World) (A : Option Addr) (c : Nat) : Vals w A c [] := ⟨Nat.zero_le _, fun h => by simp at h⟩
/-- The place at i. -/
theorem Vals.at_ {w : World} {A : Option Addr} {c : Nat} {xs : List Pv} (h : Vals w A c xs) {i : Nat} (hi : i < xs.length) : ∃ g o v, A = some ⟨g, o, none⟩ ∧ g < w.heap.size ∧ xs[i]? = some v ∧ VAt w g (o + i * 6) v := by
  obtain ⟨g, o, e, hg, hc⟩ := h.2 (by omega)
  exact ⟨g, o, _, e, hg, List.getElem?_eq_getElem hi, hc i _ (List.getElem?_eq_getElem hi)⟩
def VRow (w : World) (base : Nat) (v : Value) (xs : List Pv) : Prop := w.ownsRow base 32 6 v xs.length (vc xs)
theorem VRow.grow {w w1 : World} {base : Nat} {v : Value} {xs : List Pv} (h : VRow w base v xs) (k : Below w.heap.size w w1) : VRow w1 base v xs := own_below h k
theorem VRow.nil (w : World) (base : Nat) : VRow w base (.slice none 0 0) [] := World.ownsRow_nil w base 32 6
theorem VRow.app {w : World} {base : Nat} {v : Value} {xs ys : List Pv} {n : Nat} (h : w.ownsRow base 32 6 v n (vc xs ++ vc ys)) (hn : n = xs.length + ys.length) : VRow w base v (xs ++ ys) := by
  unfold VRow
  rw [List.length_append, vc_append, ← hn]
  exact h
theorem VRow.kept {w w1 : World} {base : Nat} {v : Value} {xs : List Pv} {row : Option Nat} (h : VRow w base v xs) (g : w.grownBy w1 row) (hne : ∀ k, v.ownBlock = some k → row ≠ some k) : VRow w1 base v xs :=
  World.ownsRow.kept h g (by
    cases e : v.ownBlock with
    | none => exact .inl rfl
    | some k => exact .inr (fun e2 => hne k e e2.symm))
theorem VRow.lower {w : World} {base b' : Nat} {v : Value} {xs : List Pv} (h : VRow w base v xs) (hb : b' ≤ base) : VRow w b' v xs := by
  refine ⟨h.1, ?_⟩
  rcases h.2 with h2 | ⟨g, cap, cur, h2, h3, h4⟩
  · exact .inl h2
  · exact .inr ⟨g, cap, cur, h2, Nat.le_trans hb h3, h4⟩
theorem addr_add (g o j : Nat) : Addr.add ⟨g, o, none⟩ j = ⟨g, o + j, none⟩ := by unfold Addr.add; split <;> simp_all
theorem VRow.reads {w : World} {base : Nat} {v : Value} {xs : List Pv} (h : VRow w base v xs) : ∃ A c, v = .slice A xs.length c ∧ Vals w A c xs ∧ (∀ g o, A = some ⟨g, o, none⟩ → base ≤ g ∧ o = 0) := by
  have hc := fun (g : Nat) (hg : v.ownBlock = some g) => World.ownsRow.cells h hg
  rcases h.2 with ⟨rfl, hn⟩ | ⟨g, cap, cur, rfl, h1, h2, h3, _⟩
  · obtain rfl : xs = [] := List.eq_nil_of_length_eq_zero hn
    exact ⟨none, 0, rfl, Vals.nil _ _ _, fun g o e => by cases e⟩
  · refine ⟨_, cap, rfl, ⟨h3, fun _ => ⟨g, 0, rfl, (Array.getElem?_eq_some_iff.1 h2).1, fun j x hx => ?_⟩⟩, fun g' o e => by cases e; exact ⟨h1, rfl⟩⟩
    obtain ⟨p0, p1, p2, p3, p4, p5⟩ := vc_get hx
    have c0 := hc g rfl _ _ p0
    have c1 := hc g rfl _ _ p1
    have c2 := hc g rfl _ _ p2
    have c3 := hc g rfl _ _ p3
    have c4 := hc g rfl _ _ p4
    have c5 := hc g rfl _ _ p5
    rw [addr_add] at c0 c1 c2 c3 c4 c5
    unfold VAt
    simp only [Nat.add_assoc]
    exact ⟨c0, c1, c2, c3, c4, c5⟩
theorem VRow.base_le {w : World} {base : Nat} {v : Value} {xs : List Pv} (h : VRow w base v xs) {k : Nat} (hk : v.ownBlock = some k) : base ≤ k := (World.ownsRow.lt h k hk).1
/-- What is appended out of a row that is read. -/
theorem Vals.src {w0 w : World} {A : Option Addr} {c : Nat} {xs : List Pv} (h : Vals w0 A c xs) (k : Below w0.heap.size w0 w) : Src Tryz.prog 6 139 (.slice A xs.length c) xs.length (vc xs) w := by
  have h' := h.grow k
  cases xs with
  | nil =>
    cases A with
    | none => exact Src.ofNil w Tryz.underlying139 c
    | some a => exact Src.ofSlice w Tryz.underlying139 a 0 c [] rfl (fun j u hu => by simp at hu) (fun u hu => by cases hu)
  | cons y ys =>
    obtain ⟨g, o, rfl, hg, hc⟩ := h'.2 (by simp)
    refine Src.ofSlice w Tryz.underlying139 ⟨g, o, none⟩ _ c _ (vc_length _) (fun j u hu => ?_) (vc_one _)
    have hj : j < (vc (y :: ys)).length := (List.getElem?_eq_some_iff.1 hu).1
    rw [vc_length] at hj
    have hi : j / 6 < (y :: ys).length := by omega
    have hx := List.getElem?_eq_getElem hi
    obtain ⟨p0, p1, p2, p3, p4, p5⟩ := vc_get hx
    obtain ⟨c0, c1, c2, c3, c4, c5⟩ := hc _ _ hx
    rw [addr_add]
    have hr : j % 6 = 0 ∨ j % 6 = 1 ∨ j % 6 = 2 ∨ j % 6 = 3 ∨ j % 6 = 4 ∨ j % 6 = 5 := by omega
    have fin : ∀ k, j % 6 = k → j = j / 6 * 6 + k := fun k hk => by omega
    rcases hr with e | e | e | e | e | e <;> (have e1 := fin _ e; revert hu; generalize j / 6 = q at *; subst e1; intro hu)
    · rw [show q * 6 + 0 = q * 6 from rfl] at hu; rw [p0] at hu; cases hu; exact c0
    · rw [p1] at hu; cases hu; exact c1
    · rw [p2] at hu; cases hu; exact c2
    · rw [p3] at hu; cases hu; exact c3
    · rw [p4] at hu; cases hu; exact c4
    · rw [p5] at hu; cases hu; exact c5
/-- One value, out of a fresh block. -/
theorem src_val {w : World} {B : Nat} {v : Pv} {t : TypeId} {fr : Nat × Nat} (hb : w.heap[B]? = some (.cells #[.int .i64 v.tag, .string (bs v.text), .int .u64 v.bits, .string (bs v.cls), .string (bs v.name), .string (bs v.desc)] t fr)) (c : Nat) :
    Src Tryz.prog 6 139 (.slice (some ⟨B, 0, none⟩) 1 c) 1 (vc [v]) w :=
  src_block Tryz.underlying139 6 1 c B _ t fr hb rfl (vc_one [v])
/-- append of whatever values onto an own row. -/
theorem wpList_appV {w : World} {ops : Array Oper} {rest : List Oper} {o : Oper} {a : Act} {Q : Exit → Act → World → Prop} (hgd : o.guard = none) (s x : Operand)
    (ho : o.op = .call { callee := .builtin .append, args := #[s, x], argTypes := #[139, 139] })
    (base : Nat) (v : Value) (xs : List Pv) (hv : a.eval s = v) (hown : VRow w base v xs) (X : Value) (ys : List Pv) (hX : a.eval x = X)
    (hs : Src Tryz.prog 6 139 X ys.length (vc ys) w) (hn : xs.length + ys.length ≤ 1000000000000) (hbase : base ≤ w.heap.size)
    (h : ∀ v' w', VRow w' base v' (xs ++ ys) → Hop w w' v.ownBlock v'.ownBlock → wpList Tryz.prog ops Q rest (a.put o.dst v') w') : wpList Tryz.prog ops Q (o :: rest) a w := by
  obtain ⟨i0, hi, hz0, hz1, hz2⟩ := info_parts infoVal
  refine wpList_append_row hgd s x 139 139 ho base 32 i0 _ 6 80 Tryz.underlying139 hi hz0 hz1 hz2 rfl v _ _ hv hown X ys.length (vc ys) hX (fun v' w' h1 h2 => h v' w' (VRow.app h1 rfl) h2) hs ?_ ?_ hbase
  · unfold maxLen; omega
  · omega
theorem step_appV {w : World} {ops : Array Oper} {o : Oper} {a : Act} {K : Act → World → Prop} {Q : Exit → Act → World → Prop} {E : Prop} (hgd : o.guard = none) (s x : Operand)
    (ho : o.op = .call { callee := .builtin .append, args := #[s, x], argTypes := #[139, 139] })
    (base : Nat) (v : Value) (xs : List Pv) (hv : a.eval s = v) (hown : VRow w base v xs) (X : Value) (ys : List Pv) (hX : a.eval x = X)
    (hs : Src Tryz.prog 6 139 X ys.length (vc ys) w) (hn : xs.length + ys.length ≤ 1000000000000) (hbase : base ≤ w.heap.size)
    (h : ∀ v' w', VRow w' base v' (xs ++ ys) → Hop w w' v.ownBlock v'.ownBlock → K (a.put o.dst v') w') :
    if Region.wanted o (yielded ops a.tmps) = true then Oper.wp Tryz.prog o a w K Q else E := by
  obtain ⟨i0, hi, hz0, hz1, hz2⟩ := info_parts infoVal
  refine step_append_row hgd s x 139 139 ho base 32 i0 _ 6 80 Tryz.underlying139 hi hz0 hz1 hz2 rfl v _ _ hv hown X ys.length (vc ys) hX (fun v' w' h1 h2 => h v' w' (VRow.app h1 rfl) h2) hs ?_ ?_ hbase
  · unfold maxLen; omega
  · omega
end Go.Proofs.YtibogpidnnodnaaGreatDoor

/- Values held against each other. -/
namespace Go.Proofs.YtibogpidnnodnaaGreatDoor
open Go.RowKit

theorem Pv.eq_iff (a b : Pv) : a = b ↔ a.tag = b.tag ∧ a.text = b.text ∧ a.bits = b.bits ∧ a.cls = b.cls ∧ a.name = b.name ∧ a.desc = b.desc := by
  constructor
  · rintro rfl; exact ⟨rfl, rfl, rfl, rfl, rfl, rfl⟩
  · intro ⟨h0, h1, h2, h3, h4, h5⟩
    cases a; cases b
    simp only at h0 h1 h2 h3 h4 h5
    subst h0 h1 h2 h3 h4 h5
    rfl
set_option maxHeartbeats 1000000 in
theorem eq_val (a b : Pv) (x : World) : (Op.equalIn 10000 32 (vv a) (vv b)).run Tryz.prog x = .ok (decide (a = b)) x := by
  unfold vv
  have h0 : ((a.tag : Int) == b.tag) = decide (a.tag = b.tag) := by by_cases h : a.tag = b.tag <;> simp [h]
  have h1 := bs_beq a.text b.text
  have h2 : ((a.bits : Int) == (b.bits : Int)) = decide (a.bits = b.bits) := by
    by_cases h : a.bits = b.bits
    · simp [h]
    · have h' : ¬ (a.bits : Int) = (b.bits : Int) := by omega
      simp [h, h']
  have h3 := bs_beq a.cls b.cls
  have h4 := bs_beq a.name b.name
  have h5 := bs_beq a.desc b.desc
  rw [show (10000 : Nat) = 9999 + 1 from rfl]
  go_simp
  by_cases e : a = b
  · subst e; simp
  · rw [decide_eq_false e]
    rw [Pv.eq_iff] at e
    repeat' split
    all_goals first | rfl | exact absurd ⟨by assumption, by assumption, by assumption, by assumption, by assumption, by assumption⟩ e
end Go.Proofs.YtibogpidnnodnaaGreatDoor

/- A class and what it holds: structures, what fits the machine, how much there is. Printed by mk_class.py. -/
namespace Go.Proofs.YtibogpidnnodnaaGreatDoor
/-- How much there is of a value. -/
def Pv.blk (v : Pv) : Nat := v.text.length + v.cls.length + v.name.length + v.desc.length + 7
structure Cins where
  op : Int
  var : Int
  num : Int
  const : Pv
  «to» : Int
  keys : List Int
  targets : List Int
def Cins.good (y : Cins) : Prop := I64 y.op ∧ I64 y.var ∧ I64 y.num ∧ y.const.fits ∧ I64 y.to ∧ (y.keys.length ≤ 140737488355328 ∧ ∀ u ∈ y.keys, I64 u) ∧ (y.targets.length ≤ 140737488355328 ∧ ∀ u ∈ y.targets, I64 u)
def Cins.blk (y : Cins) : Nat := 1 + 1 + 1 + y.const.blk + 1 + (y.keys.length + 1) + (y.targets.length + 1) + 1
structure Hnd where
  from_ : Int
  till : Int
  «to» : Int
  kind : List UInt8
def Hnd.good (y : Hnd) : Prop := I64 y.from_ ∧ I64 y.till ∧ I64 y.to ∧ y.kind.length ≤ 140737488355328
def Hnd.blk (y : Hnd) : Nat := 1 + 1 + 1 + (y.kind.length + 1) + 1
structure Lno where
  at_ : Int
  line : Int
def Lno.good (y : Lno) : Prop := I64 y.at_ ∧ I64 y.line
def Lno.blk (_y : Lno) : Nat := 1 + 1 + 1
structure Slt where
  from_ : Int
  till : Int
  name : List UInt8
  desc : List UInt8
  var : Int
def Slt.good (y : Slt) : Prop := I64 y.from_ ∧ I64 y.till ∧ y.name.length ≤ 140737488355328 ∧ y.desc.length ≤ 140737488355328 ∧ I64 y.var
def Slt.blk (y : Slt) : Nat := 1 + 1 + (y.name.length + 1) + (y.desc.length + 1) + 1 + 1
structure Cde where
  stack : Int
  locals : Int
  ops : List Cins
  handlers : List Hnd
  has : Int
  lines : List Lno
  slots : List Slt
def Cde.good (y : Cde) : Prop := I64 y.stack ∧ I64 y.locals ∧ (y.ops.length ≤ 140737488355328 ∧ ∀ u ∈ y.ops, Cins.good u) ∧ (y.handlers.length ≤ 140737488355328 ∧ ∀ u ∈ y.handlers, Hnd.good u) ∧ I64 y.has ∧ (y.lines.length ≤ 140737488355328 ∧ ∀ u ∈ y.lines, Lno.good u) ∧ (y.slots.length ≤ 140737488355328 ∧ ∀ u ∈ y.slots, Slt.good u)
def Cde.blk (y : Cde) : Nat := 1 + 1 + ((y.ops.map Cins.blk).sum + 1) + ((y.handlers.map Hnd.blk).sum + 1) + 1 + ((y.lines.map Lno.blk).sum + 1) + ((y.slots.map Slt.blk).sum + 1) + 1
structure Inr where
  cls : List UInt8
  outer : List UInt8
  name : List UInt8
  flags : Int
def Inr.good (y : Inr) : Prop := y.cls.length ≤ 140737488355328 ∧ y.outer.length ≤ 140737488355328 ∧ y.name.length ≤ 140737488355328 ∧ I64 y.flags
def Inr.blk (y : Inr) : Nat := (y.cls.length + 1) + (y.outer.length + 1) + (y.name.length + 1) + 1 + 1
structure Atr where
  has : Int
  code : Cde
  value : Pv
  throws : List (List UInt8)
  inners : List Inr
  signature : List UInt8
  source : List UInt8
def Atr.good (y : Atr) : Prop := I64 y.has ∧ Cde.good y.code ∧ y.value.fits ∧ (y.throws.length ≤ 140737488355328 ∧ ∀ u ∈ y.throws, u.length ≤ 140737488355328) ∧ (y.inners.length ≤ 140737488355328 ∧ ∀ u ∈ y.inners, Inr.good u) ∧ y.signature.length ≤ 140737488355328 ∧ y.source.length ≤ 140737488355328
def Atr.blk (y : Atr) : Nat := 1 + Cde.blk y.code + y.value.blk + ((y.throws.map fun s => s.length + 1).sum + 1) + ((y.inners.map Inr.blk).sum + 1) + (y.signature.length + 1) + (y.source.length + 1) + 1
structure Mbr where
  flags : Int
  name : List UInt8
  desc : List UInt8
  attrs : Atr
def Mbr.good (y : Mbr) : Prop := I64 y.flags ∧ y.name.length ≤ 140737488355328 ∧ y.desc.length ≤ 140737488355328 ∧ Atr.good y.attrs
def Mbr.blk (y : Mbr) : Nat := 1 + (y.name.length + 1) + (y.desc.length + 1) + Atr.blk y.attrs + 1
structure Cls where
  minor : Int
  major : Int
  flags : Int
  this : List UInt8
  super : List UInt8
  faces : List (List UInt8)
  fields : List Mbr
  methods : List Mbr
  attrs : Atr
def Cls.good (y : Cls) : Prop := I64 y.minor ∧ I64 y.major ∧ I64 y.flags ∧ y.this.length ≤ 140737488355328 ∧ y.super.length ≤ 140737488355328 ∧ (y.faces.length ≤ 140737488355328 ∧ ∀ u ∈ y.faces, u.length ≤ 140737488355328) ∧ (y.fields.length ≤ 140737488355328 ∧ ∀ u ∈ y.fields, Mbr.good u) ∧ (y.methods.length ≤ 140737488355328 ∧ ∀ u ∈ y.methods, Mbr.good u) ∧ Atr.good y.attrs
def Cls.blk (y : Cls) : Nat := 1 + 1 + 1 + (y.this.length + 1) + (y.super.length + 1) + ((y.faces.map fun s => s.length + 1).sum + 1) + ((y.fields.map Mbr.blk).sum + 1) + ((y.methods.map Mbr.blk).sum + 1) + Atr.blk y.attrs + 1
end Go.Proofs.YtibogpidnnodnaaGreatDoor

/- Layer 20's list, plain: a class told as numbers and texts; how many there are at most; what few of them bound. No program. -/
namespace Go.Proofs.YtibogpidnnodnaaGreatDoor

/-- A 64-bit number read with a sign. -/
def sgn (b : Nat) : Int := Go.RowKit.wrap64 (b : Int)
/-- Numbers and texts. -/
abbrev Tl : Type := List Int × List (List UInt8)
def Tl.add (a b : Tl) : Tl := (a.1 ++ b.1, a.2 ++ b.2)
def tlInts (ns : List Int) : Tl := (ns, [])
def tlTexts (ss : List (List UInt8)) : Tl := ([(ss.length : Int)], ss)
def tlAll {α : Type} (f : α → Tl) : List α → Tl
  | [] => ([], [])
  | x :: xs => (f x).add (tlAll f xs)
def tlVal (v : Pv) : Tl := (tlInts [v.tag, sgn v.bits]).add (tlTexts [v.text, v.cls, v.name, v.desc])
def tlIns (i : Cins) : Tl := (((tlInts [i.op, i.var, i.num, i.to, i.keys.length, i.targets.length]).add (tlVal i.const)).add (tlInts i.keys)).add (tlInts i.targets)
def tlHnd (h : Hnd) : Tl := (tlInts [h.from_, h.till, h.to]).add (tlTexts [h.kind])
def tlLno (l : Lno) : Tl := tlInts [l.at_, l.line]
def tlSlt (s : Slt) : Tl := (tlInts [s.from_, s.till, s.var]).add (tlTexts [s.name, s.desc])
def tlCode (c : Cde) : Tl := ((((tlInts [c.stack, c.locals, c.has, c.ops.length, c.handlers.length, c.lines.length, c.slots.length]).add (tlAll tlIns c.ops)).add (tlAll tlHnd c.handlers)).add (tlAll tlLno c.lines)).add (tlAll tlSlt c.slots)
def tlInr (i : Inr) : Tl := (tlInts [i.flags]).add (tlTexts [i.cls, i.outer, i.name])
def tlAtr (a : Atr) : Tl := (((((tlInts [a.has, a.inners.length]).add (tlCode a.code)).add (tlVal a.value)).add (tlTexts a.throws)).add (tlAll tlInr a.inners)).add (tlTexts [a.signature, a.source])
def tlMbr (m : Mbr) : Tl := ((tlInts [m.flags]).add (tlTexts [m.name, m.desc])).add (tlAtr m.attrs)
def tlCls (c : Cls) : Tl := ((((tlInts [c.minor, c.major, c.flags, c.fields.length, c.methods.length]).add (tlTexts [c.this, c.super])).add (tlTexts c.faces)).add (tlAll tlMbr (c.fields ++ c.methods))).add (tlAtr c.attrs)
theorem Tl.add_nil (a : Tl) : a.add ([], []) = a := by simp [Tl.add]
theorem Tl.nil_add (a : Tl) : Tl.add ([], []) a = a := by simp [Tl.add]
theorem Tl.add_assoc (a b c : Tl) : (a.add b).add c = a.add (b.add c) := by simp [Tl.add]
theorem tlAll_app {α : Type} (f : α → Tl) : ∀ (xs ys : List α), tlAll f (xs ++ ys) = (tlAll f xs).add (tlAll f ys)
  | [], ys => by simp [tlAll, Tl.nil_add]
  | x :: xs, ys => by simp only [List.cons_append, tlAll]; rw [tlAll_app f xs ys, Tl.add_assoc]
theorem tlAll_snoc {α : Type} (f : α → Tl) {xs : List α} {i : Nat} {x : α} (h : xs[i]? = some x) : tlAll f (xs.take (i + 1)) = (tlAll f (xs.take i)).add (f x) := by
  obtain ⟨h1, rfl⟩ := List.getElem?_eq_some_iff.1 h
  rw [List.take_succ_eq_append_getElem h1, tlAll_app]
  simp [tlAll, Tl.add_nil]
/-- How much is told: numbers, and texts with what is in them. -/
def Tl.size (a : Tl) : Nat := a.1.length + (a.2.map fun s => s.length + 1).sum
theorem Tl.size_add (a b : Tl) : (a.add b).size = a.size + b.size := by
  simp only [Tl.size, Tl.add, List.length_append, List.map_append, List.sum_append]
  omega
theorem size_ints (ns : List Int) : (tlInts ns).size = ns.length := by simp [Tl.size, tlInts]
theorem size_texts (ss : List (List UInt8)) : (tlTexts ss).size = 1 + (ss.map fun s => s.length + 1).sum := by simp [Tl.size, tlTexts]
theorem size_all {α : Type} (f : α → Tl) (g : α → Nat) (k : Nat) : ∀ (xs : List α), (∀ x ∈ xs, (f x).size ≤ k * g x) → (tlAll f xs).size ≤ k * (xs.map g).sum
  | [], _ => by simp [tlAll, Tl.size]
  | x :: xs, h => by
    have h1 := h x (List.mem_cons_self ..)
    have h2 := size_all f g k xs (fun y hy => h y (List.mem_cons_of_mem _ hy))
    simp only [tlAll, Tl.size_add, List.map_cons, List.sum_cons, Nat.mul_add]
    omega
theorem size_val (v : Pv) : (tlVal v).size ≤ 2 * v.blk := by
  unfold tlVal Pv.blk
  rw [Tl.size_add, size_ints, size_texts]
  simp
  omega
theorem size_ins (i : Cins) : (tlIns i).size ≤ 2 * i.blk := by
  unfold tlIns Cins.blk
  have := size_val i.const
  simp only [Tl.size_add, size_ints, List.length_cons, List.length_nil]
  omega
theorem size_hnd (h : Hnd) : (tlHnd h).size ≤ 2 * h.blk := by
  unfold tlHnd Hnd.blk
  simp [Tl.size_add, size_ints, size_texts]
  omega
theorem size_lno (l : Lno) : (tlLno l).size ≤ 2 * l.blk := by
  unfold tlLno Lno.blk
  simp [size_ints]
theorem size_slt (s : Slt) : (tlSlt s).size ≤ 2 * s.blk := by
  unfold tlSlt Slt.blk
  simp [Tl.size_add, size_ints, size_texts]
  omega
theorem size_code (c : Cde) : (tlCode c).size ≤ 2 * c.blk := by
  unfold tlCode Cde.blk
  have h1 := size_all tlIns Cins.blk 2 c.ops (fun x _ => size_ins x)
  have h2 := size_all tlHnd Hnd.blk 2 c.handlers (fun x _ => size_hnd x)
  have h3 := size_all tlLno Lno.blk 2 c.lines (fun x _ => size_lno x)
  have h4 := size_all tlSlt Slt.blk 2 c.slots (fun x _ => size_slt x)
  simp only [Tl.size_add, size_ints, List.length_cons, List.length_nil]
  omega
theorem size_inr (i : Inr) : (tlInr i).size ≤ 2 * i.blk := by
  unfold tlInr Inr.blk
  simp [Tl.size_add, size_ints, size_texts]
  omega
theorem size_atr (a : Atr) : (tlAtr a).size ≤ 2 * a.blk := by
  unfold tlAtr Atr.blk
  have h1 := size_code a.code
  have h2 := size_val a.value
  have h3 := size_all tlInr Inr.blk 2 a.inners (fun x _ => size_inr x)
  simp only [Tl.size_add, size_ints, size_texts, List.length_cons, List.length_nil, List.map_cons, List.map_nil, List.sum_cons, List.sum_nil]
  omega
theorem size_mbr (m : Mbr) : (tlMbr m).size ≤ 2 * m.blk := by
  unfold tlMbr Mbr.blk
  have h1 := size_atr m.attrs
  simp only [Tl.size_add, size_ints, size_texts, List.length_cons, List.length_nil, List.map_cons, List.map_nil, List.sum_cons, List.sum_nil]
  omega
/-- No more is told than twice a class's bulk. -/
theorem size_cls (c : Cls) : (tlCls c).size ≤ 2 * c.blk := by
  unfold tlCls Cls.blk
  have h1 := size_atr c.attrs
  have h2 := size_all tlMbr Mbr.blk 2 (c.fields ++ c.methods) (fun x _ => size_mbr x)
  rw [List.map_append, List.sum_append] at h2
  simp only [Tl.size_add, size_ints, size_texts, List.length_cons, List.length_nil, List.map_cons, List.map_nil, List.sum_cons, List.sum_nil]
  omega
/-- Not too great to be asked about. -/
def Tl.few (a : Tl) : Bool := decide ((a.2.map fun s => min s.length 100000).sum ≤ 20000) && decide (a.1.length ≤ 20000)
end Go.Proofs.YtibogpidnnodnaaGreatDoor

/- Fields of handed-in structs: what each reads as. No program of its own. -/
namespace Go.Proofs.YtibogpidnnodnaaGreatDoor
open Go.ChangeShapes Go.WideShapes Go.ChangeAt Go.RowKit Go.Deep

section
variable {P : Program} {H : Type} {enc : TypeId × Value → H} {W : World} {base : Nat} {sp : Nat → Bool} {held : Bool} {fuel : Nat} {t : TypeId} {cs : List Value} {x : DataW H × List MemPlace}
theorem part_one {cs : List Value} {o m : Nat} {u : Value} (h : (cs.drop o).take m = [u]) : cs[o]? = some u := by
  have h1 := congrArg (fun l : List Value => l[0]?) h
  simp only [List.getElem?_take, List.getElem?_drop, List.getElem?_cons_zero, Nat.add_zero] at h1
  split at h1
  · exact h1
  · cases h1
/-- A struct's fields, each with its weights, and their bulk. -/
theorem view_field {fs : Array Field} (ht : P.underlying t = some (.struct fs)) (h : DataW.trod enc P W base sp held fuel t cs = some x) (hw : ∀ n ∈ x.1.weights P t, n ≤ reachBytes) :
    cs.length = P.cellsOf t ∧ ∃ ds : List (DataW H × List MemPlace), ds.length = fs.size ∧ Rows.uptoBulk x.1 = (ds.map fun d => Rows.uptoBulk d.1).sum + 1 ∧
      ∀ (i : Nat) (f : Field) (y : DataW H × List MemPlace), fs[i]? = some f → ds[i]? = some y → ∃ k : Nat, DataW.trod enc P W base sp held k f.type ((cs.drop f.offset).take (P.cellsOf f.type)) = some y ∧ ∀ n ∈ y.1.weights P f.type, n ≤ reachBytes := by
  obtain ⟨xs, n, _, hx, hlen, hlen2, hf⟩ := DataW.trod_struct ht h
  subst hx
  refine ⟨hlen, xs, hlen2, ?_, fun i f y hi hy => ⟨n, (hf i f hi).trans hy, fun m hm => hw m ?_⟩⟩
  · simp only [Rows.uptoBulk]
    rw [bulk_all, List.map_map]
    rfl
  · simp only [DataW.weights, ht]
    refine DataW.weights_mem_each (j := i) (t := f.type) (d := y.1) ?_ ?_ m hm
    · simp [hi]
    · simp [hy]
theorem field_int {o m : Nat} (ht : P.underlying t = some (.int .i64)) (h : DataW.trod enc P W base sp held fuel t ((cs.drop o).take m) = some x) : ∃ n : Int, cs[o]? = some (.int .i64 n) ∧ I64 n ∧ 1 ≤ Rows.uptoBulk x.1 := by
  obtain ⟨n, e, hx, hwf⟩ := DataW.trod_int ht h
  exact ⟨n, part_one e, bounds_i64 hwf, by rw [hx]; simp [Rows.uptoBulk]⟩
theorem field_u64 {o m : Nat} (ht : P.underlying t = some (.int .u64)) (h : DataW.trod enc P W base sp held fuel t ((cs.drop o).take m) = some x) : ∃ n : Nat, cs[o]? = some (.int .u64 n) ∧ n < 18446744073709551616 ∧ 1 ≤ Rows.uptoBulk x.1 := by
  obtain ⟨n, e, hx, hwf⟩ := DataW.trod_int ht h
  have hb := bounds_u64 hwf
  refine ⟨n.toNat, ?_, by omega, by rw [hx]; simp [Rows.uptoBulk]⟩
  rw [part_one e]
  congr 2
  omega
theorem field_str {o m : Nat} (ht : P.underlying t = some .string) (h : DataW.trod enc P W base sp held fuel t ((cs.drop o).take m) = some x) (hw : ∀ n ∈ x.1.weights P t, n ≤ reachBytes) : ∃ s : List UInt8, cs[o]? = some (.string (bs s)) ∧ s.length ≤ 140737488355328 ∧ s.length + 1 ≤ Rows.uptoBulk x.1 := by
  obtain ⟨s, e, hx, _⟩ := DataW.trod_string ht h
  refine ⟨s.data.toList, ?_, ?_, by rw [hx]; simp [Rows.uptoBulk]⟩
  · rw [part_one e]
    cases s
    simp [bs]
  · subst hx
    have h1 := hw s.data.toList.length (by simp [DataW.weights])
    have hr2 : reachBytes + 24 ≤ 140737488355328 := by decide
    omega
end
theorem sum_ones {α : Type} (l : List α) : (l.map fun _ => 1).sum = l.length := by
  induction l with
  | nil => rfl
  | cons a l ih => simp only [List.map_cons, List.sum_cons, List.length_cons, ih]; omega
/-- Things of one cell. -/
theorem Sl.ints {w : World} {A : Option Addr} {c : Nat} {ys : List Int} (h : Sl 1 (fun _ cs (y : Int) => cs = [.int .i64 y]) w A c ys) : Ints w A c ys :=
  ⟨h.1, fun hp => by
    obtain ⟨g, o, e, hg, hc⟩ := h.2 hp
    refine ⟨g, o, e, hg, fun j y hy => ?_⟩
    obtain ⟨cs, rfl, _, h3⟩ := hc j y hy
    have := h3 0 _ rfl
    rwa [Nat.mul_one, Nat.add_zero] at this⟩
theorem Sl.texts {w : World} {A : Option Addr} {c : Nat} {ys : List (List UInt8)} (h : Sl 1 (fun _ cs (y : List UInt8) => cs = [.string (bs y)]) w A c ys) : Txt w A c ys :=
  ⟨h.1, fun hp => by
    obtain ⟨g, o, e, hg, hc⟩ := h.2 hp
    refine ⟨g, o, e, hg, fun j y hy => ?_⟩
    obtain ⟨cs, rfl, _, h3⟩ := hc j y hy
    have := h3 0 _ rfl
    rwa [Nat.mul_one, Nat.add_zero] at this⟩
section
variable {H : Type} {enc : TypeId × Value → H} {W : World} {base : Nat} {sp : Nat → Bool} {held : Bool} {fuel : Nat} {cs : List Value} {x : DataW H × List MemPlace}
theorem field_ints {o m : Nat} (h : DataW.trod enc Tryz.prog W base sp held fuel 44 ((cs.drop o).take m) = some x) (hw : ∀ n ∈ x.1.weights Tryz.prog 44, n ≤ reachBytes) :
    ∃ A c ys, cs[o]? = some (.slice A (List.length ys) c) ∧ Ints W A c ys ∧ ys.length ≤ 140737488355328 ∧ (A = none → c = 0) ∧ (∀ y ∈ ys, I64 y) ∧ ys.length + 1 ≤ Rows.uptoBulk x.1 := by
  obtain ⟨A, c, ys, e, h1, h2, h3, h4, h5⟩ := view_sl (size := 1) (R := fun _ cs (y : Int) => cs = [.int .i64 y]) (good := I64) (blk := fun _ => 1) Tryz.underlying44 (by kernel_rfl) (by decide) (by rw [show Tryz.prog.bytesOf 3 = 8 from by kernel_rfl]; decide) (fun fuel cs x h hw => by
    obtain ⟨n, e, hx, hwf⟩ := DataW.trod_int Tryz.underlying3 h
    exact ⟨n, bounds_i64 hwf, by rw [e]; rfl, e, by rw [hx]; simp [Rows.uptoBulk]⟩) h hw
  exact ⟨A, c, ys, part_one e, h1.ints, h2, h3, h4, by rw [sum_ones] at h5; exact h5⟩
theorem field_strs {o m : Nat} (h : DataW.trod enc Tryz.prog W base sp held fuel 22 ((cs.drop o).take m) = some x) (hw : ∀ n ∈ x.1.weights Tryz.prog 22, n ≤ reachBytes) :
    ∃ A c ys, cs[o]? = some (.slice A (List.length ys) c) ∧ Txt W A c ys ∧ ys.length ≤ 140737488355328 ∧ (A = none → c = 0) ∧ (∀ y ∈ ys, y.length ≤ 140737488355328) ∧ (ys.map fun y => y.length + 1).sum + 1 ≤ Rows.uptoBulk x.1 := by
  obtain ⟨A, c, ys, e, h1, h2, h3, h4, h5⟩ := view_sl (size := 1) (R := fun _ cs (y : List UInt8) => cs = [.string (bs y)]) (good := fun y => y.length ≤ 140737488355328) (blk := fun y => y.length + 1) Tryz.underlying22 (by kernel_rfl) (by decide) (by rw [show Tryz.prog.bytesOf 9 = 16 from by kernel_rfl]; decide) (fun fuel cs x h hw => by
    obtain ⟨s, e, hx, _⟩ := DataW.trod_string Tryz.underlying9 h
    refine ⟨s.data.toList, ?_, by rw [e]; rfl, by rw [e]; cases s; simp [bs], by rw [hx]; simp [Rows.uptoBulk]⟩
    subst hx
    have h1 := hw s.data.toList.length (by simp [DataW.weights])
    have hr2 : reachBytes + 24 ≤ 140737488355328 := by decide
    omega) h hw
  exact ⟨A, c, ys, part_one e, h1.texts, h2, h3, h4, h5⟩
end
end Go.Proofs.YtibogpidnnodnaaGreatDoor

/- A class and what it holds: structures, what each reads as in cells, and what a handed-in one is. Printed by mk_class.py. -/
namespace Go.Proofs.YtibogpidnnodnaaGreatDoor
open Go.ChangeShapes Go.WideShapes Go.ChangeAt Go.RowKit Go.Deep

/-- A value at a place of cells. -/
def ValIn (cs : List Value) (o : Nat) (v : Pv) : Prop := cs[o]? = some (.int .i64 v.tag) ∧ cs[o + 1]? = some (.string (bs v.text)) ∧ cs[o + 2]? = some (.int .u64 v.bits) ∧ cs[o + 3]? = some (.string (bs v.cls)) ∧ cs[o + 4]? = some (.string (bs v.name)) ∧ cs[o + 5]? = some (.string (bs v.desc))
theorem part_at {cs : List Value} {o m k : Nat} {u : Value} (hk : ((cs.drop o).take m)[k]? = some u) : cs[o + k]? = some u := by
  rw [List.getElem?_take] at hk
  split at hk
  · rwa [List.getElem?_drop] at hk
  · cases hk
section
variable {H : Type} {enc : TypeId × Value → H} {W : World} {base : Nat} {sp : Nat → Bool} {held : Bool} {fuel : Nat} {cs : List Value} {x : DataW H × List MemPlace}
set_option maxRecDepth 100000 in
theorem view_Pv (h : DataW.trod enc Tryz.prog W base sp held fuel 32 cs = some x) (hw : ∀ n ∈ x.1.weights Tryz.prog 32, n ≤ reachBytes) : ∃ v : Pv, v.fits ∧ cs.length = 6 ∧ ValIn cs 0 v ∧ v.blk ≤ Rows.uptoBulk x.1 := by
  obtain ⟨hl, ds, hd, hb, hf⟩ := view_field Tryz.underlying32 h hw
  rw [show Tryz.prog.cellsOf 32 = 6 from by kernel_rfl] at hl
  match ds, hd with
  | [x0, x1, x2, x3, x4, x5], _ =>
  obtain ⟨k0, t0, w0⟩ := hf 0 _ _ rfl rfl
  obtain ⟨k1, t1, w1⟩ := hf 1 _ _ rfl rfl
  obtain ⟨k2, t2, w2⟩ := hf 2 _ _ rfl rfl
  obtain ⟨k3, t3, w3⟩ := hf 3 _ _ rfl rfl
  obtain ⟨k4, t4, w4⟩ := hf 4 _ _ rfl rfl
  obtain ⟨k5, t5, w5⟩ := hf 5 _ _ rfl rfl
  obtain ⟨y0, e0, g0, b0⟩ := field_int Tryz.underlying3 t0
  obtain ⟨y1, e1, g1, b1⟩ := field_str Tryz.underlying9 t1 w1
  obtain ⟨y2, e2, g2, b2⟩ := field_u64 Tryz.underlying30 t2
  obtain ⟨y3, e3, g3, b3⟩ := field_str Tryz.underlying9 t3 w3
  obtain ⟨y4, e4, g4, b4⟩ := field_str Tryz.underlying9 t4 w4
  obtain ⟨y5, e5, g5, b5⟩ := field_str Tryz.underlying9 t5 w5
  simp only [List.map_cons, List.map_nil, List.sum_cons, List.sum_nil] at hb
  exact ⟨⟨y0, y1, y2, y3, y4, y5⟩, ⟨g0, g2, g1, g3, g4, g5⟩, hl, ⟨e0, e1, e2, e3, e4, e5⟩, by unfold Pv.blk; dsimp only; omega⟩
theorem valIn_part {o m : Nat} {v : Pv} (h : ValIn ((cs.drop o).take m) 0 v) : ValIn cs o v :=
  ⟨part_at h.1, part_at h.2.1, part_at h.2.2.1, part_at h.2.2.2.1, part_at h.2.2.2.2.1, part_at h.2.2.2.2.2⟩
end
def Cins.rd (w : World) (cs : List Value) (y : Cins) : Prop := cs.length = 12 ∧ cs[0]? = some (.int .i64 y.op) ∧ cs[1]? = some (.int .i64 y.var) ∧ cs[2]? = some (.int .i64 y.num) ∧ ValIn cs 3 y.const ∧ cs[9]? = some (.int .i64 y.to) ∧ (∃ A c, cs[10]? = some (.slice A y.keys.length c) ∧ Ints w A c y.keys ∧ (A = none → c = 0)) ∧ (∃ A c, cs[11]? = some (.slice A y.targets.length c) ∧ Ints w A c y.targets ∧ (A = none → c = 0))
theorem Cins.rd_grow {w w' : World} {cs : List Value} {y : Cins} (h : Cins.rd w cs y) (k : Below w.heap.size w w') : Cins.rd w' cs y := by
  obtain ⟨h0, h1, h2, h3, h4, h5, h6, h7⟩ := h
  exact ⟨h0, h1, h2, h3, h4, h5, (let ⟨A, c, e, i, z⟩ := h6; ⟨A, c, e, i.grow k, z⟩), (let ⟨A, c, e, i, z⟩ := h7; ⟨A, c, e, i.grow k, z⟩)⟩
set_option maxRecDepth 100000 in
theorem view_Cins {H : Type} {enc : TypeId × Value → H} {W : World} {base : Nat} {sp : Nat → Bool} {held : Bool} {fuel : Nat} {cs : List Value} {x : DataW H × List MemPlace} (h : DataW.trod enc Tryz.prog W base sp held fuel 46 cs = some x) (hw : ∀ n ∈ x.1.weights Tryz.prog 46, n ≤ reachBytes) :
    ∃ y : Cins, y.good ∧ cs.length = 12 ∧ Cins.rd W cs y ∧ y.blk ≤ Rows.uptoBulk x.1 := by
  obtain ⟨hl, ds, hd, hb, hf⟩ := view_field Tryz.underlying46 h hw
  rw [show Tryz.prog.cellsOf 46 = 12 from by kernel_rfl] at hl
  match ds, hd with
  | [x0, x1, x2, x3, x4, x5, x6], _ =>
  obtain ⟨k0, t0, w0⟩ := hf 0 _ _ rfl rfl
  obtain ⟨y0, e0, g0, b0⟩ := field_int Tryz.underlying3 t0
  obtain ⟨k1, t1, w1⟩ := hf 1 _ _ rfl rfl
  obtain ⟨y1, e1, g1, b1⟩ := field_int Tryz.underlying3 t1
  obtain ⟨k2, t2, w2⟩ := hf 2 _ _ rfl rfl
  obtain ⟨y2, e2, g2, b2⟩ := field_int Tryz.underlying3 t2
  obtain ⟨k3, t3, w3⟩ := hf 3 _ _ rfl rfl
  obtain ⟨y3, g3, _, e3, b3⟩ := view_Pv t3 w3
  obtain ⟨k4, t4, w4⟩ := hf 4 _ _ rfl rfl
  obtain ⟨y4, e4, g4, b4⟩ := field_int Tryz.underlying3 t4
  obtain ⟨k5, t5, w5⟩ := hf 5 _ _ rfl rfl
  obtain ⟨A5, c5, y5, e5, s5, l5, z5, g5, b5⟩ := field_ints t5 w5
  obtain ⟨k6, t6, w6⟩ := hf 6 _ _ rfl rfl
  obtain ⟨A6, c6, y6, e6, s6, l6, z6, g6, b6⟩ := field_ints t6 w6
  simp only [List.map_cons, List.map_nil, List.sum_cons, List.sum_nil] at hb
  exact ⟨⟨y0, y1, y2, y3, y4, y5, y6⟩, ⟨g0, g1, g2, g3, g4, ⟨l5, g5⟩, ⟨l6, g6⟩⟩, hl, ⟨hl, e0, e1, e2, valIn_part e3, e4, ⟨A5, c5, e5, s5, z5⟩, ⟨A6, c6, e6, s6, z6⟩⟩, by unfold Cins.blk; (try dsimp only); omega⟩
def Hnd.rd (_w : World) (cs : List Value) (y : Hnd) : Prop := cs.length = 4 ∧ cs[0]? = some (.int .i64 y.from_) ∧ cs[1]? = some (.int .i64 y.till) ∧ cs[2]? = some (.int .i64 y.to) ∧ cs[3]? = some (.string (bs y.kind))
theorem Hnd.rd_grow {w w' : World} {cs : List Value} {y : Hnd} (h : Hnd.rd w cs y) (_k : Below w.heap.size w w') : Hnd.rd w' cs y := by
  obtain ⟨h0, h1, h2, h3, h4⟩ := h
  exact ⟨h0, h1, h2, h3, h4⟩
set_option maxRecDepth 100000 in
theorem view_Hnd {H : Type} {enc : TypeId × Value → H} {W : World} {base : Nat} {sp : Nat → Bool} {held : Bool} {fuel : Nat} {cs : List Value} {x : DataW H × List MemPlace} (h : DataW.trod enc Tryz.prog W base sp held fuel 116 cs = some x) (hw : ∀ n ∈ x.1.weights Tryz.prog 116, n ≤ reachBytes) :
    ∃ y : Hnd, y.good ∧ cs.length = 4 ∧ Hnd.rd W cs y ∧ y.blk ≤ Rows.uptoBulk x.1 := by
  obtain ⟨hl, ds, hd, hb, hf⟩ := view_field Tryz.underlying116 h hw
  rw [show Tryz.prog.cellsOf 116 = 4 from by kernel_rfl] at hl
  match ds, hd with
  | [x0, x1, x2, x3], _ =>
  obtain ⟨k0, t0, w0⟩ := hf 0 _ _ rfl rfl
  obtain ⟨y0, e0, g0, b0⟩ := field_int Tryz.underlying3 t0
  obtain ⟨k1, t1, w1⟩ := hf 1 _ _ rfl rfl
  obtain ⟨y1, e1, g1, b1⟩ := field_int Tryz.underlying3 t1
  obtain ⟨k2, t2, w2⟩ := hf 2 _ _ rfl rfl
  obtain ⟨y2, e2, g2, b2⟩ := field_int Tryz.underlying3 t2
  obtain ⟨k3, t3, w3⟩ := hf 3 _ _ rfl rfl
  obtain ⟨y3, e3, g3, b3⟩ := field_str Tryz.underlying9 t3 w3
  simp only [List.map_cons, List.map_nil, List.sum_cons, List.sum_nil] at hb
  exact ⟨⟨y0, y1, y2, y3⟩, ⟨g0, g1, g2, g3⟩, hl, ⟨hl, e0, e1, e2, e3⟩, by unfold Hnd.blk; (try dsimp only); omega⟩
def Lno.rd (_w : World) (cs : List Value) (y : Lno) : Prop := cs.length = 2 ∧ cs[0]? = some (.int .i64 y.at_) ∧ cs[1]? = some (.int .i64 y.line)
theorem Lno.rd_grow {w w' : World} {cs : List Value} {y : Lno} (h : Lno.rd w cs y) (_k : Below w.heap.size w w') : Lno.rd w' cs y := by
  obtain ⟨h0, h1, h2⟩ := h
  exact ⟨h0, h1, h2⟩
set_option maxRecDepth 100000 in
theorem view_Lno {H : Type} {enc : TypeId × Value → H} {W : World} {base : Nat} {sp : Nat → Bool} {held : Bool} {fuel : Nat} {cs : List Value} {x : DataW H × List MemPlace} (h : DataW.trod enc Tryz.prog W base sp held fuel 119 cs = some x) (hw : ∀ n ∈ x.1.weights Tryz.prog 119, n ≤ reachBytes) :
    ∃ y : Lno, y.good ∧ cs.length = 2 ∧ Lno.rd W cs y ∧ y.blk ≤ Rows.uptoBulk x.1 := by
  obtain ⟨hl, ds, hd, hb, hf⟩ := view_field Tryz.underlying119 h hw
  rw [show Tryz.prog.cellsOf 119 = 2 from by kernel_rfl] at hl
  match ds, hd with
  | [x0, x1], _ =>
  obtain ⟨k0, t0, w0⟩ := hf 0 _ _ rfl rfl
  obtain ⟨y0, e0, g0, b0⟩ := field_int Tryz.underlying3 t0
  obtain ⟨k1, t1, w1⟩ := hf 1 _ _ rfl rfl
  obtain ⟨y1, e1, g1, b1⟩ := field_int Tryz.underlying3 t1
  simp only [List.map_cons, List.map_nil, List.sum_cons, List.sum_nil] at hb
  exact ⟨⟨y0, y1⟩, ⟨g0, g1⟩, hl, ⟨hl, e0, e1⟩, by unfold Lno.blk; (try dsimp only); omega⟩
def Slt.rd (_w : World) (cs : List Value) (y : Slt) : Prop := cs.length = 5 ∧ cs[0]? = some (.int .i64 y.from_) ∧ cs[1]? = some (.int .i64 y.till) ∧ cs[2]? = some (.string (bs y.name)) ∧ cs[3]? = some (.string (bs y.desc)) ∧ cs[4]? = some (.int .i64 y.var)
theorem Slt.rd_grow {w w' : World} {cs : List Value} {y : Slt} (h : Slt.rd w cs y) (_k : Below w.heap.size w w') : Slt.rd w' cs y := by
  obtain ⟨h0, h1, h2, h3, h4, h5⟩ := h
  exact ⟨h0, h1, h2, h3, h4, h5⟩
set_option maxRecDepth 100000 in
theorem view_Slt {H : Type} {enc : TypeId × Value → H} {W : World} {base : Nat} {sp : Nat → Bool} {held : Bool} {fuel : Nat} {cs : List Value} {x : DataW H × List MemPlace} (h : DataW.trod enc Tryz.prog W base sp held fuel 122 cs = some x) (hw : ∀ n ∈ x.1.weights Tryz.prog 122, n ≤ reachBytes) :
    ∃ y : Slt, y.good ∧ cs.length = 5 ∧ Slt.rd W cs y ∧ y.blk ≤ Rows.uptoBulk x.1 := by
  obtain ⟨hl, ds, hd, hb, hf⟩ := view_field Tryz.underlying122 h hw
  rw [show Tryz.prog.cellsOf 122 = 5 from by kernel_rfl] at hl
  match ds, hd with
  | [x0, x1, x2, x3, x4], _ =>
  obtain ⟨k0, t0, w0⟩ := hf 0 _ _ rfl rfl
  obtain ⟨y0, e0, g0, b0⟩ := field_int Tryz.underlying3 t0
  obtain ⟨k1, t1, w1⟩ := hf 1 _ _ rfl rfl
  obtain ⟨y1, e1, g1, b1⟩ := field_int Tryz.underlying3 t1
  obtain ⟨k2, t2, w2⟩ := hf 2 _ _ rfl rfl
  obtain ⟨y2, e2, g2, b2⟩ := field_str Tryz.underlying9 t2 w2
  obtain ⟨k3, t3, w3⟩ := hf 3 _ _ rfl rfl
  obtain ⟨y3, e3, g3, b3⟩ := field_str Tryz.underlying9 t3 w3
  obtain ⟨k4, t4, w4⟩ := hf 4 _ _ rfl rfl
  obtain ⟨y4, e4, g4, b4⟩ := field_int Tryz.underlying3 t4
  simp only [List.map_cons, List.map_nil, List.sum_cons, List.sum_nil] at hb
  exact ⟨⟨y0, y1, y2, y3, y4⟩, ⟨g0, g1, g2, g3, g4⟩, hl, ⟨hl, e0, e1, e2, e3, e4⟩, by unfold Slt.blk; (try dsimp only); omega⟩
def Cde.rd (w : World) (cs : List Value) (y : Cde) : Prop := cs.length = 7 ∧ cs[0]? = some (.int .i64 y.stack) ∧ cs[1]? = some (.int .i64 y.locals) ∧ (∃ A c, cs[2]? = some (.slice A y.ops.length c) ∧ Sl 12 Cins.rd w A c y.ops ∧ (A = none → c = 0)) ∧ (∃ A c, cs[3]? = some (.slice A y.handlers.length c) ∧ Sl 4 Hnd.rd w A c y.handlers ∧ (A = none → c = 0)) ∧ cs[4]? = some (.int .i64 y.has) ∧ (∃ A c, cs[5]? = some (.slice A y.lines.length c) ∧ Sl 2 Lno.rd w A c y.lines ∧ (A = none → c = 0)) ∧ (∃ A c, cs[6]? = some (.slice A y.slots.length c) ∧ Sl 5 Slt.rd w A c y.slots ∧ (A = none → c = 0))
theorem Cde.rd_grow {w w' : World} {cs : List Value} {y : Cde} (h : Cde.rd w cs y) (k : Below w.heap.size w w') : Cde.rd w' cs y := by
  obtain ⟨h0, h1, h2, h3, h4, h5, h6, h7⟩ := h
  exact ⟨h0, h1, h2, (let ⟨A, c, e, i, z⟩ := h3; ⟨A, c, e, i.grow k (fun _ _ r => Cins.rd_grow r k), z⟩), (let ⟨A, c, e, i, z⟩ := h4; ⟨A, c, e, i.grow k (fun _ _ r => Hnd.rd_grow r k), z⟩), h5, (let ⟨A, c, e, i, z⟩ := h6; ⟨A, c, e, i.grow k (fun _ _ r => Lno.rd_grow r k), z⟩), (let ⟨A, c, e, i, z⟩ := h7; ⟨A, c, e, i.grow k (fun _ _ r => Slt.rd_grow r k), z⟩)⟩
set_option maxRecDepth 100000 in
theorem view_Cde {H : Type} {enc : TypeId × Value → H} {W : World} {base : Nat} {sp : Nat → Bool} {held : Bool} {fuel : Nat} {cs : List Value} {x : DataW H × List MemPlace} (h : DataW.trod enc Tryz.prog W base sp held fuel 29 cs = some x) (hw : ∀ n ∈ x.1.weights Tryz.prog 29, n ≤ reachBytes) :
    ∃ y : Cde, y.good ∧ cs.length = 7 ∧ Cde.rd W cs y ∧ y.blk ≤ Rows.uptoBulk x.1 := by
  obtain ⟨hl, ds, hd, hb, hf⟩ := view_field Tryz.underlying29 h hw
  rw [show Tryz.prog.cellsOf 29 = 7 from by kernel_rfl] at hl
  match ds, hd with
  | [x0, x1, x2, x3, x4, x5, x6], _ =>
  obtain ⟨k0, t0, w0⟩ := hf 0 _ _ rfl rfl
  obtain ⟨y0, e0, g0, b0⟩ := field_int Tryz.underlying3 t0
  obtain ⟨k1, t1, w1⟩ := hf 1 _ _ rfl rfl
  obtain ⟨y1, e1, g1, b1⟩ := field_int Tryz.underlying3 t1
  obtain ⟨k2, t2, w2⟩ := hf 2 _ _ rfl rfl
  obtain ⟨A2, c2, y2, e2, s2, l2, z2, g2, b2⟩ := view_sl (size := 12) (R := Cins.rd) (good := Cins.good) (blk := Cins.blk) Tryz.underlying24 (by kernel_rfl) (by decide) (by rw [show Tryz.prog.bytesOf 46 = 160 from by kernel_rfl]; decide) (fun _ _ _ a b => view_Cins a b) t2 w2
  obtain ⟨k3, t3, w3⟩ := hf 3 _ _ rfl rfl
  obtain ⟨A3, c3, y3, e3, s3, l3, z3, g3, b3⟩ := view_sl (size := 4) (R := Hnd.rd) (good := Hnd.good) (blk := Hnd.blk) Tryz.underlying25 (by kernel_rfl) (by decide) (by rw [show Tryz.prog.bytesOf 116 = 40 from by kernel_rfl]; decide) (fun _ _ _ a b => view_Hnd a b) t3 w3
  obtain ⟨k4, t4, w4⟩ := hf 4 _ _ rfl rfl
  obtain ⟨y4, e4, g4, b4⟩ := field_int Tryz.underlying3 t4
  obtain ⟨k5, t5, w5⟩ := hf 5 _ _ rfl rfl
  obtain ⟨A5, c5, y5, e5, s5, l5, z5, g5, b5⟩ := view_sl (size := 2) (R := Lno.rd) (good := Lno.good) (blk := Lno.blk) Tryz.underlying26 (by kernel_rfl) (by decide) (by rw [show Tryz.prog.bytesOf 119 = 16 from by kernel_rfl]; decide) (fun _ _ _ a b => view_Lno a b) t5 w5
  obtain ⟨k6, t6, w6⟩ := hf 6 _ _ rfl rfl
  obtain ⟨A6, c6, y6, e6, s6, l6, z6, g6, b6⟩ := view_sl (size := 5) (R := Slt.rd) (good := Slt.good) (blk := Slt.blk) Tryz.underlying27 (by kernel_rfl) (by decide) (by rw [show Tryz.prog.bytesOf 122 = 56 from by kernel_rfl]; decide) (fun _ _ _ a b => view_Slt a b) t6 w6
  simp only [List.map_cons, List.map_nil, List.sum_cons, List.sum_nil] at hb
  exact ⟨⟨y0, y1, y2, y3, y4, y5, y6⟩, ⟨g0, g1, ⟨l2, g2⟩, ⟨l3, g3⟩, g4, ⟨l5, g5⟩, ⟨l6, g6⟩⟩, hl, ⟨hl, e0, e1, ⟨A2, c2, part_one e2, s2, z2⟩, ⟨A3, c3, part_one e3, s3, z3⟩, e4, ⟨A5, c5, part_one e5, s5, z5⟩, ⟨A6, c6, part_one e6, s6, z6⟩⟩, by unfold Cde.blk; (try dsimp only); omega⟩
def Inr.rd (_w : World) (cs : List Value) (y : Inr) : Prop := cs.length = 4 ∧ cs[0]? = some (.string (bs y.cls)) ∧ cs[1]? = some (.string (bs y.outer)) ∧ cs[2]? = some (.string (bs y.name)) ∧ cs[3]? = some (.int .i64 y.flags)
theorem Inr.rd_grow {w w' : World} {cs : List Value} {y : Inr} (h : Inr.rd w cs y) (_k : Below w.heap.size w w') : Inr.rd w' cs y := by
  obtain ⟨h0, h1, h2, h3, h4⟩ := h
  exact ⟨h0, h1, h2, h3, h4⟩
set_option maxRecDepth 100000 in
theorem view_Inr {H : Type} {enc : TypeId × Value → H} {W : World} {base : Nat} {sp : Nat → Bool} {held : Bool} {fuel : Nat} {cs : List Value} {x : DataW H × List MemPlace} (h : DataW.trod enc Tryz.prog W base sp held fuel 86 cs = some x) (hw : ∀ n ∈ x.1.weights Tryz.prog 86, n ≤ reachBytes) :
    ∃ y : Inr, y.good ∧ cs.length = 4 ∧ Inr.rd W cs y ∧ y.blk ≤ Rows.uptoBulk x.1 := by
  obtain ⟨hl, ds, hd, hb, hf⟩ := view_field Tryz.underlying86 h hw
  rw [show Tryz.prog.cellsOf 86 = 4 from by kernel_rfl] at hl
  match ds, hd with
  | [x0, x1, x2, x3], _ =>
  obtain ⟨k0, t0, w0⟩ := hf 0 _ _ rfl rfl
  obtain ⟨y0, e0, g0, b0⟩ := field_str Tryz.underlying9 t0 w0
  obtain ⟨k1, t1, w1⟩ := hf 1 _ _ rfl rfl
  obtain ⟨y1, e1, g1, b1⟩ := field_str Tryz.underlying9 t1 w1
  obtain ⟨k2, t2, w2⟩ := hf 2 _ _ rfl rfl
  obtain ⟨y2, e2, g2, b2⟩ := field_str Tryz.underlying9 t2 w2
  obtain ⟨k3, t3, w3⟩ := hf 3 _ _ rfl rfl
  obtain ⟨y3, e3, g3, b3⟩ := field_int Tryz.underlying3 t3
  simp only [List.map_cons, List.map_nil, List.sum_cons, List.sum_nil] at hb
  exact ⟨⟨y0, y1, y2, y3⟩, ⟨g0, g1, g2, g3⟩, hl, ⟨hl, e0, e1, e2, e3⟩, by unfold Inr.blk; (try dsimp only); omega⟩
def Atr.rd (w : World) (cs : List Value) (y : Atr) : Prop := cs.length = 18 ∧ cs[0]? = some (.int .i64 y.has) ∧ Cde.rd w ((cs.drop 1).take 7) y.code ∧ ValIn cs 8 y.value ∧ (∃ A c, cs[14]? = some (.slice A y.throws.length c) ∧ Txt w A c y.throws ∧ (A = none → c = 0)) ∧ (∃ A c, cs[15]? = some (.slice A y.inners.length c) ∧ Sl 4 Inr.rd w A c y.inners ∧ (A = none → c = 0)) ∧ cs[16]? = some (.string (bs y.signature)) ∧ cs[17]? = some (.string (bs y.source))
theorem Atr.rd_grow {w w' : World} {cs : List Value} {y : Atr} (h : Atr.rd w cs y) (k : Below w.heap.size w w') : Atr.rd w' cs y := by
  obtain ⟨h0, h1, h2, h3, h4, h5, h6, h7⟩ := h
  exact ⟨h0, h1, Cde.rd_grow h2 k, h3, (let ⟨A, c, e, i, z⟩ := h4; ⟨A, c, e, i.grow k, z⟩), (let ⟨A, c, e, i, z⟩ := h5; ⟨A, c, e, i.grow k (fun _ _ r => Inr.rd_grow r k), z⟩), h6, h7⟩
set_option maxRecDepth 100000 in
theorem view_Atr {H : Type} {enc : TypeId × Value → H} {W : World} {base : Nat} {sp : Nat → Bool} {held : Bool} {fuel : Nat} {cs : List Value} {x : DataW H × List MemPlace} (h : DataW.trod enc Tryz.prog W base sp held fuel 35 cs = some x) (hw : ∀ n ∈ x.1.weights Tryz.prog 35, n ≤ reachBytes) :
    ∃ y : Atr, y.good ∧ cs.length = 18 ∧ Atr.rd W cs y ∧ y.blk ≤ Rows.uptoBulk x.1 := by
  obtain ⟨hl, ds, hd, hb, hf⟩ := view_field Tryz.underlying35 h hw
  rw [show Tryz.prog.cellsOf 35 = 18 from by kernel_rfl] at hl
  match ds, hd with
  | [x0, x1, x2, x3, x4, x5, x6], _ =>
  obtain ⟨k0, t0, w0⟩ := hf 0 _ _ rfl rfl
  obtain ⟨y0, e0, g0, b0⟩ := field_int Tryz.underlying3 t0
  obtain ⟨k1, t1, w1⟩ := hf 1 _ _ rfl rfl
  obtain ⟨y1, g1, _, e1, b1⟩ := view_Cde t1 w1
  obtain ⟨k2, t2, w2⟩ := hf 2 _ _ rfl rfl
  obtain ⟨y2, g2, _, e2, b2⟩ := view_Pv t2 w2
  obtain ⟨k3, t3, w3⟩ := hf 3 _ _ rfl rfl
  obtain ⟨A3, c3, y3, e3, s3, l3, z3, g3, b3⟩ := field_strs t3 w3
  obtain ⟨k4, t4, w4⟩ := hf 4 _ _ rfl rfl
  obtain ⟨A4, c4, y4, e4, s4, l4, z4, g4, b4⟩ := view_sl (size := 4) (R := Inr.rd) (good := Inr.good) (blk := Inr.blk) Tryz.underlying33 (by kernel_rfl) (by decide) (by rw [show Tryz.prog.bytesOf 86 = 56 from by kernel_rfl]; decide) (fun _ _ _ a b => view_Inr a b) t4 w4
  obtain ⟨k5, t5, w5⟩ := hf 5 _ _ rfl rfl
  obtain ⟨y5, e5, g5, b5⟩ := field_str Tryz.underlying9 t5 w5
  obtain ⟨k6, t6, w6⟩ := hf 6 _ _ rfl rfl
  obtain ⟨y6, e6, g6, b6⟩ := field_str Tryz.underlying9 t6 w6
  simp only [List.map_cons, List.map_nil, List.sum_cons, List.sum_nil] at hb
  exact ⟨⟨y0, y1, y2, y3, y4, y5, y6⟩, ⟨g0, g1, g2, ⟨l3, g3⟩, ⟨l4, g4⟩, g5, g6⟩, hl, ⟨hl, e0, e1, valIn_part e2, ⟨A3, c3, e3, s3, z3⟩, ⟨A4, c4, part_one e4, s4, z4⟩, e5, e6⟩, by unfold Atr.blk; (try dsimp only); omega⟩
def Mbr.rd (w : World) (cs : List Value) (y : Mbr) : Prop := cs.length = 21 ∧ cs[0]? = some (.int .i64 y.flags) ∧ cs[1]? = some (.string (bs y.name)) ∧ cs[2]? = some (.string (bs y.desc)) ∧ Atr.rd w ((cs.drop 3).take 18) y.attrs
theorem Mbr.rd_grow {w w' : World} {cs : List Value} {y : Mbr} (h : Mbr.rd w cs y) (k : Below w.heap.size w w') : Mbr.rd w' cs y := by
  obtain ⟨h0, h1, h2, h3, h4⟩ := h
  exact ⟨h0, h1, h2, h3, Atr.rd_grow h4 k⟩
set_option maxRecDepth 100000 in
theorem view_Mbr {H : Type} {enc : TypeId × Value → H} {W : World} {base : Nat} {sp : Nat → Bool} {held : Bool} {fuel : Nat} {cs : List Value} {x : DataW H × List MemPlace} (h : DataW.trod enc Tryz.prog W base sp held fuel 55 cs = some x) (hw : ∀ n ∈ x.1.weights Tryz.prog 55, n ≤ reachBytes) :
    ∃ y : Mbr, y.good ∧ cs.length = 21 ∧ Mbr.rd W cs y ∧ y.blk ≤ Rows.uptoBulk x.1 := by
  obtain ⟨hl, ds, hd, hb, hf⟩ := view_field Tryz.underlying55 h hw
  rw [show Tryz.prog.cellsOf 55 = 21 from by kernel_rfl] at hl
  match ds, hd with
  | [x0, x1, x2, x3], _ =>
  obtain ⟨k0, t0, w0⟩ := hf 0 _ _ rfl rfl
  obtain ⟨y0, e0, g0, b0⟩ := field_int Tryz.underlying3 t0
  obtain ⟨k1, t1, w1⟩ := hf 1 _ _ rfl rfl
  obtain ⟨y1, e1, g1, b1⟩ := field_str Tryz.underlying9 t1 w1
  obtain ⟨k2, t2, w2⟩ := hf 2 _ _ rfl rfl
  obtain ⟨y2, e2, g2, b2⟩ := field_str Tryz.underlying9 t2 w2
  obtain ⟨k3, t3, w3⟩ := hf 3 _ _ rfl rfl
  obtain ⟨y3, g3, _, e3, b3⟩ := view_Atr t3 w3
  simp only [List.map_cons, List.map_nil, List.sum_cons, List.sum_nil] at hb
  exact ⟨⟨y0, y1, y2, y3⟩, ⟨g0, g1, g2, g3⟩, hl, ⟨hl, e0, e1, e2, e3⟩, by unfold Mbr.blk; (try dsimp only); omega⟩
def Cls.rd (w : World) (cs : List Value) (y : Cls) : Prop := cs.length = 26 ∧ cs[0]? = some (.int .i64 y.minor) ∧ cs[1]? = some (.int .i64 y.major) ∧ cs[2]? = some (.int .i64 y.flags) ∧ cs[3]? = some (.string (bs y.this)) ∧ cs[4]? = some (.string (bs y.super)) ∧ (∃ A c, cs[5]? = some (.slice A y.faces.length c) ∧ Txt w A c y.faces ∧ (A = none → c = 0)) ∧ (∃ A c, cs[6]? = some (.slice A y.fields.length c) ∧ Sl 21 Mbr.rd w A c y.fields ∧ (A = none → c = 0)) ∧ (∃ A c, cs[7]? = some (.slice A y.methods.length c) ∧ Sl 21 Mbr.rd w A c y.methods ∧ (A = none → c = 0)) ∧ Atr.rd w ((cs.drop 8).take 18) y.attrs
theorem Cls.rd_grow {w w' : World} {cs : List Value} {y : Cls} (h : Cls.rd w cs y) (k : Below w.heap.size w w') : Cls.rd w' cs y := by
  obtain ⟨h0, h1, h2, h3, h4, h5, h6, h7, h8, h9⟩ := h
  exact ⟨h0, h1, h2, h3, h4, h5, (let ⟨A, c, e, i, z⟩ := h6; ⟨A, c, e, i.grow k, z⟩), (let ⟨A, c, e, i, z⟩ := h7; ⟨A, c, e, i.grow k (fun _ _ r => Mbr.rd_grow r k), z⟩), (let ⟨A, c, e, i, z⟩ := h8; ⟨A, c, e, i.grow k (fun _ _ r => Mbr.rd_grow r k), z⟩), Atr.rd_grow h9 k⟩
set_option maxRecDepth 100000 in
theorem view_Cls {H : Type} {enc : TypeId × Value → H} {W : World} {base : Nat} {sp : Nat → Bool} {held : Bool} {fuel : Nat} {cs : List Value} {x : DataW H × List MemPlace} (h : DataW.trod enc Tryz.prog W base sp held fuel 37 cs = some x) (hw : ∀ n ∈ x.1.weights Tryz.prog 37, n ≤ reachBytes) :
    ∃ y : Cls, y.good ∧ cs.length = 26 ∧ Cls.rd W cs y ∧ y.blk ≤ Rows.uptoBulk x.1 := by
  obtain ⟨hl, ds, hd, hb, hf⟩ := view_field Tryz.underlying37 h hw
  rw [show Tryz.prog.cellsOf 37 = 26 from by kernel_rfl] at hl
  match ds, hd with
  | [x0, x1, x2, x3, x4, x5, x6, x7, x8], _ =>
  obtain ⟨k0, t0, w0⟩ := hf 0 _ _ rfl rfl
  obtain ⟨y0, e0, g0, b0⟩ := field_int Tryz.underlying3 t0
  obtain ⟨k1, t1, w1⟩ := hf 1 _ _ rfl rfl
  obtain ⟨y1, e1, g1, b1⟩ := field_int Tryz.underlying3 t1
  obtain ⟨k2, t2, w2⟩ := hf 2 _ _ rfl rfl
  obtain ⟨y2, e2, g2, b2⟩ := field_int Tryz.underlying3 t2
  obtain ⟨k3, t3, w3⟩ := hf 3 _ _ rfl rfl
  obtain ⟨y3, e3, g3, b3⟩ := field_str Tryz.underlying9 t3 w3
  obtain ⟨k4, t4, w4⟩ := hf 4 _ _ rfl rfl
  obtain ⟨y4, e4, g4, b4⟩ := field_str Tryz.underlying9 t4 w4
  obtain ⟨k5, t5, w5⟩ := hf 5 _ _ rfl rfl
  obtain ⟨A5, c5, y5, e5, s5, l5, z5, g5, b5⟩ := field_strs t5 w5
  obtain ⟨k6, t6, w6⟩ := hf 6 _ _ rfl rfl
  obtain ⟨A6, c6, y6, e6, s6, l6, z6, g6, b6⟩ := view_sl (size := 21) (R := Mbr.rd) (good := Mbr.good) (blk := Mbr.blk) Tryz.underlying23 (by kernel_rfl) (by decide) (by rw [show Tryz.prog.bytesOf 55 = 328 from by kernel_rfl]; decide) (fun _ _ _ a b => view_Mbr a b) t6 w6
  obtain ⟨k7, t7, w7⟩ := hf 7 _ _ rfl rfl
  obtain ⟨A7, c7, y7, e7, s7, l7, z7, g7, b7⟩ := view_sl (size := 21) (R := Mbr.rd) (good := Mbr.good) (blk := Mbr.blk) Tryz.underlying23 (by kernel_rfl) (by decide) (by rw [show Tryz.prog.bytesOf 55 = 328 from by kernel_rfl]; decide) (fun _ _ _ a b => view_Mbr a b) t7 w7
  obtain ⟨k8, t8, w8⟩ := hf 8 _ _ rfl rfl
  obtain ⟨y8, g8, _, e8, b8⟩ := view_Atr t8 w8
  simp only [List.map_cons, List.map_nil, List.sum_cons, List.sum_nil] at hb
  exact ⟨⟨y0, y1, y2, y3, y4, y5, y6, y7, y8⟩, ⟨g0, g1, g2, g3, g4, ⟨l5, g5⟩, ⟨l6, g6⟩, ⟨l7, g7⟩, g8⟩, hl, ⟨hl, e0, e1, e2, e3, e4, ⟨A5, c5, e5, s5, z5⟩, ⟨A6, c6, part_one e6, s6, z6⟩, ⟨A7, c7, part_one e7, s7, z7⟩, e8⟩, by unfold Cls.blk; (try dsimp only); omega⟩
set_option maxRecDepth 100000 in
theorem Cins.leafs {w : World} {cs : List Value} {y : Cins} (h : Cins.rd w cs y) : ∃ (Akeys : Option Addr) (ckeys : Nat) (Atargets : Option Addr) (ctargets : Nat), cs = [.int .i64 y.op, .int .i64 y.var, .int .i64 y.num, .int .i64 y.const.tag, .string (bs y.const.text), .int .u64 y.const.bits, .string (bs y.const.cls), .string (bs y.const.name), .string (bs y.const.desc), .int .i64 y.to, .slice Akeys y.keys.length ckeys, .slice Atargets y.targets.length ctargets] ∧ (Ints w Akeys ckeys y.keys ∧ (Akeys = none → ckeys = 0)) ∧ (Ints w Atargets ctargets y.targets ∧ (Atargets = none → ctargets = 0)) := by
  match cs, h.1 with
  | [a0, a1, a2, a3, a4, a5, a6, a7, a8, a9, a10, a11], _ =>
  obtain ⟨_, h0, h1, h2, h3, h4, h5, h6⟩ := h
  obtain rfl := Option.some.inj h0
  obtain rfl := Option.some.inj h1
  obtain rfl := Option.some.inj h2
  obtain ⟨q0, q1, q2, q3, q4, q5⟩ := h3
  obtain rfl := Option.some.inj q0
  obtain rfl := Option.some.inj q1
  obtain rfl := Option.some.inj q2
  obtain rfl := Option.some.inj q3
  obtain rfl := Option.some.inj q4
  obtain rfl := Option.some.inj q5
  obtain rfl := Option.some.inj h4
  obtain ⟨A5, c5, q5, s5, z5⟩ := h5
  obtain rfl := Option.some.inj q5
  obtain ⟨A6, c6, q6, s6, z6⟩ := h6
  obtain rfl := Option.some.inj q6
  exact ⟨A5, c5, A6, c6, rfl, ⟨s5, z5⟩, ⟨s6, z6⟩⟩
set_option maxRecDepth 100000 in
theorem Hnd.leafs {w : World} {cs : List Value} {y : Hnd} (h : Hnd.rd w cs y) : cs = [.int .i64 y.from_, .int .i64 y.till, .int .i64 y.to, .string (bs y.kind)] := by
  match cs, h.1 with
  | [a0, a1, a2, a3], _ =>
  obtain ⟨_, h0, h1, h2, h3⟩ := h
  obtain rfl := Option.some.inj h0
  obtain rfl := Option.some.inj h1
  obtain rfl := Option.some.inj h2
  obtain rfl := Option.some.inj h3
  exact rfl
set_option maxRecDepth 100000 in
theorem Lno.leafs {w : World} {cs : List Value} {y : Lno} (h : Lno.rd w cs y) : cs = [.int .i64 y.at_, .int .i64 y.line] := by
  match cs, h.1 with
  | [a0, a1], _ =>
  obtain ⟨_, h0, h1⟩ := h
  obtain rfl := Option.some.inj h0
  obtain rfl := Option.some.inj h1
  exact rfl
set_option maxRecDepth 100000 in
theorem Slt.leafs {w : World} {cs : List Value} {y : Slt} (h : Slt.rd w cs y) : cs = [.int .i64 y.from_, .int .i64 y.till, .string (bs y.name), .string (bs y.desc), .int .i64 y.var] := by
  match cs, h.1 with
  | [a0, a1, a2, a3, a4], _ =>
  obtain ⟨_, h0, h1, h2, h3, h4⟩ := h
  obtain rfl := Option.some.inj h0
  obtain rfl := Option.some.inj h1
  obtain rfl := Option.some.inj h2
  obtain rfl := Option.some.inj h3
  obtain rfl := Option.some.inj h4
  exact rfl
set_option maxRecDepth 100000 in
theorem Cde.leafs {w : World} {cs : List Value} {y : Cde} (h : Cde.rd w cs y) : ∃ (Aops : Option Addr) (cops : Nat) (Ahandlers : Option Addr) (chandlers : Nat) (Alines : Option Addr) (clines : Nat) (Aslots : Option Addr) (cslots : Nat), cs = [.int .i64 y.stack, .int .i64 y.locals, .slice Aops y.ops.length cops, .slice Ahandlers y.handlers.length chandlers, .int .i64 y.has, .slice Alines y.lines.length clines, .slice Aslots y.slots.length cslots] ∧ (Sl 12 Cins.rd w Aops cops y.ops ∧ (Aops = none → cops = 0)) ∧ (Sl 4 Hnd.rd w Ahandlers chandlers y.handlers ∧ (Ahandlers = none → chandlers = 0)) ∧ (Sl 2 Lno.rd w Alines clines y.lines ∧ (Alines = none → clines = 0)) ∧ (Sl 5 Slt.rd w Aslots cslots y.slots ∧ (Aslots = none → cslots = 0)) := by
  match cs, h.1 with
  | [a0, a1, a2, a3, a4, a5, a6], _ =>
  obtain ⟨_, h0, h1, h2, h3, h4, h5, h6⟩ := h
  obtain rfl := Option.some.inj h0
  obtain rfl := Option.some.inj h1
  obtain ⟨A2, c2, q2, s2, z2⟩ := h2
  obtain rfl := Option.some.inj q2
  obtain ⟨A3, c3, q3, s3, z3⟩ := h3
  obtain rfl := Option.some.inj q3
  obtain rfl := Option.some.inj h4
  obtain ⟨A5, c5, q5, s5, z5⟩ := h5
  obtain rfl := Option.some.inj q5
  obtain ⟨A6, c6, q6, s6, z6⟩ := h6
  obtain rfl := Option.some.inj q6
  exact ⟨A2, c2, A3, c3, A5, c5, A6, c6, rfl, ⟨s2, z2⟩, ⟨s3, z3⟩, ⟨s5, z5⟩, ⟨s6, z6⟩⟩
set_option maxRecDepth 100000 in
theorem Inr.leafs {w : World} {cs : List Value} {y : Inr} (h : Inr.rd w cs y) : cs = [.string (bs y.cls), .string (bs y.outer), .string (bs y.name), .int .i64 y.flags] := by
  match cs, h.1 with
  | [a0, a1, a2, a3], _ =>
  obtain ⟨_, h0, h1, h2, h3⟩ := h
  obtain rfl := Option.some.inj h0
  obtain rfl := Option.some.inj h1
  obtain rfl := Option.some.inj h2
  obtain rfl := Option.some.inj h3
  exact rfl
set_option maxRecDepth 100000 in
theorem Atr.leafs {w : World} {cs : List Value} {y : Atr} (h : Atr.rd w cs y) : ∃ (Acode_ops : Option Addr) (ccode_ops : Nat) (Acode_handlers : Option Addr) (ccode_handlers : Nat) (Acode_lines : Option Addr) (ccode_lines : Nat) (Acode_slots : Option Addr) (ccode_slots : Nat) (Athrows : Option Addr) (cthrows : Nat) (Ainners : Option Addr) (cinners : Nat), cs = [.int .i64 y.has, .int .i64 y.code.stack, .int .i64 y.code.locals, .slice Acode_ops y.code.ops.length ccode_ops, .slice Acode_handlers y.code.handlers.length ccode_handlers, .int .i64 y.code.has, .slice Acode_lines y.code.lines.length ccode_lines, .slice Acode_slots y.code.slots.length ccode_slots, .int .i64 y.value.tag, .string (bs y.value.text), .int .u64 y.value.bits, .string (bs y.value.cls), .string (bs y.value.name), .string (bs y.value.desc), .slice Athrows y.throws.length cthrows, .slice Ainners y.inners.length cinners, .string (bs y.signature), .string (bs y.source)] ∧ (Sl 12 Cins.rd w Acode_ops ccode_ops y.code.ops ∧ (Acode_ops = none → ccode_ops = 0)) ∧ (Sl 4 Hnd.rd w Acode_handlers ccode_handlers y.code.handlers ∧ (Acode_handlers = none → ccode_handlers = 0)) ∧ (Sl 2 Lno.rd w Acode_lines ccode_lines y.code.lines ∧ (Acode_lines = none → ccode_lines = 0)) ∧ (Sl 5 Slt.rd w Acode_slots ccode_slots y.code.slots ∧ (Acode_slots = none → ccode_slots = 0)) ∧ (Txt w Athrows cthrows y.throws ∧ (Athrows = none → cthrows = 0)) ∧ (Sl 4 Inr.rd w Ainners cinners y.inners ∧ (Ainners = none → cinners = 0)) := by
  match cs, h.1 with
  | [a0, a1, a2, a3, a4, a5, a6, a7, a8, a9, a10, a11, a12, a13, a14, a15, a16, a17], _ =>
  obtain ⟨_, h0, h1, h2, h3, h4, h5, h6⟩ := h
  obtain rfl := Option.some.inj h0
  obtain ⟨A1_0, c1_0, A1_1, c1_1, A1_2, c1_2, A1_3, c1_3, q1, s1_0, s1_1, s1_2, s1_3⟩ := Cde.leafs h1
  simp only [List.drop_succ_cons, List.drop_zero, List.take_succ_cons, List.take_zero, List.cons.injEq, and_true] at q1
  obtain ⟨rfl, rfl, rfl, rfl, rfl, rfl, rfl⟩ := q1
  obtain ⟨q0, q1, q2, q3, q4, q5⟩ := h2
  obtain rfl := Option.some.inj q0
  obtain rfl := Option.some.inj q1
  obtain rfl := Option.some.inj q2
  obtain rfl := Option.some.inj q3
  obtain rfl := Option.some.inj q4
  obtain rfl := Option.some.inj q5
  obtain ⟨A3, c3, q3, s3, z3⟩ := h3
  obtain rfl := Option.some.inj q3
  obtain ⟨A4, c4, q4, s4, z4⟩ := h4
  obtain rfl := Option.some.inj q4
  obtain rfl := Option.some.inj h5
  obtain rfl := Option.some.inj h6
  exact ⟨A1_0, c1_0, A1_1, c1_1, A1_2, c1_2, A1_3, c1_3, A3, c3, A4, c4, rfl, s1_0, s1_1, s1_2, s1_3, ⟨s3, z3⟩, ⟨s4, z4⟩⟩
set_option maxRecDepth 100000 in
theorem Mbr.leafs {w : World} {cs : List Value} {y : Mbr} (h : Mbr.rd w cs y) : ∃ (Aattrs_code_ops : Option Addr) (cattrs_code_ops : Nat) (Aattrs_code_handlers : Option Addr) (cattrs_code_handlers : Nat) (Aattrs_code_lines : Option Addr) (cattrs_code_lines : Nat) (Aattrs_code_slots : Option Addr) (cattrs_code_slots : Nat) (Aattrs_throws : Option Addr) (cattrs_throws : Nat) (Aattrs_inners : Option Addr) (cattrs_inners : Nat), cs = [.int .i64 y.flags, .string (bs y.name), .string (bs y.desc), .int .i64 y.attrs.has, .int .i64 y.attrs.code.stack, .int .i64 y.attrs.code.locals, .slice Aattrs_code_ops y.attrs.code.ops.length cattrs_code_ops, .slice Aattrs_code_handlers y.attrs.code.handlers.length cattrs_code_handlers, .int .i64 y.attrs.code.has, .slice Aattrs_code_lines y.attrs.code.lines.length cattrs_code_lines, .slice Aattrs_code_slots y.attrs.code.slots.length cattrs_code_slots, .int .i64 y.attrs.value.tag, .string (bs y.attrs.value.text), .int .u64 y.attrs.value.bits, .string (bs y.attrs.value.cls), .string (bs y.attrs.value.name), .string (bs y.attrs.value.desc), .slice Aattrs_throws y.attrs.throws.length cattrs_throws, .slice Aattrs_inners y.attrs.inners.length cattrs_inners, .string (bs y.attrs.signature), .string (bs y.attrs.source)] ∧ (Sl 12 Cins.rd w Aattrs_code_ops cattrs_code_ops y.attrs.code.ops ∧ (Aattrs_code_ops = none → cattrs_code_ops = 0)) ∧ (Sl 4 Hnd.rd w Aattrs_code_handlers cattrs_code_handlers y.attrs.code.handlers ∧ (Aattrs_code_handlers = none → cattrs_code_handlers = 0)) ∧ (Sl 2 Lno.rd w Aattrs_code_lines cattrs_code_lines y.attrs.code.lines ∧ (Aattrs_code_lines = none → cattrs_code_lines = 0)) ∧ (Sl 5 Slt.rd w Aattrs_code_slots cattrs_code_slots y.attrs.code.slots ∧ (Aattrs_code_slots = none → cattrs_code_slots = 0)) ∧ (Txt w Aattrs_throws cattrs_throws y.attrs.throws ∧ (Aattrs_throws = none → cattrs_throws = 0)) ∧ (Sl 4 Inr.rd w Aattrs_inners cattrs_inners y.attrs.inners ∧ (Aattrs_inners = none → cattrs_inners = 0)) := by
  match cs, h.1 with
  | [a0, a1, a2, a3, a4, a5, a6, a7, a8, a9, a10, a11, a12, a13, a14, a15, a16, a17, a18, a19, a20], _ =>
  obtain ⟨_, h0, h1, h2, h3⟩ := h
  obtain rfl := Option.some.inj h0
  obtain rfl := Option.some.inj h1
  obtain rfl := Option.some.inj h2
  obtain ⟨A3_0, c3_0, A3_1, c3_1, A3_2, c3_2, A3_3, c3_3, A3_4, c3_4, A3_5, c3_5, q3, s3_0, s3_1, s3_2, s3_3, s3_4, s3_5⟩ := Atr.leafs h3
  simp only [List.drop_succ_cons, List.drop_zero, List.take_succ_cons, List.take_zero, List.cons.injEq, and_true] at q3
  obtain ⟨rfl, rfl, rfl, rfl, rfl, rfl, rfl, rfl, rfl, rfl, rfl, rfl, rfl, rfl, rfl, rfl, rfl, rfl⟩ := q3
  exact ⟨A3_0, c3_0, A3_1, c3_1, A3_2, c3_2, A3_3, c3_3, A3_4, c3_4, A3_5, c3_5, rfl, s3_0, s3_1, s3_2, s3_3, s3_4, s3_5⟩
set_option maxRecDepth 100000 in
theorem Cls.leafs {w : World} {cs : List Value} {y : Cls} (h : Cls.rd w cs y) : ∃ (Afaces : Option Addr) (cfaces : Nat) (Afields : Option Addr) (cfields : Nat) (Amethods : Option Addr) (cmethods : Nat) (Aattrs_code_ops : Option Addr) (cattrs_code_ops : Nat) (Aattrs_code_handlers : Option Addr) (cattrs_code_handlers : Nat) (Aattrs_code_lines : Option Addr) (cattrs_code_lines : Nat) (Aattrs_code_slots : Option Addr) (cattrs_code_slots : Nat) (Aattrs_throws : Option Addr) (cattrs_throws : Nat) (Aattrs_inners : Option Addr) (cattrs_inners : Nat), cs = [.int .i64 y.minor, .int .i64 y.major, .int .i64 y.flags, .string (bs y.this), .string (bs y.super), .slice Afaces y.faces.length cfaces, .slice Afields y.fields.length cfields, .slice Amethods y.methods.length cmethods, .int .i64 y.attrs.has, .int .i64 y.attrs.code.stack, .int .i64 y.attrs.code.locals, .slice Aattrs_code_ops y.attrs.code.ops.length cattrs_code_ops, .slice Aattrs_code_handlers y.attrs.code.handlers.length cattrs_code_handlers, .int .i64 y.attrs.code.has, .slice Aattrs_code_lines y.attrs.code.lines.length cattrs_code_lines, .slice Aattrs_code_slots y.attrs.code.slots.length cattrs_code_slots, .int .i64 y.attrs.value.tag, .string (bs y.attrs.value.text), .int .u64 y.attrs.value.bits, .string (bs y.attrs.value.cls), .string (bs y.attrs.value.name), .string (bs y.attrs.value.desc), .slice Aattrs_throws y.attrs.throws.length cattrs_throws, .slice Aattrs_inners y.attrs.inners.length cattrs_inners, .string (bs y.attrs.signature), .string (bs y.attrs.source)] ∧ (Txt w Afaces cfaces y.faces ∧ (Afaces = none → cfaces = 0)) ∧ (Sl 21 Mbr.rd w Afields cfields y.fields ∧ (Afields = none → cfields = 0)) ∧ (Sl 21 Mbr.rd w Amethods cmethods y.methods ∧ (Amethods = none → cmethods = 0)) ∧ (Sl 12 Cins.rd w Aattrs_code_ops cattrs_code_ops y.attrs.code.ops ∧ (Aattrs_code_ops = none → cattrs_code_ops = 0)) ∧ (Sl 4 Hnd.rd w Aattrs_code_handlers cattrs_code_handlers y.attrs.code.handlers ∧ (Aattrs_code_handlers = none → cattrs_code_handlers = 0)) ∧ (Sl 2 Lno.rd w Aattrs_code_lines cattrs_code_lines y.attrs.code.lines ∧ (Aattrs_code_lines = none → cattrs_code_lines = 0)) ∧ (Sl 5 Slt.rd w Aattrs_code_slots cattrs_code_slots y.attrs.code.slots ∧ (Aattrs_code_slots = none → cattrs_code_slots = 0)) ∧ (Txt w Aattrs_throws cattrs_throws y.attrs.throws ∧ (Aattrs_throws = none → cattrs_throws = 0)) ∧ (Sl 4 Inr.rd w Aattrs_inners cattrs_inners y.attrs.inners ∧ (Aattrs_inners = none → cattrs_inners = 0)) := by
  match cs, h.1 with
  | [a0, a1, a2, a3, a4, a5, a6, a7, a8, a9, a10, a11, a12, a13, a14, a15, a16, a17, a18, a19, a20, a21, a22, a23, a24, a25], _ =>
  obtain ⟨_, h0, h1, h2, h3, h4, h5, h6, h7, h8⟩ := h
  obtain rfl := Option.some.inj h0
  obtain rfl := Option.some.inj h1
  obtain rfl := Option.some.inj h2
  obtain rfl := Option.some.inj h3
  obtain rfl := Option.some.inj h4
  obtain ⟨A5, c5, q5, s5, z5⟩ := h5
  obtain rfl := Option.some.inj q5
  obtain ⟨A6, c6, q6, s6, z6⟩ := h6
  obtain rfl := Option.some.inj q6
  obtain ⟨A7, c7, q7, s7, z7⟩ := h7
  obtain rfl := Option.some.inj q7
  obtain ⟨A8_0, c8_0, A8_1, c8_1, A8_2, c8_2, A8_3, c8_3, A8_4, c8_4, A8_5, c8_5, q8, s8_0, s8_1, s8_2, s8_3, s8_4, s8_5⟩ := Atr.leafs h8
  simp only [List.drop_succ_cons, List.drop_zero, List.take_succ_cons, List.take_zero, List.cons.injEq, and_true] at q8
  obtain ⟨rfl, rfl, rfl, rfl, rfl, rfl, rfl, rfl, rfl, rfl, rfl, rfl, rfl, rfl, rfl, rfl, rfl, rfl⟩ := q8
  exact ⟨A5, c5, A6, c6, A7, c7, A8_0, c8_0, A8_1, c8_1, A8_2, c8_2, A8_3, c8_3, A8_4, c8_4, A8_5, c8_5, rfl, ⟨s5, z5⟩, ⟨s6, z6⟩, ⟨s7, z7⟩, s8_0, s8_1, s8_2, s8_3, s8_4, s8_5⟩
end Go.Proofs.YtibogpidnnodnaaGreatDoor

/- The walks of layer 20's list: a box with two rows of its own; numbers, texts, a value. -/
namespace Go.Proofs.YtibogpidnnodnaaGreatDoor
open Go.RowKit Go.Deep

theorem Ints.src {w : World} {A : Option Addr} {c : Nat} {xs : List Int} (h : Ints w A c xs) : Src Tryz.prog 1 44 (.slice A xs.length c) xs.length (ic xs) w := by
  cases xs with
  | nil =>
    cases A with
    | none => exact Src.ofNil w Tryz.underlying44 c
    | some a => exact Src.ofSlice w Tryz.underlying44 a 0 c [] rfl (fun j u hu => by simp at hu) (fun u hu => by cases hu)
  | cons y ys =>
    obtain ⟨g, o, rfl, hg, hc⟩ := h.2 (by simp)
    refine Src.ofSlice w Tryz.underlying44 ⟨g, o, none⟩ _ c _ (by rw [ic_length, Nat.mul_one]) (fun j u hu => ?_) (fun u hu => ?_)
    · rw [addr_plus]
      simp only [ic, List.getElem?_map, Option.map_eq_some_iff] at hu
      obtain ⟨x, hx, rfl⟩ := hu
      exact hc j x hx
    · simp only [ic, List.mem_map] at hu
      obtain ⟨x, _, rfl⟩ := hu
      rfl
theorem Txt.src {w : World} {A : Option Addr} {c : Nat} {xs : List (List UInt8)} (h : Txt w A c xs) : Src Tryz.prog 1 22 (.slice A xs.length c) xs.length (sc xs) w := by
  cases xs with
  | nil =>
    cases A with
    | none => exact Src.ofNil w Tryz.underlying22 c
    | some a => exact Src.ofSlice w Tryz.underlying22 a 0 c [] rfl (fun j u hu => by simp at hu) (fun u hu => by cases hu)
  | cons y ys =>
    obtain ⟨g, o, rfl, hg, hc⟩ := h.2 (by simp)
    refine Src.ofSlice w Tryz.underlying22 ⟨g, o, none⟩ _ c _ (by rw [sc_length, Nat.mul_one]) (fun j u hu => ?_) (fun u hu => ?_)
    · rw [addr_plus]
      simp only [sc, List.getElem?_map, Option.map_eq_some_iff] at hu
      obtain ⟨x, hx, rfl⟩ := hu
      exact hc j x hx
    · simp only [sc, List.mem_map] at hu
      obtain ⟨x, _, rfl⟩ := hu
      rfl
/-- Numbers of a new block. -/
theorem ints_new {w : World} {g : Nat} {C : Array Value} {t : TypeId} {fr : Nat × Nat} (hg : w.heap[g]? = some (.cells C t fr)) (ns : List Int) (hC : C.toList = ic ns) : Ints w (some ⟨g, 0, none⟩) ns.length ns :=
  ⟨Nat.le_refl _, fun _ => ⟨g, 0, rfl, (Array.getElem?_eq_some_iff.1 hg).1, fun j x hx => by
    rw [Nat.zero_add, Lib.cell_of_heap hg, ← Array.getElem?_toList, hC]
    exact ic_get hx⟩⟩
theorem txt_new {w : World} {g : Nat} {C : Array Value} {t : TypeId} {fr : Nat × Nat} (hg : w.heap[g]? = some (.cells C t fr)) (xs : List (List UInt8)) (hC : C.toList = sc xs) : Txt w (some ⟨g, 0, none⟩) xs.length xs :=
  ⟨Nat.le_refl _, fun _ => ⟨g, 0, rfl, (Array.getElem?_eq_some_iff.1 hg).1, fun j x hx => by
    rw [Nat.zero_add, Lib.cell_of_heap hg, ← Array.getElem?_toList, hC]
    exact sc_get hx⟩⟩

theorem Txt.same {w w' : World} {A : Option Addr} {c : Nat} {xs : List (List UInt8)} (h : Txt w A c xs) (hs : w.heap.size ≤ w'.heap.size) (k : 0 < xs.length → ∀ g o, A = some ⟨g, o, none⟩ → g < w.heap.size → w'.heap[g]? = w.heap[g]?) : Txt w' A c xs :=
  ⟨h.1, fun hp => by
    obtain ⟨g, o, e, hg, hc⟩ := h.2 hp
    exact ⟨g, o, e, Nat.lt_of_lt_of_le hg hs, fun j x hx => by rw [World.cell?_of_block (k hp g o e hg)]; exact hc j x hx⟩⟩
theorem heap_off {w : World} {b g o : Nat} {u : Value} (h : g ≠ b) : (w.setCell ⟨b, o, none⟩ u).heap[g]? = w.heap[g]? := by
  simp only [World.setCell, Array.getElem?_modify]
  rw [if_neg (fun e => h e.symm)]
/-- Where a read row may lie: below the base, or in a block of texts. -/
def TxtAt (w : World) (base : Nat) (A : Option Addr) : Prop := ∀ g o, A = some ⟨g, o, none⟩ → g < base ∨ ∃ C fr, w.heap[g]? = some (.cells C 9 fr)
theorem IRow.cells_ {w : World} {base : Nat} {v : Value} {xs : List Int} (h : IRow w base v xs) {g : Nat} (hg : v.ownBlock = some g) : ∃ cur, w.heap[g]? = some (.cells cur 3 (0, 0)) := by
  rcases h.2 with ⟨h, _⟩ | ⟨g', cap, cur, h, h1, hg', _⟩
  · rw [h] at hg; simp [Value.ownBlock] at hg
  · rw [h] at hg
    simp [Value.ownBlock] at hg
    subst hg
    exact ⟨cur, hg'⟩
/-- Blocks of other types are as they were. -/
def Still (w w' : World) : Prop := ∀ (g : Nat) (C : Array Value) (e : TypeId) (fr : Nat × Nat), w.heap[g]? = some (.cells C e fr) → e ≠ 3 → e ≠ 9 → e ≠ 51 → w'.heap[g]? = some (.cells C e fr)
theorem Still.trans {w w1 w2 : World} (h : Still w w1) (k : Still w1 w2) : Still w w2 := fun g C e fr hg h1 h2 h3 => k g C e fr (h g C e fr hg h1 h2 h3) h1 h2 h3
theorem still_below {w w' : World} (k : Below w.heap.size w w') : Still w w' := fun g _ _ _ hg _ _ _ => (k.block g (Array.getElem?_eq_some_iff.1 hg).1).trans hg
theorem still_hop {w w1 : World} {base b : Nat} {e : TypeId} {size n o : Nat} {v : Value} {xs : List Value} {C0 : Array Value} {fr0 : Nat × Nat} {u : Value} {o' : Option Nat} (hv : w.ownsRow base e size v n xs) (he : e = 3 ∨ e = 9)
    (hb : w.heap[b]? = some (.cells C0 51 fr0)) (hh : Hop w w1 v.ownBlock o') : Still w (w1.setCell ⟨b, o, none⟩ u) := fun g C e' fr hg h1 h2 h3 => by
  have hgb : g ≠ b := fun e2 => by
    rw [e2, hb] at hg
    simp at hg
    exact h3 hg.2.1.symm
  have hne : some g ≠ v.ownBlock := own_ne hv hg (by rcases he with rfl | rfl <;> assumption)
  exact (heap_off hgb).trans ((hh.1.block g (Array.getElem?_eq_some_iff.1 hg).1 hne).trans hg)
/-- A list's box: two rows of its own. -/
def TBox (w : World) (base b : Nat) (t : Tl) : Prop :=
  ∃ vN vS, w.heap[b]? = some (.cells #[vN, vS] 51 (0, 0)) ∧ base ≤ b ∧ IRow w base vN t.1 ∧ TRow w base vS t.2
theorem TBox.lt {w : World} {base b : Nat} {t : Tl} (h : TBox w base b t) : b < w.heap.size := by
  obtain ⟨vN, vS, h1, _⟩ := h
  exact (Array.getElem?_eq_some_iff.1 h1).1
theorem TBox.base_le {w : World} {base b : Nat} {t : Tl} (h : TBox w base b t) : base ≤ b := by
  obtain ⟨vN, vS, _, h1, _⟩ := h
  exact h1
theorem TBox.grow {w w' : World} {base b : Nat} {t : Tl} (h : TBox w base b t) (k : Below w.heap.size w w') : TBox w' base b t := by
  have hl := h.lt
  obtain ⟨vN, vS, h1, h2, h3, h4⟩ := h
  exact ⟨vN, vS, (k.block b hl).trans h1, h2, h3.grow k, h4.grow k⟩
theorem heap_set {w : World} {b : Nat} {x y u : Value} {e : TypeId} (h : w.heap[b]? = some (.cells #[x, y] e (0, 0))) :
    (w.setCell ⟨b, 0, none⟩ u).heap[b]? = some (.cells #[u, y] e (0, 0)) ∧ (w.setCell ⟨b, 1, none⟩ u).heap[b]? = some (.cells #[x, u] e (0, 0)) := by
  constructor <;> (simp only [World.setCell, Array.getElem?_modify, if_true, h, Option.map_some]; rfl)
/-- Numbers have come. -/
theorem TBox.put0 {w w1 : World} {base b : Nat} {t : Tl} {vN vS v' : Value} {ns : List Int} (h1 : w.heap[b]? = some (.cells #[vN, vS] 51 (0, 0))) (h2 : base ≤ b) (hn : IRow w base vN t.1) (hs : TRow w base vS t.2)
    (hr : IRow w1 base v' (t.1 ++ ns)) (hh : Hop w w1 vN.ownBlock v'.ownBlock) (hbs : base ≤ w.heap.size) :
    TBox (w1.setCell ⟨b, 0, none⟩ v') base b (t.add (tlInts ns)) ∧ Below base w (w1.setCell ⟨b, 0, none⟩ v') ∧ w1.heap[b]? = some (.cells #[vN, vS] 51 (0, 0)) ∧ (∀ g, g < w.heap.size → g ≠ b → vN.ownBlock ≠ some g → (w1.setCell ⟨b, 0, none⟩ v').heap[g]? = w.heap[g]?) ∧ Still w (w1.setCell ⟨b, 0, none⟩ v') := by
  have hb : b < w.heap.size := (Array.getElem?_eq_some_iff.1 h1).1
  have hne := own_ne hn h1 (by decide)
  have hb1 : w1.heap[b]? = some (.cells #[vN, vS] 51 (0, 0)) := (hh.1.block b hb hne).trans h1
  have hs1 : TRow w1 base vS t.2 := hs.kept hh.1 (fun k hk => by
    obtain ⟨_, cur, hc⟩ := hs.cells hk
    exact fun e => own_ne hn hc (by decide) e.symm)
  refine ⟨⟨v', vS, (heap_set hb1).1, h2, ownsRow_setCell_other hr (fun e => own_ne hr hb1 (by decide) e.symm) _, ?_⟩, ?_, hb1, fun g hg hgb hgo => (heap_off hgb).trans (hh.1.block g hg (fun e => hgo e.symm)), still_hop hn (.inl rfl) h1 hh⟩
  · rw [show (t.add (tlInts ns)).2 = t.2 by simp [Tl.add, tlInts]]
    exact ownsRow_setCell_other hs1 (fun e => own_ne hs1 hb1 (by decide) e.symm) _
  · exact (hh.below hbs (fun k hk => (World.ownsRow.lt hn k hk).1)).setCell h2 _
theorem TBox.put1 {w w1 : World} {base b : Nat} {t : Tl} {vN vS v' : Value} {ss : List (List UInt8)} (h1 : w.heap[b]? = some (.cells #[vN, vS] 51 (0, 0))) (h2 : base ≤ b) (hn : IRow w base vN t.1) (hs : TRow w base vS t.2)
    (hr : TRow w1 base v' (t.2 ++ ss)) (hh : Hop w w1 vS.ownBlock v'.ownBlock) (hbs : base ≤ w.heap.size) :
    TBox (w1.setCell ⟨b, 1, none⟩ v') base b (t.add ([], ss)) ∧ Below base w (w1.setCell ⟨b, 1, none⟩ v') ∧ w1.heap[b]? = some (.cells #[vN, vS] 51 (0, 0)) ∧ Still w (w1.setCell ⟨b, 1, none⟩ v') := by
  have hb : b < w.heap.size := (Array.getElem?_eq_some_iff.1 h1).1
  have hne := own_ne hs h1 (by decide)
  have hb1 : w1.heap[b]? = some (.cells #[vN, vS] 51 (0, 0)) := (hh.1.block b hb hne).trans h1
  have hn1 : IRow w1 base vN t.1 := World.ownsRow.kept hn hh.1 (by
    cases e : vN.ownBlock with
    | none => exact .inl rfl
    | some k =>
      refine .inr (fun e2 => ?_)
      obtain ⟨cur, hc⟩ := hn.cells_ e
      exact own_ne hs hc (by decide) e2)
  refine ⟨⟨vN, v', (heap_set hb1).2, h2, ?_, ownsRow_setCell_other hr (fun e => own_ne hr hb1 (by decide) e.symm) _⟩, ?_, hb1, still_hop hs (.inr rfl) h1 hh⟩
  · rw [show (t.add ([], ss)).1 = t.1 by simp [Tl.add]]
    exact ownsRow_setCell_other hn1 (fun e => own_ne hn1 hb1 (by decide) e.symm) _
  · exact (hh.below hbs (fun k hk => (World.ownsRow.lt hs k hk).1)).setCell h2 _
/-- append of whatever numbers onto an own row. -/
theorem wpList_appI {w : World} {ops : Array Oper} {rest : List Oper} {o : Oper} {a : Act} {Q : Exit → Act → World → Prop} (hgd : o.guard = none) (s x : Operand)
    (ho : o.op = .call { callee := .builtin .append, args := #[s, x], argTypes := #[44, 44] })
    (base : Nat) (v : Value) (xs : List Int) (hv : a.eval s = v) (hown : IRow w base v xs) (X : Value) (ys : List Int) (hX : a.eval x = X)
    (hs : Src Tryz.prog 1 44 X ys.length (ic ys) w) (hn : xs.length + ys.length ≤ 1000000000000) (hbase : base ≤ w.heap.size)
    (h : ∀ v' w', IRow w' base v' (xs ++ ys) → Hop w w' v.ownBlock v'.ownBlock → wpList Tryz.prog ops Q rest (a.put o.dst v') w') : wpList Tryz.prog ops Q (o :: rest) a w := by
  obtain ⟨i0, hi, hz0, hz1, hz2⟩ := info_parts infoInt
  refine wpList_append_row hgd s x 44 44 ho base 3 i0 _ 1 8 Tryz.underlying44 hi hz0 hz1 hz2 rfl v _ _ hv hown X ys.length (ic ys) hX (fun v' w' h1 h2 => h v' w' (IRow.app h1 rfl) h2) hs ?_ ?_ hbase
  · unfold maxLen; omega
  · omega
theorem wpList_appT {w : World} {ops : Array Oper} {rest : List Oper} {o : Oper} {a : Act} {Q : Exit → Act → World → Prop} (hgd : o.guard = none) (s x : Operand)
    (ho : o.op = .call { callee := .builtin .append, args := #[s, x], argTypes := #[22, 22] })
    (base : Nat) (v : Value) (xs : List (List UInt8)) (hv : a.eval s = v) (hown : TRow w base v xs) (X : Value) (ys : List (List UInt8)) (hX : a.eval x = X)
    (hs : Src Tryz.prog 1 22 X ys.length (sc ys) w) (hn : xs.length + ys.length ≤ 1000000000000) (hbase : base ≤ w.heap.size)
    (h : ∀ v' w', TRow w' base v' (xs ++ ys) → Hop w w' v.ownBlock v'.ownBlock → wpList Tryz.prog ops Q rest (a.put o.dst v') w') : wpList Tryz.prog ops Q (o :: rest) a w := by
  obtain ⟨i0, hi, hz0, hz1, hz2⟩ := info_parts infoStr
  refine wpList_append_row hgd s x 22 22 ho base 9 i0 _ 1 16 Tryz.underlying22 hi hz0 hz1 hz2 rfl v _ _ hv hown X ys.length (sc ys) hX (fun v' w' h1 h2 => h v' w' (SRow.app h1 rfl) h2) hs ?_ ?_ hbase
  · unfold maxLen; omega
  · omega
set_option maxRecDepth 100000 in
/-- Numbers more. -/
theorem ints_tell (base b c : Nat) (A : Option Addr) (t : Tl) (ns : List Int) (w : World) (h : TBox w base b t) (hx : Ints w A c ns) (hN : t.1.length + ns.length ≤ 1000000000) (hbs : base ≤ w.heap.size) :
    Calls Tryz.prog 43 #[.pointer (some ⟨b, 0, none⟩), .slice A ns.length c] w fun e w' => e = .returned (.tuple #[]) ∧ TBox w' base b (t.add (tlInts ns)) ∧ Below base w w' ∧ Still w w' := by
  obtain ⟨vN, vS, h1, h2, hn, hs⟩ := h
  have HX := Lib.hid hx
  have HN := Lib.hid hn
  have HS := Lib.hid hs
  have HH := Lib.hid h1
  have c0 : w.cell? ⟨b, 0, none⟩ = some vN := by rw [Lib.cell_of_heap h1]; rfl
  clear hx hn hs h1
  go_enter Tryz.func43, Tryz.ntmps43
  go_wp2_with (at_builtin; refine wpList_appI rfl _ _ rfl base vN t.1 rfl HN.out _ ns rfl HX.out.src (by omega) hbs ?_; intro v1 w1 hr1 hh1; obtain ⟨p1, p2, p3, p4, p5⟩ := TBox.put0 HH.out h2 HN.out HS.out hr1 hh1 hbs; obtain ⟨A1, d1, ev1, _⟩ := hr1.reads; subst ev1; rw [List.length_append] at p1 p2 p4 p5; have P1 := Lib.hid p1; have Q1 := Lib.hid p5; have P2 := Lib.hid p2; have c1 : w1.cell? ⟨b, 0, none⟩ = some vN := (by rw [Lib.cell_of_heap p3]; rfl); have z1 : w1.frozen? ⟨b, 0, none⟩ = false := (by simp [World.frozen?, p3]); clear p1 p2 p3 p4 p5 hr1 hh1)
  go_end0
  exact ⟨rfl, P1.out, P2.out, Q1.out⟩
set_option maxRecDepth 100000 in
set_option maxHeartbeats 1000000 in
/-- Texts more, behind their number. -/
theorem texts_tell (base b c : Nat) (A : Option Addr) (t : Tl) (ss : List (List UInt8)) (w : World) (h : TBox w base b t) (hx : Txt w A c ss) (hxa : 0 < ss.length → TxtAt w base A) (hN : t.1.length + 1 ≤ 1000000000) (hS : t.2.length + ss.length ≤ 1000000000) (hbs : base ≤ w.heap.size) :
    Calls Tryz.prog 44 #[.pointer (some ⟨b, 0, none⟩), .slice A ss.length c] w fun e w' => e = .returned (.tuple #[]) ∧ TBox w' base b (t.add (tlTexts ss)) ∧ Below base w w' ∧ Still w w' := by
  have k1 := (Below.refl w.heap.size w).alloc (Nat.le_refl _) (.cells #[.int .i64 (ss.length : Int)] 3)
  have hz1 : base ≤ (w.alloc (.cells #[.int .i64 (ss.length : Int)] 3)).heap.size := Nat.le_trans hbs k1.size
  have HX := Lib.hid (hx.grow k1)
  have HXA := Lib.hid (show 0 < ss.length → TxtAt (w.alloc (.cells #[.int .i64 (ss.length : Int)] 3)) base A from fun hp g o e => by
    rcases hxa hp g o e with h | ⟨C, fr, h⟩
    · exact .inl h
    · exact .inr ⟨C, fr, (k1.block g (Array.getElem?_eq_some_iff.1 h).1).trans h⟩)
  have HI := Lib.hid (ints_new (heap_alloc_new w (.cells #[.int .i64 (ss.length : Int)] 3)) [(ss.length : Int)] rfl)
  have HK := Lib.hid (k1.mono hbs)
  have HQ := Lib.hid (still_below k1)
  have hlt := h.lt
  obtain ⟨vN, vS, h1, h2, hn, hs⟩ := h
  have c0 : w.cell? ⟨b, 0, none⟩ = some vN := by rw [Lib.cell_of_heap h1]; rfl
  have HN := Lib.hid (hn.grow k1)
  have HS := Lib.hid (hs.grow k1)
  have HH := Lib.hid ((k1.block b hlt).trans h1)
  clear hx hxa hn hs h1 k1
  go_enter Tryz.func44, Tryz.ntmps44
  go_upto_region 1 with (at_builtin; refine wpList_appI rfl _ _ rfl base vN t.1 rfl HN.out _ [(ss.length : Int)] rfl HI.out.src (by simp; omega) hz1 ?_; intro v1 w1 hr1 hh1; obtain ⟨p1, p2, p3, p4, p5⟩ := TBox.put0 HH.out h2 HN.out HS.out hr1 hh1 hz1; obtain ⟨A1, d1, ev1, _⟩ := hr1.reads; subst ev1; rw [List.length_append, show [(ss.length : Int)].length = 1 from rfl] at p1 p2 p4 p5; have P1 := Lib.hid p1; have Q1 := Lib.hid p5; have P2 := Lib.hid p2; have P4 := Lib.hid p4; have c1 : w1.cell? ⟨b, 0, none⟩ = some vN := (by rw [Lib.cell_of_heap p3]; rfl); have z1 : w1.frozen? ⟨b, 0, none⟩ = false := (by simp [World.frozen?, p3]); clear p1 p2 p3 p4 p5 hr1 hh1)
  generalize w1.setCell ⟨b, 0, none⟩ (Value.slice A1 (t.1.length + 1) d1) = x1 at P1 P2 P4 Q1 ⊢
  clear c0 c1 z1
  have HX2 := Lib.hid (HX.out.same P2.out.size (fun hp g o e hg => P4.out g hg
    (fun e2 => by
      subst e2
      rcases HXA.out hp g o e with h | ⟨C, fr, h⟩
      · omega
      · have h3 := HH.out
        rw [h] at h3
        simp at h3)
    (fun e2 => by
      rcases HXA.out hp g o e with h | ⟨C, fr, h⟩
      · have := (World.ownsRow.lt HN.out g e2).1
        omega
      · exact own_ne HN.out h (by decide) e2.symm)))
  have HZ := Lib.hid (Nat.le_trans hz1 P2.out.size)
  obtain ⟨vN2, vS2, h1b, h2b, hn2, hs2⟩ := P1.out
  have c1 : x1.cell? ⟨b, 1, none⟩ = some vS2 := by rw [Lib.cell_of_heap h1b]; rfl
  have HH2 := Lib.hid h1b
  have HN2 := Lib.hid hn2
  have HS2 := Lib.hid hs2
  have hl2 : (t.add (tlInts [(ss.length : Int)])).2.length + ss.length ≤ 1000000000000 := by
    rw [show (t.add (tlInts [(ss.length : Int)])).2 = t.2 by simp [Tl.add, tlInts]]
    omega
  have ha : (t.add (tlInts [(ss.length : Int)])).add ([], ss) = t.add (tlTexts ss) := by simp [Tl.add, tlInts, tlTexts]
  have HA := Lib.hid ha
  clear hn2 hs2 h1b HX HXA HI HN HS HH P4 P1 ha
  go_wp2_with (at_builtin; refine wpList_appT rfl _ _ rfl base vS2 _ rfl HS2.out _ ss rfl HX2.out.src hl2 HZ.out ?_; intro v2 w2 hr2 hh2; obtain ⟨p1, p2, p3, p5⟩ := TBox.put1 HH2.out h2b HN2.out HS2.out hr2 hh2 HZ.out; obtain ⟨A2, d2, ev2, _⟩ := hr2.reads; subst ev2; rw [HA.out] at p1; rw [List.length_append] at p1 p2 p5; have P5 := Lib.hid p1; have Q2 := Lib.hid p5; have P6 := Lib.hid p2; have c2 : w2.cell? ⟨b, 1, none⟩ = some vS2 := (by rw [Lib.cell_of_heap p3]; rfl); have z2 : w2.frozen? ⟨b, 1, none⟩ = false := (by simp [World.frozen?, p3]); clear p1 p2 p3 p5 hr2 hh2)
  go_end0
  exact ⟨rfl, P5.out, HK.out.trans (P2.out.trans P6.out), HQ.out.trans (Q1.out.trans Q2.out)⟩
end Go.Proofs.YtibogpidnnodnaaGreatDoor
