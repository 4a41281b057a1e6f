/- Joined texts: Vals, Cls0, Shelf, WalksA, WalksB, WalksC, Plain. -/
import Derived.Test.YtpjafbinlklojaaDoorPk1
import Derived.Test.YtpjafbinlklojaaDoorProg
import Derived.Lib.Hide
import Derived.Laws.OwnMore
import Derived.Laws.AppendOwn
import Derived.Shelf.Strings.Builder1
import Derived.Shelf.Strings.Builder2
import Derived.Shelf.Strings.OnBuilder
import Derived.Shelf.Strings.BuilderF
import Derived.Shelf.Strings.BuilderK
import Derived.Shelf.Strings.Builder2Cap
import Derived.Shelf.Strconv.Itoa0
import Derived.Shelf.Strconv.Itoa1
import Derived.Shelf.LaysM
import Derived.Shelf.Strconv.Itoa2
import Derived.Shelf.Strconv.Itoa3
import Derived.Shelf.Strings.BuilderCap
import Derived.WalkKit
import Derived.WalkSpells
import Derived.WalkLawsBesides
import Derived.Deep.QuietTactic
import Derived.BigQuiet
import Derived.Lib.Builder
import Derived.Lib.SmallJoins
/- Rows of values: six cells each; what is read, and rows of the call's own. -/
namespace Go.Proofs.YtpjafbinlklojaaDoor
open Go.RowKit

/-- A value that numbers and lengths of the machine can hold. -/
def Pv.fits (v : Pv) : Prop := I64 v.tag ∧ v.bits < 18446744073709551616 ∧ v.text.length ≤ 140737488355328 ∧ v.cls.length ≤ 140737488355328 ∧ v.name.length ≤ 140737488355328 ∧ v.desc.length ≤ 140737488355328
/-- A value as it lies in cells. -/
def vv (v : Pv) : Value := .agg #[.int .i64 v.tag, .string (bs v.text), .int .u64 v.bits, .string (bs v.cls), .string (bs v.name), .string (bs v.desc)]
def vc : List Pv → List Value
  | [] => []
  | v :: xs => .int .i64 v.tag :: .string (bs v.text) :: .int .u64 v.bits :: .string (bs v.cls) :: .string (bs v.name) :: .string (bs v.desc) :: vc xs
theorem vc_length : ∀ xs : List Pv, (vc xs).length = xs.length * 6
  | [] => rfl
  | v :: xs => by simp only [vc, List.length_cons, vc_length xs]; omega
theorem vc_append : ∀ xs ys : List Pv, vc (xs ++ ys) = vc xs ++ vc ys
  | [], ys => rfl
  | v :: xs, ys => by simp only [List.cons_append, vc, vc_append xs ys]
theorem vc_one : ∀ xs : List Pv, ∀ u ∈ vc xs, u.oneCell' = true
  | [], u, h => by simp [vc] at h
  | v :: xs, u, h => by
    simp only [vc, List.mem_cons] at h
    rcases h with rfl | rfl | rfl | rfl | rfl | rfl | h
    · rfl
    · rfl
    · rfl
    · rfl
    · rfl
    · rfl
    · exact vc_one xs u h
theorem vc_get : ∀ {xs : List Pv} {j : Nat} {v : Pv}, xs[j]? = some v → (vc xs)[j * 6]? = some (.int .i64 v.tag) ∧ (vc xs)[j * 6 + 1]? = some (.string (bs v.text)) ∧ (vc xs)[j * 6 + 2]? = some (.int .u64 v.bits) ∧
    (vc xs)[j * 6 + 3]? = some (.string (bs v.cls)) ∧ (vc xs)[j * 6 + 4]? = some (.string (bs v.name)) ∧ (vc xs)[j * 6 + 5]? = some (.string (bs v.desc))
  | [], j, v, h => by simp at h
  | q :: xs, 0, v, h => by
    simp at h
    subst h
    exact ⟨rfl, rfl, rfl, rfl, rfl, rfl⟩
  | q :: xs, j + 1, v, h => by
    have := vc_get (xs := xs) (j := j) (v := v) (by simpa using h)
    rw [show (j + 1) * 6 = j * 6 + 6 from by omega]
    simpa [vc] using this
theorem infoVal : (Tryd.prog.info? 32).map (fun i => (i.zero, i.size, i.bytes)) = some (some (.agg #[.int .i64 0, .string ⟨#[]⟩, .int .u64 0, .string ⟨#[]⟩, .string ⟨#[]⟩, .string ⟨#[]⟩]), 6, 80) := by kernel_rfl
/-- The six cells of a value. -/
def VAt (w : World) (g o : Nat) (v : Pv) : Prop :=
  w.cell? ⟨g, o, none⟩ = some (.int .i64 v.tag) ∧ w.cell? ⟨g, o + 1, none⟩ = some (.string (bs v.text)) ∧ w.cell? ⟨g, o + 2, none⟩ = some (.int .u64 v.bits) ∧
  w.cell? ⟨g, o + 3, none⟩ = some (.string (bs v.cls)) ∧ w.cell? ⟨g, o + 4, none⟩ = some (.string (bs v.name)) ∧ w.cell? ⟨g, o + 5, none⟩ = some (.string (bs v.desc))
theorem VAt.keep {w w' : World} {g o : Nat} {v : Pv} (h : VAt w g o v) {B : Nat} (k : Below B w w') (hg : g < B) : VAt w' g o v := by
  obtain ⟨h0, h1, h2, h3, h4, h5⟩ := h
  exact ⟨(k.cell (p := ⟨g, _, none⟩) hg).trans h0, (k.cell (p := ⟨g, _, none⟩) hg).trans h1, (k.cell (p := ⟨g, _, none⟩) hg).trans h2, (k.cell (p := ⟨g, _, none⟩) hg).trans h3, (k.cell (p := ⟨g, _, none⟩) hg).trans h4, (k.cell (p := ⟨g, _, none⟩) hg).trans h5⟩
/-- A box with a value. -/
def VBox (w : World) (b : Nat) (v : Pv) : Prop := w.heap[b]? = some (.cells #[.int .i64 v.tag, .string (bs v.text), .int .u64 v.bits, .string (bs v.cls), .string (bs v.name), .string (bs v.desc)] 32 (0, 0))
theorem VBox.lt {w : World} {b : Nat} {v : Pv} (h : VBox w b v) : b < w.heap.size := (Array.getElem?_eq_some_iff.1 h).1
theorem VBox.keep {w w' : World} {b : Nat} {v : Pv} (h : VBox w b v) {B : Nat} (k : Below B w w') (hb : b < B) : VBox w' b v := (k.block b hb).trans h
theorem VBox.at_ {w : World} {b : Nat} {v : Pv} (h : VBox w b v) : w.cell? ⟨b, 0, none⟩ = some (.int .i64 v.tag) ∧ w.cell? ⟨b, 1, none⟩ = some (.string (bs v.text)) ∧ w.cell? ⟨b, 2, none⟩ = some (.int .u64 v.bits) ∧
    w.cell? ⟨b, 3, none⟩ = some (.string (bs v.cls)) ∧ w.cell? ⟨b, 4, none⟩ = some (.string (bs v.name)) ∧ w.cell? ⟨b, 5, none⟩ = some (.string (bs v.desc)) :=
  ⟨(blk_facts h).1 0, (blk_facts h).1 1, (blk_facts h).1 2, (blk_facts h).1 3, (blk_facts h).1 4, (blk_facts h).1 5⟩
theorem vbox_new (w : World) (v : Pv) : VBox (w.alloc (.cells #[.int .i64 v.tag, .string (bs v.text), .int .u64 v.bits, .string (bs v.cls), .string (bs v.name), .string (bs v.desc)] 32)) w.heap.size v := heap_alloc_new _ _
/-- A row that reads as these values. -/
def Vals (w : World) (A : Option Addr) (c : Nat) (xs : List Pv) : Prop :=
  xs.length ≤ c ∧ (0 < xs.length → ∃ g o, A = some ⟨g, o, none⟩ ∧ g < w.heap.size ∧ ∀ (j : Nat) v, xs[j]? = some v → VAt w g (o + j * 6) v)
theorem Vals.keep {w w' : World} {A : Option Addr} {c : Nat} {xs : List Pv} (h : Vals w A c xs) {B : Nat} (k : Below B w w') (hB : ∀ g o, A = some ⟨g, o, none⟩ → 0 < xs.length → g < B) : Vals w' A c xs :=
  ⟨h.1, fun hp => by
    obtain ⟨g, o, e, hg, hc⟩ := h.2 hp
    exact ⟨g, o, e, Nat.lt_of_lt_of_le hg k.size, fun j x hx => (hc j x hx).keep k (hB g o e hp)⟩⟩
theorem Vals.grow {w w' : World} {A : Option Addr} {c : Nat} {xs : List Pv} (h : Vals w A c xs) (k : Below w.heap.size w w') : Vals w' A c xs :=
  h.keep k fun g o e hp => by
    obtain ⟨g', o', e', hg, _⟩ := h.2 hp
    rw [e] at e'
    cases e'
    exact hg
theorem Vals.nil (w : World) (A : Option Addr) (c : Nat) : Vals w A c [] := ⟨Nat.zero_le _, fun h => by simp at h⟩
/-- The place at i. -/
theorem Vals.at_ {w : World} {A : Option Addr} {c : Nat} {xs : List Pv} (h : Vals w A c xs) {i : Nat} (hi : i < xs.length) : ∃ g o v, A = some ⟨g, o, none⟩ ∧ g < w.heap.size ∧ xs[i]? = some v ∧ VAt w g (o + i * 6) v := by
  obtain ⟨g, o, e, hg, hc⟩ := h.2 (by omega)
  exact ⟨g, o, _, e, hg, List.getElem?_eq_getElem hi, hc i _ (List.getElem?_eq_getElem hi)⟩
def VRow (w : World) (base : Nat) (v : Value) (xs : List Pv) : Prop := w.ownsRow base 32 6 v xs.length (vc xs)
theorem VRow.grow {w w1 : World} {base : Nat} {v : Value} {xs : List Pv} (h : VRow w base v xs) (k : Below w.heap.size w w1) : VRow w1 base v xs := own_below h k
theorem VRow.nil (w : World) (base : Nat) : VRow w base (.slice none 0 0) [] := World.ownsRow_nil w base 32 6
theorem VRow.app {w : World} {base : Nat} {v : Value} {xs ys : List Pv} {n : Nat} (h : w.ownsRow base 32 6 v n (vc xs ++ vc ys)) (hn : n = xs.length + ys.length) : VRow w base v (xs ++ ys) := by
  unfold VRow
  rw [List.length_append, vc_append, ← hn]
  exact h
theorem VRow.kept {w w1 : World} {base : Nat} {v : Value} {xs : List Pv} {row : Option Nat} (h : VRow w base v xs) (g : w.grownBy w1 row) (hne : ∀ k, v.ownBlock = some k → row ≠ some k) : VRow w1 base v xs :=
  World.ownsRow.kept h g (by
    cases e : v.ownBlock with
    | none => exact .inl rfl
    | some k => exact .inr (fun e2 => hne k e e2.symm))
theorem VRow.lower {w : World} {base b' : Nat} {v : Value} {xs : List Pv} (h : VRow w base v xs) (hb : b' ≤ base) : VRow w b' v xs := by
  refine ⟨h.1, ?_⟩
  rcases h.2 with h2 | ⟨g, cap, cur, h2, h3, h4⟩
  · exact .inl h2
  · exact .inr ⟨g, cap, cur, h2, Nat.le_trans hb h3, h4⟩
theorem addr_add (g o j : Nat) : Addr.add ⟨g, o, none⟩ j = ⟨g, o + j, none⟩ := by unfold Addr.add; split <;> simp_all
theorem VRow.reads {w : World} {base : Nat} {v : Value} {xs : List Pv} (h : VRow w base v xs) : ∃ A c, v = .slice A xs.length c ∧ Vals w A c xs ∧ (∀ g o, A = some ⟨g, o, none⟩ → base ≤ g ∧ o = 0) := by
  have hc := fun (g : Nat) (hg : v.ownBlock = some g) => World.ownsRow.cells h hg
  rcases h.2 with ⟨rfl, hn⟩ | ⟨g, cap, cur, rfl, h1, h2, h3, _⟩
  · obtain rfl : xs = [] := List.eq_nil_of_length_eq_zero hn
    exact ⟨none, 0, rfl, Vals.nil _ _ _, fun g o e => by cases e⟩
  · refine ⟨_, cap, rfl, ⟨h3, fun _ => ⟨g, 0, rfl, (Array.getElem?_eq_some_iff.1 h2).1, fun j x hx => ?_⟩⟩, fun g' o e => by cases e; exact ⟨h1, rfl⟩⟩
    obtain ⟨p0, p1, p2, p3, p4, p5⟩ := vc_get hx
    have c0 := hc g rfl _ _ p0
    have c1 := hc g rfl _ _ p1
    have c2 := hc g rfl _ _ p2
    have c3 := hc g rfl _ _ p3
    have c4 := hc g rfl _ _ p4
    have c5 := hc g rfl _ _ p5
    rw [addr_add] at c0 c1 c2 c3 c4 c5
    unfold VAt
    simp only [Nat.add_assoc]
    exact ⟨c0, c1, c2, c3, c4, c5⟩
theorem VRow.base_le {w : World} {base : Nat} {v : Value} {xs : List Pv} (h : VRow w base v xs) {k : Nat} (hk : v.ownBlock = some k) : base ≤ k := (World.ownsRow.lt h k hk).1
end Go.Proofs.YtpjafbinlklojaaDoor

/- A class and what it holds: structures, what fits the machine, how much there is. Printed by mk_class.py. -/
namespace Go.Proofs.YtpjafbinlklojaaDoor
/-- How much there is of a value. -/
def Pv.blk (v : Pv) : Nat := v.text.length + v.cls.length + v.name.length + v.desc.length + 7
structure Cins where
  op : Int
  var : Int
  num : Int
  const : Pv
  to : Int
  keys : List Int
  targets : List Int
def Cins.good (y : Cins) : Prop := I64 y.op ∧ I64 y.var ∧ I64 y.num ∧ y.const.fits ∧ I64 y.to ∧ (y.keys.length ≤ 140737488355328 ∧ ∀ u ∈ y.keys, I64 u) ∧ (y.targets.length ≤ 140737488355328 ∧ ∀ u ∈ y.targets, I64 u)
def Cins.blk (y : Cins) : Nat := 1 + 1 + 1 + y.const.blk + 1 + (y.keys.length + 1) + (y.targets.length + 1) + 1
structure Hnd where
  from_ : Int
  till : Int
  to : Int
  kind : List UInt8
def Hnd.good (y : Hnd) : Prop := I64 y.from_ ∧ I64 y.till ∧ I64 y.to ∧ y.kind.length ≤ 140737488355328
def Hnd.blk (y : Hnd) : Nat := 1 + 1 + 1 + (y.kind.length + 1) + 1
structure Lno where
  at_ : Int
  line : Int
def Lno.good (y : Lno) : Prop := I64 y.at_ ∧ I64 y.line
def Lno.blk (_y : Lno) : Nat := 1 + 1 + 1
structure Slt where
  from_ : Int
  till : Int
  name : List UInt8
  desc : List UInt8
  var : Int
def Slt.good (y : Slt) : Prop := I64 y.from_ ∧ I64 y.till ∧ y.name.length ≤ 140737488355328 ∧ y.desc.length ≤ 140737488355328 ∧ I64 y.var
def Slt.blk (y : Slt) : Nat := 1 + 1 + (y.name.length + 1) + (y.desc.length + 1) + 1 + 1
structure Cde where
  stack : Int
  locals : Int
  ops : List Cins
  handlers : List Hnd
  has : Int
  lines : List Lno
  slots : List Slt
def Cde.good (y : Cde) : Prop := I64 y.stack ∧ I64 y.locals ∧ (y.ops.length ≤ 140737488355328 ∧ ∀ u ∈ y.ops, Cins.good u) ∧ (y.handlers.length ≤ 140737488355328 ∧ ∀ u ∈ y.handlers, Hnd.good u) ∧ I64 y.has ∧ (y.lines.length ≤ 140737488355328 ∧ ∀ u ∈ y.lines, Lno.good u) ∧ (y.slots.length ≤ 140737488355328 ∧ ∀ u ∈ y.slots, Slt.good u)
def Cde.blk (y : Cde) : Nat := 1 + 1 + ((y.ops.map Cins.blk).sum + 1) + ((y.handlers.map Hnd.blk).sum + 1) + 1 + ((y.lines.map Lno.blk).sum + 1) + ((y.slots.map Slt.blk).sum + 1) + 1
structure Inr where
  cls : List UInt8
  outer : List UInt8
  name : List UInt8
  flags : Int
def Inr.good (y : Inr) : Prop := y.cls.length ≤ 140737488355328 ∧ y.outer.length ≤ 140737488355328 ∧ y.name.length ≤ 140737488355328 ∧ I64 y.flags
def Inr.blk (y : Inr) : Nat := (y.cls.length + 1) + (y.outer.length + 1) + (y.name.length + 1) + 1 + 1
structure Atr where
  has : Int
  code : Cde
  value : Pv
  throws : List (List UInt8)
  inners : List Inr
  signature : List UInt8
  source : List UInt8
def Atr.good (y : Atr) : Prop := I64 y.has ∧ Cde.good y.code ∧ y.value.fits ∧ (y.throws.length ≤ 140737488355328 ∧ ∀ u ∈ y.throws, u.length ≤ 140737488355328) ∧ (y.inners.length ≤ 140737488355328 ∧ ∀ u ∈ y.inners, Inr.good u) ∧ y.signature.length ≤ 140737488355328 ∧ y.source.length ≤ 140737488355328
def Atr.blk (y : Atr) : Nat := 1 + Cde.blk y.code + y.value.blk + ((y.throws.map fun s => s.length + 1).sum + 1) + ((y.inners.map Inr.blk).sum + 1) + (y.signature.length + 1) + (y.source.length + 1) + 1
structure Mbr where
  flags : Int
  name : List UInt8
  desc : List UInt8
  attrs : Atr
def Mbr.good (y : Mbr) : Prop := I64 y.flags ∧ y.name.length ≤ 140737488355328 ∧ y.desc.length ≤ 140737488355328 ∧ Atr.good y.attrs
def Mbr.blk (y : Mbr) : Nat := 1 + (y.name.length + 1) + (y.desc.length + 1) + Atr.blk y.attrs + 1
structure Cls where
  minor : Int
  major : Int
  flags : Int
  this : List UInt8
  super : List UInt8
  faces : List (List UInt8)
  fields : List Mbr
  methods : List Mbr
  attrs : Atr
def Cls.good (y : Cls) : Prop := I64 y.minor ∧ I64 y.major ∧ I64 y.flags ∧ y.this.length ≤ 140737488355328 ∧ y.super.length ≤ 140737488355328 ∧ (y.faces.length ≤ 140737488355328 ∧ ∀ u ∈ y.faces, u.length ≤ 140737488355328) ∧ (y.fields.length ≤ 140737488355328 ∧ ∀ u ∈ y.fields, Mbr.good u) ∧ (y.methods.length ≤ 140737488355328 ∧ ∀ u ∈ y.methods, Mbr.good u) ∧ Atr.good y.attrs
def Cls.blk (y : Cls) : Nat := 1 + 1 + 1 + (y.this.length + 1) + (y.super.length + 1) + ((y.faces.map fun s => s.length + 1).sum + 1) + ((y.fields.map Mbr.blk).sum + 1) + ((y.methods.map Mbr.blk).sum + 1) + Atr.blk y.attrs + 1
end Go.Proofs.YtpjafbinlklojaaDoor

/-
  DERIVED: THE SHELF's CONTRACTS AT THIS DUMP, IN PLAIN WORDS (tools/lay-plain.mjs out of 'TrydShelf.lean', which tools/lay-shelf.mjs wrote): THE SAME DECLARATIONS UNDER THE SAME NAMES: 'import', 'namespace', 'open', 'def', 'theorem' AND NOTHING ELSE: no command of the shelf's: FOR A HAND-IN. Each laying: the table of numbers ('.._ren') and one theorem, a field a fact of the dump's own or the kernel's comparison; each contract: ONE APPLICATION.
-/
namespace Go.Proofs
open Go.Shelf
def Tryd.lays169_ren : Go.Shelf.Ren := ⟨fun | 169 => 25 | n => n, fun | 70 => 62 | 9 => 9 | 0 => 0 | 72 => 65 | 37 => 63 | 127 => 83 | 3 => 3 | 5 => 5 | n => n, fun | n => n⟩
theorem Tryd.lays169 : Go.Proofs.Lays.n169 Tryd.prog Tryd.lays169_ren := {
  mixed := by kernel_rfl
  f169 := Tryd.func25.trans (congrArg some (by kernel_rfl))
  t0 := Tryd.underlying0
  a0 := Tryd.isAgg0
  z0 := Tryd.sizeOf0
  v0 := Tryd.zeroValue0
  t3 := Tryd.underlying3
  a3 := Tryd.isAgg3
  z3 := Tryd.sizeOf3
  v3 := Tryd.zeroValue3
  t9 := Tryd.underlying9
  a9 := Tryd.isAgg9
  z9 := Tryd.sizeOf9
  v9 := Tryd.zeroValue9
  t37 := Tryd.underlying63
  a37 := Tryd.isAgg63
  z37 := Tryd.sizeOf63
  v37 := Tryd.zeroValue63
  t70 := Tryd.underlying62
  a70 := Tryd.isAgg62
  z70 := Tryd.sizeOf62
  v70 := Tryd.zeroValue62
  t72 := Tryd.underlying65
  a72 := Tryd.isAgg65
  z72 := Tryd.sizeOf65
  v72 := Tryd.zeroValue65
  t127 := Tryd.underlying83
  a127 := Tryd.isAgg83
  z127 := Tryd.sizeOf83
  v127 := Tryd.zeroValue83 }
theorem Tryd.Builder_Extra_169 : Builder.Extra Tryd.prog Tryd.lays169_ren := {
  sizeBuilder := by kernel_rfl
  liesBuilder := by kernel_rfl
  t5 := Tryd.underlying5
  a5 := Tryd.isAgg5
  z5 := Tryd.sizeOf5
  v5 := Tryd.zeroValue5
  infoByte := by kernel_rfl
  cellsByte := by kernel_rfl
  sizeByte := by kernel_rfl
  neB5 := by decide }
open Go.RowKit in
/-- (*strings.Builder).String: "String returns the accumulated string.": OF A BUILDER THAT HOLDS AT LEAST ONE BYTE. ✋ THE MODEL FREEZES THOSE BYTES IN THE BUFFER (unsafe.String): a later write INTO them ends the model's run without an answer; a later append BEHIND them goes on. The statement's order of evaluation is drawn: one draw. (LAID: no walk: one application.) -/
theorem Tryd.Builder_String (B b : Nat) (l : List UInt8) (w : World) (h : Lib.IsBuilder 65 5 B b (Lib.byteCells l) w) (h0 : l ≠ []) :
    Calls Tryd.prog 25 #[.pointer (some ⟨b, 0, none⟩)] w fun e w' => e = .returned (.string ⟨l.toArray⟩) ∧ Below B w w' := Any.Builder_String Tryd.lays169 Tryd.Builder_Extra_169 B b l w h h0
open Go.RowKit in
/-- (*strings.Builder).String OF A BUILDER THAT HOLDS NO BYTE: the empty string. (Its buffer is nil, or a row of which it has taken nothing yet; where that row has NO capacity the model lays one new block for unsafe.SliceData's 'some address'.) One draw. (LAID: no walk: one application.) -/
theorem Tryd.Builder_String_empty (B b : Nat) (w : World) (h : Lib.IsBuilder 65 5 B b [] w) (hBw : B ≤ w.heap.size) :
    Calls Tryd.prog 25 #[.pointer (some ⟨b, 0, none⟩)] w fun e w' => e = .returned (.string ⟨#[]⟩) ∧ Below B w w' := Any.Builder_String_empty Tryd.lays169 Tryd.Builder_Extra_169 B b w h hBw
open Go.RowKit in
/-- (*strings.Builder).String: "String returns the accumulated string.": WHATEVER THE BUILDER HOLDS. (LAID: no walk: one application.) -/
theorem Tryd.Builder_String_any (B b : Nat) (l : List UInt8) (w : World) (h : Lib.IsBuilder 65 5 B b (Lib.byteCells l) w) (hBw : B ≤ w.heap.size) :
    Calls Tryd.prog 25 #[.pointer (some ⟨b, 0, none⟩)] w fun e w' => e = .returned (.string ⟨l.toArray⟩) ∧ Below B w w' := Any.Builder_String_any Tryd.lays169 Tryd.Builder_Extra_169 B b l w h hBw
def Tryd.lays241_ren : Go.Shelf.Ren := ⟨fun | 241 => 50 | 277 => 56 | n => n, fun | 70 => 62 | 3 => 3 | 0 => 0 | 72 => 65 | 37 => 63 | 5 => 5 | n => n, fun | n => n⟩
theorem Tryd.lays241 : Go.Proofs.Lays.n241 Tryd.prog Tryd.lays241_ren := {
  mixed := by kernel_rfl
  f241 := Tryd.func50.trans (congrArg some (by kernel_rfl))
  f277 := Tryd.func56.trans (congrArg some (by kernel_rfl))
  t0 := Tryd.underlying0
  a0 := Tryd.isAgg0
  z0 := Tryd.sizeOf0
  v0 := Tryd.zeroValue0
  t3 := Tryd.underlying3
  a3 := Tryd.isAgg3
  z3 := Tryd.sizeOf3
  v3 := Tryd.zeroValue3
  t37 := Tryd.underlying63
  a37 := Tryd.isAgg63
  z37 := Tryd.sizeOf63
  v37 := Tryd.zeroValue63
  t70 := Tryd.underlying62
  a70 := Tryd.isAgg62
  z70 := Tryd.sizeOf62
  v70 := Tryd.zeroValue62
  t72 := Tryd.underlying65
  a72 := Tryd.isAgg65
  z72 := Tryd.sizeOf65
  v72 := Tryd.zeroValue65 }
theorem Tryd.Builder_Extra_241 : Builder.Extra Tryd.prog Tryd.lays241_ren := {
  sizeBuilder := by kernel_rfl
  liesBuilder := by kernel_rfl
  t5 := Tryd.underlying5
  a5 := Tryd.isAgg5
  z5 := Tryd.sizeOf5
  v5 := Tryd.zeroValue5
  infoByte := by kernel_rfl
  cellsByte := by kernel_rfl
  sizeByte := by kernel_rfl
  neB5 := by decide }
open Go.RowKit in
/-- (*strings.Builder).grow (no doc but "grow copies the buffer to a new, larger buffer so that there are at least n bytes of capacity beyond len(b.buf)."): AT A BUILDER WITHOUT A BUFFER: a new row of whatever bytes for its buffer, none of them its own yet. Three draws. (LAID: no walk: one application.) -/
theorem Tryd.Builder_grow_fresh (B b n : Nat) (w : World) (hB : B ≤ b) (hbk : w.heap[b]? = some (.cells #[.pointer (some ⟨b, 0, none⟩), .slice none 0 0] 65 (0, 0))) (hBw : B ≤ w.heap.size) (hn : n ≤ 281474976710656) :
    Calls Tryd.prog 50 #[.pointer (some ⟨b, 0, none⟩), .int .i64 n] w fun e w' => e = .returned (.tuple #[]) ∧ (Lib.BuilderAt 65 5 B b (.pointer (some ⟨b, 0, none⟩)) [] w' ∧ Below B w w') := Any.Builder_grow_fresh Tryd.lays241 Tryd.Builder_Extra_241 B b n w hB hbk hBw hn
def Tryd.lays165_ren : Go.Shelf.Ren := ⟨fun | 165 => 41 | 240 => 37 | 241 => 50 | 276 => 45 | 277 => 56 | n => n, fun | 70 => 62 | 3 => 3 | 0 => 0 | 4 => 4 | 9 => 9 | 20 => 20 | 72 => 65 | 37 => 63 | 164 => 91 | 5 => 5 | n => n, fun | n => n⟩
theorem Tryd.lays165 : Go.Proofs.Lays.n165 Tryd.prog Tryd.lays165_ren := {
  mixed := by kernel_rfl
  f165 := Tryd.func41.trans (congrArg some (by kernel_rfl))
  f240 := Tryd.func37.trans (congrArg some (by kernel_rfl))
  f241 := Tryd.func50.trans (congrArg some (by kernel_rfl))
  f276 := Tryd.func45.trans (congrArg some (by kernel_rfl))
  f277 := Tryd.func56.trans (congrArg some (by kernel_rfl))
  t0 := Tryd.underlying0
  a0 := Tryd.isAgg0
  z0 := Tryd.sizeOf0
  v0 := Tryd.zeroValue0
  t3 := Tryd.underlying3
  a3 := Tryd.isAgg3
  z3 := Tryd.sizeOf3
  v3 := Tryd.zeroValue3
  t4 := Tryd.underlying4
  a4 := Tryd.isAgg4
  z4 := Tryd.sizeOf4
  v4 := Tryd.zeroValue4
  t9 := Tryd.underlying9
  a9 := Tryd.isAgg9
  z9 := Tryd.sizeOf9
  v9 := Tryd.zeroValue9
  t20 := Tryd.underlying20
  a20 := Tryd.isAgg20
  z20 := Tryd.sizeOf20
  v20 := Tryd.zeroValue20
  t37 := Tryd.underlying63
  a37 := Tryd.isAgg63
  z37 := Tryd.sizeOf63
  v37 := Tryd.zeroValue63
  t70 := Tryd.underlying62
  a70 := Tryd.isAgg62
  z70 := Tryd.sizeOf62
  v70 := Tryd.zeroValue62
  t72 := Tryd.underlying65
  a72 := Tryd.isAgg65
  z72 := Tryd.sizeOf65
  v72 := Tryd.zeroValue65
  t164 := Tryd.underlying91
  a164 := Tryd.isAgg91
  z164 := Tryd.sizeOf91
  v164 := Tryd.zeroValue91 }
theorem Tryd.Builder_Extra_165 : Builder.Extra Tryd.prog Tryd.lays165_ren := {
  sizeBuilder := by kernel_rfl
  liesBuilder := by kernel_rfl
  t5 := Tryd.underlying5
  a5 := Tryd.isAgg5
  z5 := Tryd.sizeOf5
  v5 := Tryd.zeroValue5
  infoByte := by kernel_rfl
  cellsByte := by kernel_rfl
  sizeByte := by kernel_rfl
  neB5 := by decide }
open Go.RowKit in
/-- (*strings.Builder).Grow AT A BUILDER THAT HAS NOT BEEN WRITTEN ('var b strings.Builder; b.Grow(n)'): "Grow grows b's capacity, if necessary, to guarantee space for another n bytes.": it holds no byte behind it as before it. (LAID: no walk: one application.) -/
theorem Tryd.Builder_Grow_fresh (B b n : Nat) (w : World) (hB : B ≤ b) (hbk : w.heap[b]? = some (.cells #[.pointer none, .slice none 0 0] 65 (0, 0))) (hBw : B ≤ w.heap.size) (hn : n ≤ 281474976710656) :
    Calls Tryd.prog 41 #[.pointer (some ⟨b, 0, none⟩), .int .i64 n] w fun e w' => e = .returned (.tuple #[]) ∧ (Lib.BuilderAt 65 5 B b (.pointer (some ⟨b, 0, none⟩)) [] w' ∧ Below B w w') := Any.Builder_Grow_fresh Tryd.lays165 Tryd.Builder_Extra_165 B b n w hB hbk hBw hn
def Tryd.lays156_ren : Go.Shelf.Ren := ⟨fun | 156 => 30 | 165 => 41 | 166 => 42 | 169 => 25 | 240 => 37 | 241 => 50 | 276 => 45 | 277 => 56 | n => n, fun | 31 => 22 | 9 => 9 | 3 => 3 | 4 => 4 | 0 => 0 | 20 => 20 | 72 => 65 | 76 => 87 | 70 => 62 | 37 => 63 | 75 => 67 | 127 => 83 | 164 => 91 | 5 => 5 | 80 => 70 | n => n, fun | n => n⟩
theorem Tryd.lays156 : Go.Proofs.Lays.n156 Tryd.prog Tryd.lays156_ren := {
  mixed := by kernel_rfl
  f156 := Tryd.func30.trans (congrArg some (by kernel_rfl))
  f165 := Tryd.func41.trans (congrArg some (by kernel_rfl))
  f166 := Tryd.func42.trans (congrArg some (by kernel_rfl))
  f169 := Tryd.func25.trans (congrArg some (by kernel_rfl))
  f240 := Tryd.func37.trans (congrArg some (by kernel_rfl))
  f241 := Tryd.func50.trans (congrArg some (by kernel_rfl))
  f276 := Tryd.func45.trans (congrArg some (by kernel_rfl))
  f277 := Tryd.func56.trans (congrArg some (by kernel_rfl))
  t0 := Tryd.underlying0
  a0 := Tryd.isAgg0
  z0 := Tryd.sizeOf0
  v0 := Tryd.zeroValue0
  t3 := Tryd.underlying3
  a3 := Tryd.isAgg3
  z3 := Tryd.sizeOf3
  v3 := Tryd.zeroValue3
  t4 := Tryd.underlying4
  a4 := Tryd.isAgg4
  z4 := Tryd.sizeOf4
  v4 := Tryd.zeroValue4
  t9 := Tryd.underlying9
  a9 := Tryd.isAgg9
  z9 := Tryd.sizeOf9
  v9 := Tryd.zeroValue9
  t20 := Tryd.underlying20
  a20 := Tryd.isAgg20
  z20 := Tryd.sizeOf20
  v20 := Tryd.zeroValue20
  t31 := Tryd.underlying22
  a31 := Tryd.isAgg22
  z31 := Tryd.sizeOf22
  v31 := Tryd.zeroValue22
  t37 := Tryd.underlying63
  a37 := Tryd.isAgg63
  z37 := Tryd.sizeOf63
  v37 := Tryd.zeroValue63
  t70 := Tryd.underlying62
  a70 := Tryd.isAgg62
  z70 := Tryd.sizeOf62
  v70 := Tryd.zeroValue62
  t72 := Tryd.underlying65
  a72 := Tryd.isAgg65
  z72 := Tryd.sizeOf65
  v72 := Tryd.zeroValue65
  t75 := Tryd.underlying67
  a75 := Tryd.isAgg67
  z75 := Tryd.sizeOf67
  v75 := Tryd.zeroValue67
  t76 := Tryd.underlying87
  a76 := Tryd.isAgg87
  z76 := Tryd.sizeOf87
  v76 := Tryd.zeroValue87
  t127 := Tryd.underlying83
  a127 := Tryd.isAgg83
  z127 := Tryd.sizeOf83
  v127 := Tryd.zeroValue83
  t164 := Tryd.underlying91
  a164 := Tryd.isAgg91
  z164 := Tryd.sizeOf91
  v164 := Tryd.zeroValue91 }
theorem Tryd.Builder_Extra_156 : Builder.Extra Tryd.prog Tryd.lays156_ren := {
  sizeBuilder := by kernel_rfl
  liesBuilder := by kernel_rfl
  t5 := Tryd.underlying5
  a5 := Tryd.isAgg5
  z5 := Tryd.sizeOf5
  v5 := Tryd.zeroValue5
  infoByte := by kernel_rfl
  cellsByte := by kernel_rfl
  sizeByte := by kernel_rfl
  neB5 := by decide }
open Go.RowKit in
/-- No element: the empty string; the world is as it was. (Whatever the slice's address and capacity: a nil slice too.) (LAID: no walk: one application.) -/
theorem Tryd.strings_Join_none (a : Option Addr) (c : Nat) (sep : ByteArray) (w : World) :
    Calls Tryd.prog 30 #[.slice a 0 c, .string sep] w fun e w' => e = .returned (.string ⟨#[]⟩) ∧ w' = w := Any.strings_Join_none Tryd.lays156 Tryd.Builder_Extra_156 a c sep w
open Go.RowKit in
/-- strings.Join: "Join concatenates the elements of its first argument to create a single string. The separator string sep is placed between elements in the resulting string.": HOWEVER MANY ELEMENTS. Below the heap's end the world is as it was. (LAID: no walk: one application.) -/
theorem Tryd.strings_Join (bk o c : Nat) (xs : List ByteArray) (sep : ByteArray) (w : World) (hcells : ∀ (j : Nat) x, xs[j]? = some x → w.cell? ⟨bk, o + j, none⟩ = some (.string x)) (hbk : bk < w.heap.size) (hN : xs.length ≤ 140737488355328) (hcap : xs.length ≤ c) (hlen : (Lib.join (xs.map (·.data.toList)) sep.data.toList).length ≤ 140737488355328) :
    Calls Tryd.prog 30 #[.slice (some ⟨bk, o, none⟩) xs.length c, .string sep] w fun e w' => e = .returned (.string ⟨(Lib.join (xs.map (·.data.toList)) sep.data.toList).toArray⟩) ∧ Below w.heap.size w w' := Any.strings_Join Tryd.lays156 Tryd.Builder_Extra_156 bk o c xs sep w hcells hbk hN hcap hlen
open Go.RowKit in
/-- (*strings.Builder).String: "String returns the accumulated string.": OF A BUILDER THAT HOLDS AT LEAST ONE BYTE. ✋ THE MODEL FREEZES THOSE BYTES IN THE BUFFER (unsafe.String): a later write INTO them ends the model's run without an answer; a later append BEHIND them goes on. The statement's order of evaluation is drawn: one draw. THE FORM '_f': IT SAYS BESIDES THAT THE BUILDER IS A BUILDER STILL ('Lib.IsBuilderF', the same bytes): SO IT CAN BE WRITTEN ON: 'b.WriteString(b.String()[:k])'. (LAID: no walk: one application.) -/
theorem Tryd.Builder_String_f (B b : Nat) (l : List UInt8) (w : World) (h : Lib.IsBuilderF 65 5 B b (Lib.byteCells l) w) (h0 : l ≠ []) :
    Calls Tryd.prog 25 #[.pointer (some ⟨b, 0, none⟩)] w fun e w' => e = .returned (.string ⟨l.toArray⟩) ∧ (Lib.IsBuilderF 65 5 B b (Lib.byteCells l) w' ∧ Below B w w') := Any.Builder_String_f Tryd.lays169 Tryd.Builder_Extra_169 B b l w h h0
open Go.RowKit in
/-- (*strings.Builder).String OF A BUILDER THAT HOLDS NO BYTE: the empty string; THE FORM '_f': a builder still. (LAID: no walk: one application.) -/
theorem Tryd.Builder_String_empty_f (B b : Nat) (w : World) (h : Lib.IsBuilderF 65 5 B b [] w) (hBw : B ≤ w.heap.size) :
    Calls Tryd.prog 25 #[.pointer (some ⟨b, 0, none⟩)] w fun e w' => e = .returned (.string ⟨#[]⟩) ∧ (Lib.IsBuilderF 65 5 B b [] w' ∧ Below B w w') := Any.Builder_String_empty_f Tryd.lays169 Tryd.Builder_Extra_169 B b w h hBw
open Go.RowKit in
/-- (*strings.Builder).String: "String returns the accumulated string.": WHATEVER THE BUILDER HOLDS; THE FORM '_f': OF A BUILDER THAT MAY HAVE BEEN READ BEFORE; AND IT IS A BUILDER STILL, holding the same bytes: it can be written on. (LAID: no walk: one application.) -/
theorem Tryd.Builder_String_any_f (B b : Nat) (l : List UInt8) (w : World) (h : Lib.IsBuilderF 65 5 B b (Lib.byteCells l) w) (hBw : B ≤ w.heap.size) :
    Calls Tryd.prog 25 #[.pointer (some ⟨b, 0, none⟩)] w fun e w' => e = .returned (.string ⟨l.toArray⟩) ∧ (Lib.IsBuilderF 65 5 B b (Lib.byteCells l) w' ∧ Below B w w') := Any.Builder_String_any_f Tryd.lays169 Tryd.Builder_Extra_169 B b l w h hBw
open Go.RowKit in
/-- (*strings.Builder).String: "String returns the accumulated string.": OF A BUILDER THAT HOLDS AT LEAST ONE BYTE. ✋ THE MODEL FREEZES THOSE BYTES IN THE BUFFER (unsafe.String): a later write INTO them ends the model's run without an answer; a later append BEHIND them goes on. The statement's order of evaluation is drawn: one draw. THE FORM '_k': OVER 'Lib.IsBuilderF' (a builder that 'String()' may have read), AND WITH THE FRAME THAT REACHES ABOVE THE BUILDER: 'Lib.OthersKept': every block that is not b and is no row of uint8's stands as it stood: the iterator of a range among them. (LAID: no walk: one application.) -/
theorem Tryd.Builder_String_k (B b : Nat) (l : List UInt8) (w : World) (h : Lib.IsBuilderF 65 5 B b (Lib.byteCells l) w) (h0 : l ≠ []) :
    Calls Tryd.prog 25 #[.pointer (some ⟨b, 0, none⟩)] w fun e w' => e = .returned (.string ⟨l.toArray⟩) ∧ (Lib.IsBuilderF 65 5 B b (Lib.byteCells l) w' ∧ Below B w w' ∧ Lib.OthersKept 5 (some b) w w') := Any.Builder_String_k Tryd.lays169 Tryd.Builder_Extra_169 B b l w h h0
open Go.RowKit in
/-- (*strings.Builder).String OF A BUILDER THAT HOLDS NO BYTE: the empty string; THE FORM '_k': OVER 'Lib.IsBuilderF' (a builder that 'String()' may have read), AND WITH THE FRAME THAT REACHES ABOVE THE BUILDER: 'Lib.OthersKept': every block that is not b and is no row of uint8's stands as it stood: the iterator of a range among them. (LAID: no walk: one application.) -/
theorem Tryd.Builder_String_empty_k (B b : Nat) (w : World) (h : Lib.IsBuilderF 65 5 B b [] w) (hBw : B ≤ w.heap.size) :
    Calls Tryd.prog 25 #[.pointer (some ⟨b, 0, none⟩)] w fun e w' => e = .returned (.string ⟨#[]⟩) ∧ (Lib.IsBuilderF 65 5 B b [] w' ∧ Below B w w' ∧ Lib.OthersKept 5 (some b) w w') := Any.Builder_String_empty_k Tryd.lays169 Tryd.Builder_Extra_169 B b w h hBw
open Go.RowKit in
/-- (*strings.Builder).String: "String returns the accumulated string.": WHATEVER THE BUILDER HOLDS; THE FORM '_k': OVER 'Lib.IsBuilderF' (a builder that 'String()' may have read), AND WITH THE FRAME THAT REACHES ABOVE THE BUILDER: 'Lib.OthersKept': every block that is not b and is no row of uint8's stands as it stood: the iterator of a range among them. (LAID: no walk: one application.) -/
theorem Tryd.Builder_String_any_k (B b : Nat) (l : List UInt8) (w : World) (h : Lib.IsBuilderF 65 5 B b (Lib.byteCells l) w) (hBw : B ≤ w.heap.size) :
    Calls Tryd.prog 25 #[.pointer (some ⟨b, 0, none⟩)] w fun e w' => e = .returned (.string ⟨l.toArray⟩) ∧ (Lib.IsBuilderF 65 5 B b (Lib.byteCells l) w' ∧ Below B w w' ∧ Lib.OthersKept 5 (some b) w w') := Any.Builder_String_any_k Tryd.lays169 Tryd.Builder_Extra_169 B b l w h hBw
open Go.RowKit in
/-- (*strings.Builder).grow (no doc but "grow copies the buffer to a new, larger buffer so that there are at least n bytes of capacity beyond len(b.buf)."): AT A BUILDER WITHOUT A BUFFER: a new row of whatever bytes for its buffer, none of them its own yet. Three draws. (LAID: no walk: one application.) -/
theorem Tryd.Builder_grow_fresh_cap (B b n : Nat) (w : World) (hB : B ≤ b) (hbk : w.heap[b]? = some (.cells #[.pointer (some ⟨b, 0, none⟩), .slice none 0 0] 65 (0, 0))) (hBw : B ≤ w.heap.size) (hn : n ≤ 281474976710656) :
    Calls Tryd.prog 50 #[.pointer (some ⟨b, 0, none⟩), .int .i64 n] w fun e w' => e = .returned (.tuple #[]) ∧ (Lib.BuilderAt 65 5 B b (.pointer (some ⟨b, 0, none⟩)) [] w' ∧ Below B w w') ∧ ∃ p cap, w'.cell? ⟨b, 1, none⟩ = some (.slice p 0 cap) ∧ n ≤ cap := Any.Builder_grow_fresh_cap Tryd.lays241 Tryd.Builder_Extra_241 B b n w hB hbk hBw hn
open Go.RowKit in
/-- (*strings.Builder).Grow AT A BUILDER THAT HAS NOT BEEN WRITTEN ('var b strings.Builder; b.Grow(n)'): "Grow grows b's capacity, if necessary, to guarantee space for another n bytes.": it holds no byte behind it as before it. (LAID: no walk: one application.) -/
theorem Tryd.Builder_Grow_fresh_cap (B b n : Nat) (w : World) (hB : B ≤ b) (hbk : w.heap[b]? = some (.cells #[.pointer none, .slice none 0 0] 65 (0, 0))) (hBw : B ≤ w.heap.size) (hn : n ≤ 281474976710656) :
    Calls Tryd.prog 41 #[.pointer (some ⟨b, 0, none⟩), .int .i64 n] w fun e w' => e = .returned (.tuple #[]) ∧ (Lib.BuilderAt 65 5 B b (.pointer (some ⟨b, 0, none⟩)) [] w' ∧ Below B w w') ∧ ∃ p cap, w'.cell? ⟨b, 1, none⟩ = some (.slice p 0 cap) ∧ n ≤ cap := Any.Builder_Grow_fresh_cap Tryd.lays165 Tryd.Builder_Extra_165 B b n w hB hbk hBw hn
def Tryd.lays129_ren : Go.Shelf.Ren := ⟨fun | 129 => 52 | n => n, fun | 53 => 30 | 3 => 3 | 4 => 4 | 46 => 69 | 5 => 5 | 9 => 9 | n => n, fun | n => n⟩
theorem Tryd.lays129 : Go.Proofs.Lays.n129 Tryd.prog Tryd.lays129_ren := {
  mixed := by kernel_rfl
  f129 := Tryd.func52.trans (congrArg some (by kernel_rfl))
  t3 := Tryd.underlying3
  a3 := Tryd.isAgg3
  z3 := Tryd.sizeOf3
  v3 := Tryd.zeroValue3
  t4 := Tryd.underlying4
  a4 := Tryd.isAgg4
  z4 := Tryd.sizeOf4
  v4 := Tryd.zeroValue4
  t5 := Tryd.underlying5
  a5 := Tryd.isAgg5
  z5 := Tryd.sizeOf5
  v5 := Tryd.zeroValue5
  t9 := Tryd.underlying9
  a9 := Tryd.isAgg9
  z9 := Tryd.sizeOf9
  v9 := Tryd.zeroValue9
  t46 := Tryd.underlying69
  a46 := Tryd.isAgg69
  z46 := Tryd.sizeOf69
  v46 := Tryd.zeroValue69
  t53 := Tryd.underlying30
  a53 := Tryd.isAgg30
  z53 := Tryd.sizeOf30
  v53 := Tryd.zeroValue30 }
/-- bits.Len64: "Len64 returns the minimum number of bits required to represent x; the result is 0 for x == 0.": IT RETURNS 'Lib.bitLen x'; the world is as it was. ('h0', 'h1': x is a uint64.) (LAID: no walk: one application.) -/
theorem Tryd.bits_Len64 (x : Int) (w : World) (h0 : 0 ≤ x) (h1 : x ≤ 18446744073709551615) :
    Calls Tryd.prog 52 #[.int .u64 x] w fun e w' => e = .returned (.int .i64 (Lib.bitLen x.toNat)) ∧ w' = w := Any.bits_Len64 Tryd.lays129 x w h0 h1
def Tryd.lays317_ren : Go.Shelf.Ren := ⟨fun | 317 => 51 | n => n, fun | 3 => 3 | 46 => 69 | n => n, fun | n => n⟩
theorem Tryd.lays317 : Go.Proofs.Lays.n317 Tryd.prog Tryd.lays317_ren := {
  mixed := by kernel_rfl
  f317 := Tryd.func51.trans (congrArg some (by kernel_rfl))
  t3 := Tryd.underlying3
  a3 := Tryd.isAgg3
  z3 := Tryd.sizeOf3
  v3 := Tryd.zeroValue3
  t46 := Tryd.underlying69
  a46 := Tryd.isAgg69
  z46 := Tryd.sizeOf69
  v46 := Tryd.zeroValue69 }
open Go.Lib in
/-- internal/strconv.log10Pow2: "log10Pow2(x) returns ⌊log₁₀ 2**x⌋ = ⌊x * log₁₀ 2⌋.": '(x * 78913) >> 18', at an x up to 64 (a length in bits). The world is as it was. (LAID: no walk: one application.) -/
theorem Tryd.internal_strconv_log10Pow2 (x : Nat) (h : x ≤ 64) (w : World) :
    Calls Tryd.prog 51 #[.int .i64 x] w fun e w' => e = .returned (.int .i64 (Lib.l10 x)) ∧ w' = w := Any.internal_strconv_log10Pow2 Tryd.lays317 x h w
def Tryd.lays318_ren : Go.Shelf.Ren := ⟨fun | 318 => 53 | n => n, fun | 3 => 3 | 4 => 4 | n => n, fun | n => n⟩
theorem Tryd.lays318 : Go.Proofs.Lays.n318 Tryd.prog Tryd.lays318_ren := {
  mixed := by kernel_rfl
  f318 := Tryd.func53.trans (congrArg some (by kernel_rfl))
  t3 := Tryd.underlying3
  a3 := Tryd.isAgg3
  z3 := Tryd.sizeOf3
  v3 := Tryd.zeroValue3
  t4 := Tryd.underlying4
  a4 := Tryd.isAgg4
  z4 := Tryd.sizeOf4
  v4 := Tryd.zeroValue4 }
open Go.Lib in
/-- internal/strconv.bool2: "bool2 converts b to an integer: 1 for true, 0 for false." The world is as it was. (LAID: no walk: one application.) -/
theorem Tryd.internal_strconv_bool2_int (b : Bool) (w : World) :
    Calls Tryd.prog 53 #[.bool b] w fun e w' => e = .returned (.int .i64 (if b then 1 else 0)) ∧ w' = w := Any.internal_strconv_bool2_int Tryd.lays318 b w
def Tryd.lays283_ren : Go.Shelf.Ren := ⟨fun | 283 => 46 | n => n, fun | 3 => 3 | 9 => 9 | 4 => 4 | n => n, fun | n => n⟩
theorem Tryd.lays283 : Go.Proofs.Lays.n283 Tryd.prog Tryd.lays283_ren := {
  mixed := by kernel_rfl
  f283 := Tryd.func46.trans (congrArg some (by kernel_rfl))
  t3 := Tryd.underlying3
  a3 := Tryd.isAgg3
  z3 := Tryd.sizeOf3
  v3 := Tryd.zeroValue3
  t4 := Tryd.underlying4
  a4 := Tryd.isAgg4
  z4 := Tryd.sizeOf4
  v4 := Tryd.zeroValue4
  t9 := Tryd.underlying9
  a9 := Tryd.isAgg9
  z9 := Tryd.sizeOf9
  v9 := Tryd.zeroValue9 }
open Go.Lib in
/-- internal/strconv.small: "small returns the string for an i with 0 <= i < nSmalls.": i's decimal numeral. The world is as it was. (LAID: no walk: one application.) -/
theorem Tryd.internal_strconv_small (i : Nat) (h : i < 100) (w : World) :
    Calls Tryd.prog 46 #[.int .i64 i] w fun e w' => e = .returned (.string ⟨(Lib.decDigits i).toArray⟩) ∧ w' = w := Any.internal_strconv_small Tryd.lays283 i h w
def Tryd.laysM284_ren : Go.Shelf.Ren := ⟨fun | 284 => 47 | 129 => 52 | 317 => 51 | 318 => 53 | n => n, fun | 53 => 30 | 3 => 3 | 212 => 100 | 0 => 0 | 4 => 4 | 46 => 69 | 5 => 5 | 9 => 9 | n => n, fun | 17 => 0 | n => n⟩
theorem Tryd.laysM284 : Go.Proofs.LaysM.n284 Tryd.prog Tryd.laysM284_ren := {
  mixed := by kernel_rfl
  f129 := Tryd.func52.trans (congrArg some (by kernel_rfl))
  f284 := Tryd.func47.trans (congrArg some (by kernel_rfl))
  f317 := Tryd.func51.trans (congrArg some (by kernel_rfl))
  f318 := Tryd.func53.trans (congrArg some (by kernel_rfl))
  t0 := Tryd.underlying0
  a0 := Tryd.isAgg0
  z0 := Tryd.sizeOf0
  v0 := Tryd.zeroValue0
  t3 := Tryd.underlying3
  a3 := Tryd.isAgg3
  z3 := Tryd.sizeOf3
  v3 := Tryd.zeroValue3
  t4 := Tryd.underlying4
  a4 := Tryd.isAgg4
  z4 := Tryd.sizeOf4
  v4 := Tryd.zeroValue4
  t5 := Tryd.underlying5
  a5 := Tryd.isAgg5
  z5 := Tryd.sizeOf5
  v5 := Tryd.zeroValue5
  t9 := Tryd.underlying9
  a9 := Tryd.isAgg9
  z9 := Tryd.sizeOf9
  v9 := Tryd.zeroValue9
  t46 := Tryd.underlying69
  a46 := Tryd.isAgg69
  z46 := Tryd.sizeOf69
  v46 := Tryd.zeroValue69
  t53 := Tryd.underlying30
  a53 := Tryd.isAgg30
  z53 := Tryd.sizeOf30
  v53 := Tryd.zeroValue30
  t212 := Tryd.underlying100
  a212 := Tryd.isAgg100
  z212 := Tryd.sizeOf100
  v212 := Tryd.zeroValue100
  g17 := by kernel_rfl
  i0 := by kernel_rfl
  i3 := by kernel_rfl
  i4 := by kernel_rfl
  i5 := by kernel_rfl
  i9 := by kernel_rfl
  i46 := by kernel_rfl
  i53 := by kernel_rfl
  i212 := by kernel_rfl
  m17 := by kernel_rfl }
open Go.Lib in
/-- internal/strconv.numDigits, at a d that is not 0: THE NUMBER OF d's DECIMAL DIGITS. The world is as it was. (LAID: no walk: one application.) -/
theorem Tryd.internal_strconv_numDigits (u : Nat) (h1 : 1 ≤ u) (h2 : u < 18446744073709551616) (w : World) (htab : Lib.TabIs Tryd.prog w "internal/strconv.uint64pow10" .u64 Lib.pow10Tab) :
    Calls Tryd.prog 47 #[.int .u64 u] w fun e w' => e = .returned (.int .i64 (Lib.nDigits u)) ∧ w' = w := Any.internal_strconv_numDigits Tryd.laysM284 u h1 h2 w htab
def Tryd.lays285_ren : Go.Shelf.Ren := ⟨fun | 285 => 48 | n => n, fun | 37 => 63 | 53 => 30 | 3 => 3 | 4 => 4 | 51 => 101 | 9 => 9 | 5 => 5 | 0 => 0 | n => n, fun | n => n⟩
theorem Tryd.lays285 : Go.Proofs.Lays.n285 Tryd.prog Tryd.lays285_ren := {
  mixed := by kernel_rfl
  f285 := Tryd.func48.trans (congrArg some (by kernel_rfl))
  t0 := Tryd.underlying0
  a0 := Tryd.isAgg0
  z0 := Tryd.sizeOf0
  v0 := Tryd.zeroValue0
  t3 := Tryd.underlying3
  a3 := Tryd.isAgg3
  z3 := Tryd.sizeOf3
  v3 := Tryd.zeroValue3
  t4 := Tryd.underlying4
  a4 := Tryd.isAgg4
  z4 := Tryd.sizeOf4
  v4 := Tryd.zeroValue4
  t5 := Tryd.underlying5
  a5 := Tryd.isAgg5
  z5 := Tryd.sizeOf5
  v5 := Tryd.zeroValue5
  t9 := Tryd.underlying9
  a9 := Tryd.isAgg9
  z9 := Tryd.sizeOf9
  v9 := Tryd.zeroValue9
  t37 := Tryd.underlying63
  a37 := Tryd.isAgg63
  z37 := Tryd.sizeOf63
  v37 := Tryd.zeroValue63
  t51 := Tryd.underlying101
  a51 := Tryd.isAgg101
  z51 := Tryd.sizeOf101
  v51 := Tryd.zeroValue101
  t53 := Tryd.underlying30
  a53 := Tryd.isAgg30
  z53 := Tryd.sizeOf30
  v53 := Tryd.zeroValue30 }
open Go.RowKit Go.Sort Go.Lib in
/-- internal/strconv.formatBase10: "formatBase10 formats the decimal representation of u into a. The caller is responsible for ensuring that a is big enough to hold u. If a is too big, leading zeros will be filled in as needed.": THE ROW HOLDS u's DIGITS ('FmtInv .. 0 ..': every place t holds 'dg u (len - 1 - t)'); all else is as it was but for the count of draws. (LAID: no walk: one application.) -/
theorem Tryd.internal_strconv_formatBase10 (blk off cap : Nat) (u : Nat) (d : Array UInt8) (w : World) (hH : Holds (fun (b : UInt8) => Value.int .u8 (b.toNat : Int)) w blk off d) (hu : u < 10 ^ d.size) (hu64 : u < 18446744073709551616) (hsz : d.size < 4611686018427387904) :
    Calls Tryd.prog 48 #[.slice (some ⟨blk, off, none⟩) d.size cap, .int .u64 u] w fun e w' =>
      e = .returned (.tuple #[]) ∧ ∃ (n v' : Nat) (dk : Array UInt8), w' = (putRow (fun (b : UInt8) => Value.int .u8 (b.toNat : Int)) w blk off dk).drewN n ∧ FmtInv d.size u 0 v' dk := Any.internal_strconv_formatBase10 Tryd.lays285 blk off cap u d w hH hu hu64 hsz
def Tryd.laysM246_ren : Go.Shelf.Ren := ⟨fun | 246 => 43 | 283 => 46 | 284 => 47 | 285 => 48 | 286 => 49 | 129 => 52 | 317 => 51 | 318 => 53 | 319 => 54 | 320 => 55 | 337 => 57 | 338 => 58 | n => n, fun | 2 => 2 | 3 => 3 | 9 => 9 | 4 => 4 | 171 => 93 | 0 => 0 | 53 => 30 | 37 => 63 | 5 => 5 | 173 => 96 | 212 => 100 | 51 => 101 | 20 => 20 | 213 => 102 | 46 => 69 | 232 => 107 | 233 => 108 | n => n, fun | 17 => 0 | 18 => 2 | 19 => 3 | n => n⟩
theorem Tryd.laysM246 : Go.Proofs.LaysM.n246 Tryd.prog Tryd.laysM246_ren := {
  mixed := by kernel_rfl
  f129 := Tryd.func52.trans (congrArg some (by kernel_rfl))
  f246 := Tryd.func43.trans (congrArg some (by kernel_rfl))
  f283 := Tryd.func46.trans (congrArg some (by kernel_rfl))
  f284 := Tryd.func47.trans (congrArg some (by kernel_rfl))
  f285 := Tryd.func48.trans (congrArg some (by kernel_rfl))
  f286 := Tryd.func49.trans (congrArg some (by kernel_rfl))
  f317 := Tryd.func51.trans (congrArg some (by kernel_rfl))
  f318 := Tryd.func53.trans (congrArg some (by kernel_rfl))
  f319 := Tryd.func54.trans (congrArg some (by kernel_rfl))
  f320 := Tryd.func55.trans (congrArg some (by kernel_rfl))
  f337 := Tryd.func57.trans (congrArg some (by kernel_rfl))
  f338 := Tryd.func58.trans (congrArg some (by kernel_rfl))
  t0 := Tryd.underlying0
  a0 := Tryd.isAgg0
  z0 := Tryd.sizeOf0
  v0 := Tryd.zeroValue0
  t2 := Tryd.underlying2
  a2 := Tryd.isAgg2
  z2 := Tryd.sizeOf2
  v2 := Tryd.zeroValue2
  t3 := Tryd.underlying3
  a3 := Tryd.isAgg3
  z3 := Tryd.sizeOf3
  v3 := Tryd.zeroValue3
  t4 := Tryd.underlying4
  a4 := Tryd.isAgg4
  z4 := Tryd.sizeOf4
  v4 := Tryd.zeroValue4
  t5 := Tryd.underlying5
  a5 := Tryd.isAgg5
  z5 := Tryd.sizeOf5
  v5 := Tryd.zeroValue5
  t9 := Tryd.underlying9
  a9 := Tryd.isAgg9
  z9 := Tryd.sizeOf9
  v9 := Tryd.zeroValue9
  t20 := Tryd.underlying20
  a20 := Tryd.isAgg20
  z20 := Tryd.sizeOf20
  v20 := Tryd.zeroValue20
  t37 := Tryd.underlying63
  a37 := Tryd.isAgg63
  z37 := Tryd.sizeOf63
  v37 := Tryd.zeroValue63
  t46 := Tryd.underlying69
  a46 := Tryd.isAgg69
  z46 := Tryd.sizeOf69
  v46 := Tryd.zeroValue69
  t51 := Tryd.underlying101
  a51 := Tryd.isAgg101
  z51 := Tryd.sizeOf101
  v51 := Tryd.zeroValue101
  t53 := Tryd.underlying30
  a53 := Tryd.isAgg30
  z53 := Tryd.sizeOf30
  v53 := Tryd.zeroValue30
  t171 := Tryd.underlying93
  a171 := Tryd.isAgg93
  z171 := Tryd.sizeOf93
  v171 := Tryd.zeroValue93
  t173 := Tryd.underlying96
  a173 := Tryd.isAgg96
  z173 := Tryd.sizeOf96
  v173 := Tryd.zeroValue96
  t212 := Tryd.underlying100
  a212 := Tryd.isAgg100
  z212 := Tryd.sizeOf100
  v212 := Tryd.zeroValue100
  t213 := Tryd.underlying102
  a213 := Tryd.isAgg102
  z213 := Tryd.sizeOf102
  t232 := Tryd.underlying107
  a232 := Tryd.isAgg107
  z232 := Tryd.sizeOf107
  v232 := Tryd.zeroValue107
  t233 := Tryd.underlying108
  a233 := Tryd.isAgg108
  z233 := Tryd.sizeOf108
  v233 := Tryd.zeroValue108
  g17 := by kernel_rfl
  g18 := by kernel_rfl
  g19 := by kernel_rfl
  i0 := by kernel_rfl
  i2 := by kernel_rfl
  i3 := by kernel_rfl
  i4 := by kernel_rfl
  i5 := by kernel_rfl
  i9 := by kernel_rfl
  i20 := by kernel_rfl
  i37 := by kernel_rfl
  i46 := by kernel_rfl
  i51 := by kernel_rfl
  i53 := by kernel_rfl
  i171 := by kernel_rfl
  i173 := by kernel_rfl
  i212 := by kernel_rfl
  i232 := by kernel_rfl
  i233 := by kernel_rfl
  m17 := by kernel_rfl
  m18 := by kernel_rfl
  m19 := by kernel_rfl }
open Go.RowKit Go.Sort Go.Lib in
/-- internal/strconv.FormatInt: "FormatInt returns the string representation of i in the given base": AT BASE 10: i's decimal numeral, for every int64. The world behind the call: the world before it, new blocks behind the heap, draws. (LAID: no walk: one application.) -/
theorem Tryd.internal_strconv_FormatInt_10 (n : Int) (h0 : -9223372036854775808 ≤ n) (h1 : n ≤ 9223372036854775807) (w : World) (htab : Lib.TabIs Tryd.prog w "internal/strconv.uint64pow10" .u64 Lib.pow10Tab) :
    Calls Tryd.prog 43 #[.int .i64 n, .int .i64 10] w fun e w' => e = .returned (.string ⟨(Lib.itoa n).toArray⟩) ∧ ∃ k os, w' = grow (w.drewN k) os := Any.internal_strconv_FormatInt_10 Tryd.laysM246 n h0 h1 w htab
def Tryd.lays246_ren : Go.Shelf.Ren := ⟨fun | 246 => 43 | 283 => 46 | 284 => 47 | 285 => 48 | 286 => 49 | 129 => 52 | 317 => 51 | 318 => 53 | 319 => 54 | 320 => 55 | 337 => 57 | 338 => 58 | n => n, fun | 2 => 2 | 3 => 3 | 9 => 9 | 4 => 4 | 171 => 93 | 0 => 0 | 53 => 30 | 37 => 63 | 5 => 5 | 173 => 96 | 212 => 100 | 51 => 101 | 20 => 20 | 213 => 102 | 46 => 69 | 232 => 107 | 233 => 108 | n => n, fun | 17 => 0 | 18 => 2 | 19 => 3 | n => n⟩
theorem Tryd.lays246 : Go.Proofs.Lays.n246 Tryd.prog Tryd.lays246_ren := {
  mixed := by kernel_rfl
  f129 := Tryd.func52.trans (congrArg some (by kernel_rfl))
  f246 := Tryd.func43.trans (congrArg some (by kernel_rfl))
  f283 := Tryd.func46.trans (congrArg some (by kernel_rfl))
  f284 := Tryd.func47.trans (congrArg some (by kernel_rfl))
  f285 := Tryd.func48.trans (congrArg some (by kernel_rfl))
  f286 := Tryd.func49.trans (congrArg some (by kernel_rfl))
  f317 := Tryd.func51.trans (congrArg some (by kernel_rfl))
  f318 := Tryd.func53.trans (congrArg some (by kernel_rfl))
  f319 := Tryd.func54.trans (congrArg some (by kernel_rfl))
  f320 := Tryd.func55.trans (congrArg some (by kernel_rfl))
  f337 := Tryd.func57.trans (congrArg some (by kernel_rfl))
  f338 := Tryd.func58.trans (congrArg some (by kernel_rfl))
  t0 := Tryd.underlying0
  a0 := Tryd.isAgg0
  z0 := Tryd.sizeOf0
  v0 := Tryd.zeroValue0
  t2 := Tryd.underlying2
  a2 := Tryd.isAgg2
  z2 := Tryd.sizeOf2
  v2 := Tryd.zeroValue2
  t3 := Tryd.underlying3
  a3 := Tryd.isAgg3
  z3 := Tryd.sizeOf3
  v3 := Tryd.zeroValue3
  t4 := Tryd.underlying4
  a4 := Tryd.isAgg4
  z4 := Tryd.sizeOf4
  v4 := Tryd.zeroValue4
  t5 := Tryd.underlying5
  a5 := Tryd.isAgg5
  z5 := Tryd.sizeOf5
  v5 := Tryd.zeroValue5
  t9 := Tryd.underlying9
  a9 := Tryd.isAgg9
  z9 := Tryd.sizeOf9
  v9 := Tryd.zeroValue9
  t20 := Tryd.underlying20
  a20 := Tryd.isAgg20
  z20 := Tryd.sizeOf20
  v20 := Tryd.zeroValue20
  t37 := Tryd.underlying63
  a37 := Tryd.isAgg63
  z37 := Tryd.sizeOf63
  v37 := Tryd.zeroValue63
  t46 := Tryd.underlying69
  a46 := Tryd.isAgg69
  z46 := Tryd.sizeOf69
  v46 := Tryd.zeroValue69
  t51 := Tryd.underlying101
  a51 := Tryd.isAgg101
  z51 := Tryd.sizeOf101
  v51 := Tryd.zeroValue101
  t53 := Tryd.underlying30
  a53 := Tryd.isAgg30
  z53 := Tryd.sizeOf30
  v53 := Tryd.zeroValue30
  t171 := Tryd.underlying93
  a171 := Tryd.isAgg93
  z171 := Tryd.sizeOf93
  v171 := Tryd.zeroValue93
  t173 := Tryd.underlying96
  a173 := Tryd.isAgg96
  z173 := Tryd.sizeOf96
  v173 := Tryd.zeroValue96
  t212 := Tryd.underlying100
  a212 := Tryd.isAgg100
  z212 := Tryd.sizeOf100
  v212 := Tryd.zeroValue100
  t213 := Tryd.underlying102
  a213 := Tryd.isAgg102
  z213 := Tryd.sizeOf102
  t232 := Tryd.underlying107
  a232 := Tryd.isAgg107
  z232 := Tryd.sizeOf107
  v232 := Tryd.zeroValue107
  t233 := Tryd.underlying108
  a233 := Tryd.isAgg108
  z233 := Tryd.sizeOf108
  v233 := Tryd.zeroValue108
  g17 := by kernel_rfl
  g18 := by kernel_rfl
  g19 := by kernel_rfl }
open Go.RowKit Go.Sort Go.Lib in
/-- THE ROAD WITHOUT THE TABLE: 0 <= i < 100: two constants are read, nothing is laid: no premise on the world, and the world is as it was. (LAID: no walk: one application.) -/
theorem Tryd.internal_strconv_FormatInt_10_small (i : Nat) (hi : i < 100) (w : World) :
    Calls Tryd.prog 43 #[.int .i64 i, .int .i64 10] w fun e w' => e = .returned (.string ⟨(Lib.decDigits i).toArray⟩) ∧ w' = w := Any.internal_strconv_FormatInt_10_small Tryd.lays246 i hi w
def Tryd.laysM243_ren : Go.Shelf.Ren := ⟨fun | 243 => 31 | 246 => 43 | 283 => 46 | 284 => 47 | 285 => 48 | 286 => 49 | 129 => 52 | 317 => 51 | 318 => 53 | 319 => 54 | 320 => 55 | 337 => 57 | 338 => 58 | n => n, fun | 3 => 3 | 9 => 9 | 2 => 2 | 4 => 4 | 171 => 93 | 0 => 0 | 53 => 30 | 37 => 63 | 5 => 5 | 173 => 96 | 212 => 100 | 51 => 101 | 20 => 20 | 213 => 102 | 46 => 69 | 232 => 107 | 233 => 108 | n => n, fun | 17 => 0 | 18 => 2 | 19 => 3 | n => n⟩
theorem Tryd.laysM243 : Go.Proofs.LaysM.n243 Tryd.prog Tryd.laysM243_ren := {
  mixed := by kernel_rfl
  f129 := Tryd.func52.trans (congrArg some (by kernel_rfl))
  f243 := Tryd.func31.trans (congrArg some (by kernel_rfl))
  f246 := Tryd.func43.trans (congrArg some (by kernel_rfl))
  f283 := Tryd.func46.trans (congrArg some (by kernel_rfl))
  f284 := Tryd.func47.trans (congrArg some (by kernel_rfl))
  f285 := Tryd.func48.trans (congrArg some (by kernel_rfl))
  f286 := Tryd.func49.trans (congrArg some (by kernel_rfl))
  f317 := Tryd.func51.trans (congrArg some (by kernel_rfl))
  f318 := Tryd.func53.trans (congrArg some (by kernel_rfl))
  f319 := Tryd.func54.trans (congrArg some (by kernel_rfl))
  f320 := Tryd.func55.trans (congrArg some (by kernel_rfl))
  f337 := Tryd.func57.trans (congrArg some (by kernel_rfl))
  f338 := Tryd.func58.trans (congrArg some (by kernel_rfl))
  t0 := Tryd.underlying0
  a0 := Tryd.isAgg0
  z0 := Tryd.sizeOf0
  v0 := Tryd.zeroValue0
  t2 := Tryd.underlying2
  a2 := Tryd.isAgg2
  z2 := Tryd.sizeOf2
  v2 := Tryd.zeroValue2
  t3 := Tryd.underlying3
  a3 := Tryd.isAgg3
  z3 := Tryd.sizeOf3
  v3 := Tryd.zeroValue3
  t4 := Tryd.underlying4
  a4 := Tryd.isAgg4
  z4 := Tryd.sizeOf4
  v4 := Tryd.zeroValue4
  t5 := Tryd.underlying5
  a5 := Tryd.isAgg5
  z5 := Tryd.sizeOf5
  v5 := Tryd.zeroValue5
  t9 := Tryd.underlying9
  a9 := Tryd.isAgg9
  z9 := Tryd.sizeOf9
  v9 := Tryd.zeroValue9
  t20 := Tryd.underlying20
  a20 := Tryd.isAgg20
  z20 := Tryd.sizeOf20
  v20 := Tryd.zeroValue20
  t37 := Tryd.underlying63
  a37 := Tryd.isAgg63
  z37 := Tryd.sizeOf63
  v37 := Tryd.zeroValue63
  t46 := Tryd.underlying69
  a46 := Tryd.isAgg69
  z46 := Tryd.sizeOf69
  v46 := Tryd.zeroValue69
  t51 := Tryd.underlying101
  a51 := Tryd.isAgg101
  z51 := Tryd.sizeOf101
  v51 := Tryd.zeroValue101
  t53 := Tryd.underlying30
  a53 := Tryd.isAgg30
  z53 := Tryd.sizeOf30
  v53 := Tryd.zeroValue30
  t171 := Tryd.underlying93
  a171 := Tryd.isAgg93
  z171 := Tryd.sizeOf93
  v171 := Tryd.zeroValue93
  t173 := Tryd.underlying96
  a173 := Tryd.isAgg96
  z173 := Tryd.sizeOf96
  v173 := Tryd.zeroValue96
  t212 := Tryd.underlying100
  a212 := Tryd.isAgg100
  z212 := Tryd.sizeOf100
  v212 := Tryd.zeroValue100
  t213 := Tryd.underlying102
  a213 := Tryd.isAgg102
  z213 := Tryd.sizeOf102
  t232 := Tryd.underlying107
  a232 := Tryd.isAgg107
  z232 := Tryd.sizeOf107
  v232 := Tryd.zeroValue107
  t233 := Tryd.underlying108
  a233 := Tryd.isAgg108
  z233 := Tryd.sizeOf108
  v233 := Tryd.zeroValue108
  g17 := by kernel_rfl
  g18 := by kernel_rfl
  g19 := by kernel_rfl
  i0 := by kernel_rfl
  i2 := by kernel_rfl
  i3 := by kernel_rfl
  i4 := by kernel_rfl
  i5 := by kernel_rfl
  i9 := by kernel_rfl
  i20 := by kernel_rfl
  i37 := by kernel_rfl
  i46 := by kernel_rfl
  i51 := by kernel_rfl
  i53 := by kernel_rfl
  i171 := by kernel_rfl
  i173 := by kernel_rfl
  i212 := by kernel_rfl
  i232 := by kernel_rfl
  i233 := by kernel_rfl
  m17 := by kernel_rfl
  m18 := by kernel_rfl
  m19 := by kernel_rfl }
open Go.RowKit Go.Sort Go.Lib in
/-- internal/strconv.Itoa: "Itoa is equivalent to FormatInt(int64(i), 10).": i's decimal numeral, for every int. (LAID: no walk: one application.) -/
theorem Tryd.internal_strconv_Itoa (n : Int) (h0 : -9223372036854775808 ≤ n) (h1 : n ≤ 9223372036854775807) (w : World) (htab : Lib.TabIs Tryd.prog w "internal/strconv.uint64pow10" .u64 Lib.pow10Tab) :
    Calls Tryd.prog 31 #[.int .i64 n] w fun e w' => e = .returned (.string ⟨(Lib.itoa n).toArray⟩) ∧ ∃ k os, w' = grow (w.drewN k) os := Any.internal_strconv_Itoa Tryd.laysM243 n h0 h1 w htab
def Tryd.lays243_ren : Go.Shelf.Ren := ⟨fun | 243 => 31 | 246 => 43 | 283 => 46 | 284 => 47 | 285 => 48 | 286 => 49 | 129 => 52 | 317 => 51 | 318 => 53 | 319 => 54 | 320 => 55 | 337 => 57 | 338 => 58 | n => n, fun | 3 => 3 | 9 => 9 | 2 => 2 | 4 => 4 | 171 => 93 | 0 => 0 | 53 => 30 | 37 => 63 | 5 => 5 | 173 => 96 | 212 => 100 | 51 => 101 | 20 => 20 | 213 => 102 | 46 => 69 | 232 => 107 | 233 => 108 | n => n, fun | 17 => 0 | 18 => 2 | 19 => 3 | n => n⟩
theorem Tryd.lays243 : Go.Proofs.Lays.n243 Tryd.prog Tryd.lays243_ren := {
  mixed := by kernel_rfl
  f129 := Tryd.func52.trans (congrArg some (by kernel_rfl))
  f243 := Tryd.func31.trans (congrArg some (by kernel_rfl))
  f246 := Tryd.func43.trans (congrArg some (by kernel_rfl))
  f283 := Tryd.func46.trans (congrArg some (by kernel_rfl))
  f284 := Tryd.func47.trans (congrArg some (by kernel_rfl))
  f285 := Tryd.func48.trans (congrArg some (by kernel_rfl))
  f286 := Tryd.func49.trans (congrArg some (by kernel_rfl))
  f317 := Tryd.func51.trans (congrArg some (by kernel_rfl))
  f318 := Tryd.func53.trans (congrArg some (by kernel_rfl))
  f319 := Tryd.func54.trans (congrArg some (by kernel_rfl))
  f320 := Tryd.func55.trans (congrArg some (by kernel_rfl))
  f337 := Tryd.func57.trans (congrArg some (by kernel_rfl))
  f338 := Tryd.func58.trans (congrArg some (by kernel_rfl))
  t0 := Tryd.underlying0
  a0 := Tryd.isAgg0
  z0 := Tryd.sizeOf0
  v0 := Tryd.zeroValue0
  t2 := Tryd.underlying2
  a2 := Tryd.isAgg2
  z2 := Tryd.sizeOf2
  v2 := Tryd.zeroValue2
  t3 := Tryd.underlying3
  a3 := Tryd.isAgg3
  z3 := Tryd.sizeOf3
  v3 := Tryd.zeroValue3
  t4 := Tryd.underlying4
  a4 := Tryd.isAgg4
  z4 := Tryd.sizeOf4
  v4 := Tryd.zeroValue4
  t5 := Tryd.underlying5
  a5 := Tryd.isAgg5
  z5 := Tryd.sizeOf5
  v5 := Tryd.zeroValue5
  t9 := Tryd.underlying9
  a9 := Tryd.isAgg9
  z9 := Tryd.sizeOf9
  v9 := Tryd.zeroValue9
  t20 := Tryd.underlying20
  a20 := Tryd.isAgg20
  z20 := Tryd.sizeOf20
  v20 := Tryd.zeroValue20
  t37 := Tryd.underlying63
  a37 := Tryd.isAgg63
  z37 := Tryd.sizeOf63
  v37 := Tryd.zeroValue63
  t46 := Tryd.underlying69
  a46 := Tryd.isAgg69
  z46 := Tryd.sizeOf69
  v46 := Tryd.zeroValue69
  t51 := Tryd.underlying101
  a51 := Tryd.isAgg101
  z51 := Tryd.sizeOf101
  v51 := Tryd.zeroValue101
  t53 := Tryd.underlying30
  a53 := Tryd.isAgg30
  z53 := Tryd.sizeOf30
  v53 := Tryd.zeroValue30
  t171 := Tryd.underlying93
  a171 := Tryd.isAgg93
  z171 := Tryd.sizeOf93
  v171 := Tryd.zeroValue93
  t173 := Tryd.underlying96
  a173 := Tryd.isAgg96
  z173 := Tryd.sizeOf96
  v173 := Tryd.zeroValue96
  t212 := Tryd.underlying100
  a212 := Tryd.isAgg100
  z212 := Tryd.sizeOf100
  v212 := Tryd.zeroValue100
  t213 := Tryd.underlying102
  a213 := Tryd.isAgg102
  z213 := Tryd.sizeOf102
  t232 := Tryd.underlying107
  a232 := Tryd.isAgg107
  z232 := Tryd.sizeOf107
  v232 := Tryd.zeroValue107
  t233 := Tryd.underlying108
  a233 := Tryd.isAgg108
  z233 := Tryd.sizeOf108
  v233 := Tryd.zeroValue108
  g17 := by kernel_rfl
  g18 := by kernel_rfl
  g19 := by kernel_rfl }
open Go.RowKit Go.Sort Go.Lib in
/-- THE ROAD WITHOUT THE TABLE: 0 <= i < 100. (LAID: no walk: one application.) -/
theorem Tryd.internal_strconv_Itoa_small (i : Nat) (hi : i < 100) (w : World) :
    Calls Tryd.prog 31 #[.int .i64 i] w fun e w' => e = .returned (.string ⟨(Lib.decDigits i).toArray⟩) ∧ w' = w := Any.internal_strconv_Itoa_small Tryd.lays243 i hi w
def Tryd.laysM171_ren : Go.Shelf.Ren := ⟨fun | 171 => 16 | 243 => 31 | 246 => 43 | 283 => 46 | 284 => 47 | 285 => 48 | 286 => 49 | 129 => 52 | 317 => 51 | 318 => 53 | 319 => 54 | 320 => 55 | 337 => 57 | 338 => 58 | n => n, fun | 3 => 3 | 9 => 9 | 2 => 2 | 4 => 4 | 171 => 93 | 0 => 0 | 53 => 30 | 37 => 63 | 5 => 5 | 173 => 96 | 212 => 100 | 51 => 101 | 20 => 20 | 213 => 102 | 46 => 69 | 232 => 107 | 233 => 108 | n => n, fun | 17 => 0 | 18 => 2 | 19 => 3 | n => n⟩
theorem Tryd.laysM171 : Go.Proofs.LaysM.n171 Tryd.prog Tryd.laysM171_ren := {
  mixed := by kernel_rfl
  f129 := Tryd.func52.trans (congrArg some (by kernel_rfl))
  f171 := Tryd.func16.trans (congrArg some (by kernel_rfl))
  f243 := Tryd.func31.trans (congrArg some (by kernel_rfl))
  f246 := Tryd.func43.trans (congrArg some (by kernel_rfl))
  f283 := Tryd.func46.trans (congrArg some (by kernel_rfl))
  f284 := Tryd.func47.trans (congrArg some (by kernel_rfl))
  f285 := Tryd.func48.trans (congrArg some (by kernel_rfl))
  f286 := Tryd.func49.trans (congrArg some (by kernel_rfl))
  f317 := Tryd.func51.trans (congrArg some (by kernel_rfl))
  f318 := Tryd.func53.trans (congrArg some (by kernel_rfl))
  f319 := Tryd.func54.trans (congrArg some (by kernel_rfl))
  f320 := Tryd.func55.trans (congrArg some (by kernel_rfl))
  f337 := Tryd.func57.trans (congrArg some (by kernel_rfl))
  f338 := Tryd.func58.trans (congrArg some (by kernel_rfl))
  t0 := Tryd.underlying0
  a0 := Tryd.isAgg0
  z0 := Tryd.sizeOf0
  v0 := Tryd.zeroValue0
  t2 := Tryd.underlying2
  a2 := Tryd.isAgg2
  z2 := Tryd.sizeOf2
  v2 := Tryd.zeroValue2
  t3 := Tryd.underlying3
  a3 := Tryd.isAgg3
  z3 := Tryd.sizeOf3
  v3 := Tryd.zeroValue3
  t4 := Tryd.underlying4
  a4 := Tryd.isAgg4
  z4 := Tryd.sizeOf4
  v4 := Tryd.zeroValue4
  t5 := Tryd.underlying5
  a5 := Tryd.isAgg5
  z5 := Tryd.sizeOf5
  v5 := Tryd.zeroValue5
  t9 := Tryd.underlying9
  a9 := Tryd.isAgg9
  z9 := Tryd.sizeOf9
  v9 := Tryd.zeroValue9
  t20 := Tryd.underlying20
  a20 := Tryd.isAgg20
  z20 := Tryd.sizeOf20
  v20 := Tryd.zeroValue20
  t37 := Tryd.underlying63
  a37 := Tryd.isAgg63
  z37 := Tryd.sizeOf63
  v37 := Tryd.zeroValue63
  t46 := Tryd.underlying69
  a46 := Tryd.isAgg69
  z46 := Tryd.sizeOf69
  v46 := Tryd.zeroValue69
  t51 := Tryd.underlying101
  a51 := Tryd.isAgg101
  z51 := Tryd.sizeOf101
  v51 := Tryd.zeroValue101
  t53 := Tryd.underlying30
  a53 := Tryd.isAgg30
  z53 := Tryd.sizeOf30
  v53 := Tryd.zeroValue30
  t171 := Tryd.underlying93
  a171 := Tryd.isAgg93
  z171 := Tryd.sizeOf93
  v171 := Tryd.zeroValue93
  t173 := Tryd.underlying96
  a173 := Tryd.isAgg96
  z173 := Tryd.sizeOf96
  v173 := Tryd.zeroValue96
  t212 := Tryd.underlying100
  a212 := Tryd.isAgg100
  z212 := Tryd.sizeOf100
  v212 := Tryd.zeroValue100
  t213 := Tryd.underlying102
  a213 := Tryd.isAgg102
  z213 := Tryd.sizeOf102
  t232 := Tryd.underlying107
  a232 := Tryd.isAgg107
  z232 := Tryd.sizeOf107
  v232 := Tryd.zeroValue107
  t233 := Tryd.underlying108
  a233 := Tryd.isAgg108
  z233 := Tryd.sizeOf108
  v233 := Tryd.zeroValue108
  g17 := by kernel_rfl
  g18 := by kernel_rfl
  g19 := by kernel_rfl
  i0 := by kernel_rfl
  i2 := by kernel_rfl
  i3 := by kernel_rfl
  i4 := by kernel_rfl
  i5 := by kernel_rfl
  i9 := by kernel_rfl
  i20 := by kernel_rfl
  i37 := by kernel_rfl
  i46 := by kernel_rfl
  i51 := by kernel_rfl
  i53 := by kernel_rfl
  i171 := by kernel_rfl
  i173 := by kernel_rfl
  i212 := by kernel_rfl
  i232 := by kernel_rfl
  i233 := by kernel_rfl
  m17 := by kernel_rfl
  m18 := by kernel_rfl
  m19 := by kernel_rfl }
open Go.RowKit Go.Sort Go.Lib in
/-- strconv.Itoa: "Itoa is equivalent to FormatInt(int64(i), 10).": i's DECIMAL NUMERAL ('Lib.itoa': a '-' where i is negative, then the digits), FOR EVERY int. The world behind the call: the world before it, new blocks behind the heap (the library's 'var a [24]byte'), draws. (LAID: no walk: one application.) -/
theorem Tryd.strconv_Itoa (n : Int) (h0 : -9223372036854775808 ≤ n) (h1 : n ≤ 9223372036854775807) (w : World) (htab : Lib.TabIs Tryd.prog w "internal/strconv.uint64pow10" .u64 Lib.pow10Tab) :
    Calls Tryd.prog 16 #[.int .i64 n] w fun e w' => e = .returned (.string ⟨(Lib.itoa n).toArray⟩) ∧ ∃ k os, w' = grow (w.drewN k) os := Any.strconv_Itoa Tryd.laysM171 n h0 h1 w htab
def Tryd.lays171_ren : Go.Shelf.Ren := ⟨fun | 171 => 16 | 243 => 31 | 246 => 43 | 283 => 46 | 284 => 47 | 285 => 48 | 286 => 49 | 129 => 52 | 317 => 51 | 318 => 53 | 319 => 54 | 320 => 55 | 337 => 57 | 338 => 58 | n => n, fun | 3 => 3 | 9 => 9 | 2 => 2 | 4 => 4 | 171 => 93 | 0 => 0 | 53 => 30 | 37 => 63 | 5 => 5 | 173 => 96 | 212 => 100 | 51 => 101 | 20 => 20 | 213 => 102 | 46 => 69 | 232 => 107 | 233 => 108 | n => n, fun | 17 => 0 | 18 => 2 | 19 => 3 | n => n⟩
theorem Tryd.lays171 : Go.Proofs.Lays.n171 Tryd.prog Tryd.lays171_ren := {
  mixed := by kernel_rfl
  f129 := Tryd.func52.trans (congrArg some (by kernel_rfl))
  f171 := Tryd.func16.trans (congrArg some (by kernel_rfl))
  f243 := Tryd.func31.trans (congrArg some (by kernel_rfl))
  f246 := Tryd.func43.trans (congrArg some (by kernel_rfl))
  f283 := Tryd.func46.trans (congrArg some (by kernel_rfl))
  f284 := Tryd.func47.trans (congrArg some (by kernel_rfl))
  f285 := Tryd.func48.trans (congrArg some (by kernel_rfl))
  f286 := Tryd.func49.trans (congrArg some (by kernel_rfl))
  f317 := Tryd.func51.trans (congrArg some (by kernel_rfl))
  f318 := Tryd.func53.trans (congrArg some (by kernel_rfl))
  f319 := Tryd.func54.trans (congrArg some (by kernel_rfl))
  f320 := Tryd.func55.trans (congrArg some (by kernel_rfl))
  f337 := Tryd.func57.trans (congrArg some (by kernel_rfl))
  f338 := Tryd.func58.trans (congrArg some (by kernel_rfl))
  t0 := Tryd.underlying0
  a0 := Tryd.isAgg0
  z0 := Tryd.sizeOf0
  v0 := Tryd.zeroValue0
  t2 := Tryd.underlying2
  a2 := Tryd.isAgg2
  z2 := Tryd.sizeOf2
  v2 := Tryd.zeroValue2
  t3 := Tryd.underlying3
  a3 := Tryd.isAgg3
  z3 := Tryd.sizeOf3
  v3 := Tryd.zeroValue3
  t4 := Tryd.underlying4
  a4 := Tryd.isAgg4
  z4 := Tryd.sizeOf4
  v4 := Tryd.zeroValue4
  t5 := Tryd.underlying5
  a5 := Tryd.isAgg5
  z5 := Tryd.sizeOf5
  v5 := Tryd.zeroValue5
  t9 := Tryd.underlying9
  a9 := Tryd.isAgg9
  z9 := Tryd.sizeOf9
  v9 := Tryd.zeroValue9
  t20 := Tryd.underlying20
  a20 := Tryd.isAgg20
  z20 := Tryd.sizeOf20
  v20 := Tryd.zeroValue20
  t37 := Tryd.underlying63
  a37 := Tryd.isAgg63
  z37 := Tryd.sizeOf63
  v37 := Tryd.zeroValue63
  t46 := Tryd.underlying69
  a46 := Tryd.isAgg69
  z46 := Tryd.sizeOf69
  v46 := Tryd.zeroValue69
  t51 := Tryd.underlying101
  a51 := Tryd.isAgg101
  z51 := Tryd.sizeOf101
  v51 := Tryd.zeroValue101
  t53 := Tryd.underlying30
  a53 := Tryd.isAgg30
  z53 := Tryd.sizeOf30
  v53 := Tryd.zeroValue30
  t171 := Tryd.underlying93
  a171 := Tryd.isAgg93
  z171 := Tryd.sizeOf93
  v171 := Tryd.zeroValue93
  t173 := Tryd.underlying96
  a173 := Tryd.isAgg96
  z173 := Tryd.sizeOf96
  v173 := Tryd.zeroValue96
  t212 := Tryd.underlying100
  a212 := Tryd.isAgg100
  z212 := Tryd.sizeOf100
  v212 := Tryd.zeroValue100
  t213 := Tryd.underlying102
  a213 := Tryd.isAgg102
  z213 := Tryd.sizeOf102
  t232 := Tryd.underlying107
  a232 := Tryd.isAgg107
  z232 := Tryd.sizeOf107
  v232 := Tryd.zeroValue107
  t233 := Tryd.underlying108
  a233 := Tryd.isAgg108
  z233 := Tryd.sizeOf108
  v233 := Tryd.zeroValue108
  g17 := by kernel_rfl
  g18 := by kernel_rfl
  g19 := by kernel_rfl }
open Go.RowKit Go.Sort Go.Lib in
/-- THE ROAD WITHOUT THE TABLE: 0 <= i < 100: NO PREMISE ON THE WORLD, AND THE WORLD IS AS IT WAS: a row that keeps its argument in that range need list no table ('laid = []'). (LAID: no walk: one application.) -/
theorem Tryd.strconv_Itoa_small (i : Nat) (hi : i < 100) (w : World) :
    Calls Tryd.prog 16 #[.int .i64 i] w fun e w' => e = .returned (.string ⟨(Lib.decDigits i).toArray⟩) ∧ w' = w := Any.strconv_Itoa_small Tryd.lays171 i hi w
end Go.Proofs

/- The walks of layer 35: a builder's bytes. -/
namespace Go.Proofs.YtpjafbinlklojaaDoor
open Go.RowKit

theorem infoByte : (Tryd.prog.info? 5).map (fun i => (i.zero, i.size, i.bytes)) = some (some (.int .u8 0), 1, 1) := by kernel_rfl
theorem sizeBuilder : (Tryd.prog.info? 65).map (·.size) = some 2 := by kernel_rfl
theorem liesBuilder : liesAt Tryd.prog Tryd.prog.depth 65 (2 / Tryd.prog.cellsOf 65) 0 65 1 = true := by kernel_rfl

set_option maxHeartbeats 1000000 in
set_option maxRecDepth 100000 in
theorem copyCheck_used (b : Nat) (w : World) (h0 : w.cell? ⟨b, 0, none⟩ = some (.pointer (some ⟨b, 0, none⟩))) :
    Calls Tryd.prog 37 #[.pointer (some ⟨b, 0, none⟩)] w fun e w' => e = .returned (.tuple #[]) ∧ w' = w := by
  obtain ⟨j, hj, hjs⟩ := Option.map_eq_some_iff.1 sizeBuilder
  go_enter Tryd.func37, Tryd.ntmps37
  go_wp2
  rw [Lib.run_neq_ptr_same w _ Tryd.underlying62 hj]
  go_wp2
  go_end0
  exact ⟨rfl, rfl⟩

set_option maxHeartbeats 1000000 in
set_option maxRecDepth 100000 in
theorem copyCheck_fresh (b : Nat) (w : World) (h0 : w.cell? ⟨b, 0, none⟩ = some (.pointer none)) (hsh : w.shape? b = some (65, 2)) (hfz : w.frozen? ⟨b, 0, none⟩ = false) :
    Calls Tryd.prog 37 #[.pointer (some ⟨b, 0, none⟩)] w fun e w' => e = .returned (.tuple #[]) ∧ w' = w.setCell ⟨b, 0, none⟩ (.pointer (some ⟨b, 0, none⟩)) := by
  obtain ⟨j, hj, hjs⟩ := Option.map_eq_some_iff.1 sizeBuilder
  go_enter Tryd.func37, Tryd.ntmps37
  go_wp2
  rw [Lib.run_to_unsafe w ⟨b, 0, none⟩ Tryd.underlying62 Tryd.underlying91 hj (by rw [hjs]; decide) hsh (Nat.zero_lt_succ 1)]
  simp only [Result.andThen]
  rw [Oper.upon_value]
  go_wp2
  rw [run_callFunc_extern Tryd.func45 (by kernel_rfl) (by kernel_rfl) (by kernel_rfl) (e := Extern.AbiNoEscape.same) (by kernel_rfl)]
  rw [Lib.run_noEscape]
  simp only [Result.andThen]
  rw [Oper.upon_value]
  go_wp2
  rw [Lib.run_from_unsafe w ⟨b, 0, none⟩ Tryd.underlying91 Tryd.underlying62 hj hsh liesBuilder]
  simp only [Result.andThen]
  rw [Oper.upon_value]
  go_wp2
  go_end0
  exact ⟨rfl, rfl⟩

/-- What a write to a builder leaves: all but the builder's block and its old buffer. -/
structure Kept2 (w w' : World) (b : Nat) (o : Option Nat) : Prop where
  os : w'.os = w.os
  tape : w'.tape = w.tape
  output : w'.output = w.output
  size : w.heap.size ≤ w'.heap.size
  block : ∀ k, k < w.heap.size → k ≠ b → some k ≠ o → w'.heap[k]? = w.heap[k]?
theorem Kept2.below {w w' : World} {b base : Nat} {o : Option Nat} (h : Kept2 w w' b o) (hb : base ≤ b) (hs : base ≤ w.heap.size) (ho : ∀ k, o = some k → base ≤ k) : Below base w w' :=
  ⟨h.os, h.tape, h.output, h.size, fun k hk => h.block k (by omega) (by omega) (fun e => by have := ho k e.symm; omega)⟩
theorem Kept2.trans {w w1 w2 : World} {b : Nat} {o o1 : Option Nat} (h : Kept2 w w1 b o) (k : Kept2 w1 w2 b o1) (ho : o1 = o ∨ ∃ g, w.heap.size ≤ g ∧ o1 = some g) : Kept2 w w2 b o :=
  ⟨k.os.trans h.os, k.tape.trans h.tape, k.output.trans h.output, Nat.le_trans h.size k.size, fun i hi hne hno => by
    rw [k.block i (Nat.lt_of_lt_of_le hi h.size) hne (fun e => by
      rcases ho with ho | ⟨g, hg, ho⟩
      · exact hno (e.trans ho)
      · rw [ho] at e; cases e; omega), h.block i hi hne hno]⟩

/-- A builder in block b, of address p, its buffer v, with the bytes l. -/
def Bld (w : World) (b base : Nat) (p v : Value) (l : List UInt8) : Prop :=
  w.heap[b]? = some (.cells #[p, v] 65) ∧ (p = .pointer none ∨ p = .pointer (some ⟨b, 0, none⟩)) ∧ BRow w base 5 v l
def BldPost (b base : Nat) (w : World) (v : Value) (l : List UInt8) (r : Value) (e : Ending) (w' : World) : Prop :=
  ∃ v', e = .returned r ∧ Bld w' b base (.pointer (some ⟨b, 0, none⟩)) v' l ∧ (v'.ownBlock = v.ownBlock ∨ ∃ g, w.heap.size ≤ g ∧ v'.ownBlock = some g) ∧ Kept2 w w' b v.ownBlock

theorem copyCheck_any (b base : Nat) (p v : Value) (l : List UInt8) (w : World) (h : Bld w b base p v l) :
    Calls Tryd.prog 37 #[.pointer (some ⟨b, 0, none⟩)] w fun e w' => e = .returned (.tuple #[]) ∧ Bld w' b base (.pointer (some ⟨b, 0, none⟩)) v l ∧ w.grownBy w' (some b) ∧ w'.heap.size = w.heap.size := by
  obtain ⟨hb, hp, hr⟩ := h
  have hne : v.ownBlock ≠ some b := fun e => own_ne hr hb (by decide) e.symm
  have hlt : b < w.heap.size := (Array.getElem?_eq_some_iff.1 hb).1
  rcases hp with rfl | rfl
  · refine (copyCheck_fresh b w (by rw [Lib.cell_of_heap hb]; rfl) (by simp [World.shape?, hb]) (Lib.frozen_of_heap hb 0)).mono ?_
    rintro e w' ⟨rfl, rfl⟩
    have hg : w.grownBy (w.setCell ⟨b, 0, none⟩ (.pointer (some ⟨b, 0, none⟩))) (some b) := ⟨rfl, rfl, rfl, by simp, fun k hk hk2 => heap_setCell_other _ _ _ _ (fun e => hk2 (by simp [e]))⟩
    refine ⟨rfl, ⟨?_, .inr rfl, hr.kept hg (.inr hne)⟩, hg, by simp⟩
    rw [heap_setCell_same _ _ _ _ _ _ hb]; rfl
  · refine (copyCheck_used b w (by rw [Lib.cell_of_heap hb]; rfl)).mono ?_
    rintro e w' ⟨rfl, rfl⟩
    exact ⟨rfl, ⟨hb, .inr rfl, hr⟩, World.grownBy.refl _ _, rfl⟩

set_option maxHeartbeats 1000000 in
set_option maxRecDepth 100000 in
theorem writeByte_any (b base : Nat) (p v : Value) (l : List UInt8) (c : UInt8) (w : World) (h : Bld w b base p v l) (hbs : base ≤ w.heap.size) (hlen : l.length + 1 ≤ 1000000000) :
    Calls Tryd.prog 24 #[.pointer (some ⟨b, 0, none⟩), .int .u8 (c.toNat : Int)] w (BldPost b base w v (l ++ [c]) .nilIface) := by
  obtain ⟨i0, hi, hz0, hz1, hz2⟩ := info_parts infoByte
  have hc0 := Lib.hid (copyCheck_any b base p v l w h)
  clear h
  go_enter Tryd.func24, Tryd.ntmps24
  go_wp2_with fail
  refine hc0.out.mono ?_
  rintro e w1 ⟨rfl, ⟨hb, _, hr⟩, hg1, hz⟩
  have hlt : b < w1.heap.size := (Array.getElem?_eq_some_iff.1 hb).1
  have c0 : w1.cell? ⟨b, 0, none⟩ = some (.pointer (some ⟨b, 0, none⟩)) := by rw [Lib.cell_of_heap hb]; rfl
  have c1 : w1.cell? ⟨b, 1, none⟩ = some v := by rw [Lib.cell_of_heap hb]; rfl
  have hr' := Lib.hid hr
  have hb' := Lib.hid hb
  have hg1' := Lib.hid hg1
  have hz' := Lib.hid hz
  clear hr hb hg1 hz
  go_wp2_with (at_builtin; (refine wpList_append_row rfl _ _ 63 63 rfl base 5 i0 (.int .u8 0) 1 1 Tryd.underlying63 hi hz0 hz1 hz2 rfl v _ _ rfl (hr'.out.grow ((Below.refl _ _).alloc (Nat.le_refl _) _)) (.slice (some ⟨w1.heap.size, 0, none⟩) 1 1) 1 [.int .u8 c.toNat] rfl ?_ ?c0 ?c1 ?c2 ?c3))
  case c0 => exact src_block Tryd.underlying63 1 1 1 _ #[.int .u8 c.toNat] _ _ (heap_alloc_new _ _) rfl (by simp [Value.oneCell'])
  case c1 => unfold maxLen; omega
  case c2 => omega
  case c3 => rw [World.size_alloc]; have := hz'.out; omega
  intro v' w2 hown' hhop2
  have q1 : w2.heap[b]? = some (.cells #[.pointer (some ⟨b, 0, none⟩), v] 65) := by
    rw [hhop2.1.block b (by rw [World.size_alloc]; omega) (own_ne hr'.out hb'.out (by decide)), heap_alloc_old _ _ hlt]
    exact hb'.out
  obtain ⟨f1, f2⟩ := blk_facts q1
  have q1' := Lib.hid q1
  clear q1 c0 c1
  obtain ⟨g, cap, rfl⟩ : ∃ g cap, v' = .slice (some ⟨g, 0, none⟩) (l.length + 1) cap := by
    rcases hown'.2 with ⟨_, h0⟩ | ⟨g, cap, cur, hv, _⟩
    · omega
    · exact ⟨g, cap, hv⟩
  have hown := Lib.hid hown'
  have hhop := Lib.hid hhop2
  clear hown' hhop2
  go_wp2
  go_ret
  have hne : ∀ x : Option Nat, some b ≠ x → x = none ∨ x ≠ some b := fun x h => .inr fun e => h e.symm
  have hro : BRow w2 base 5 (.slice (some ⟨g, 0, none⟩) (l.length + 1) cap) (l ++ [c]) := BRow.app (m := [c]) hown.out rfl
  have hgs : w2.grownBy (w2.setCell ⟨b, 1, none⟩ (.slice (some ⟨g, 0, none⟩) (l.length + 1) cap)) (some b) := ⟨rfl, rfl, rfl, by simp, fun k hk hk2 => heap_setCell_other _ _ _ _ (fun e => hk2 (by simp [e]))⟩
  refine ⟨_, rfl, ⟨?_, .inr rfl, hro.kept hgs (hne _ (own_ne hro q1'.out (by decide)))⟩, ?_, ?_⟩
  · rw [heap_setCell_same _ _ _ _ _ _ q1'.out]; rfl
  · rcases hhop.out.2 with e | ⟨g', h1, e⟩
    · exact .inl e
    · exact .inr ⟨g', by rw [World.size_alloc, hz'.out] at h1; omega, e⟩
  · have k1 := hg1'.out
    have k2 := hhop.out.1
    have k3 := hz'.out
    refine ⟨k2.os.trans k1.os, k2.tape.trans k1.tape, k2.output.trans k1.output, ?_, fun k hk hkb hko => ?_⟩
    · have := k2.size
      rw [World.size_alloc] at this
      rw [World.size_setCell]; omega
    · rw [heap_setCell_other _ _ _ _ hkb, k2.block k (by rw [World.size_alloc]; omega) hko, heap_alloc_old _ _ (by omega), k1.block k hk (fun e => hkb (by simpa using e))]
end Go.Proofs.YtpjafbinlklojaaDoor

/- The walks of layer 35: a text, shown. -/
namespace Go.Proofs.YtpjafbinlklojaaDoor
open Go.RowKit

/-- A digit of sixteen. -/
def Li.hexd (n : Nat) : UInt8 := if n < 10 then UInt8.ofNat (48 + n) else UInt8.ofNat (55 + n)
def Li.odd (c : UInt8) : Bool := decide (c.toNat < 33) || decide (126 < c.toNat) || decide (c.toNat = 37)
def Li.show1 (c : UInt8) : List UInt8 := if Li.odd c then [37, Li.hexd (c.toNat / 16), Li.hexd (c.toNat % 16)] else [c]
/-- A text, shown. -/
def Li.text (l : List UInt8) : List UInt8 := l.flatMap Li.show1
theorem Li.text_snoc (l : List UInt8) (c : UInt8) : Li.text (l ++ [c]) = Li.text l ++ Li.show1 c := by simp [Li.text]
theorem Li.text_len (l : List UInt8) : (Li.text l).length ≤ 3 * l.length := by
  induction l with
  | nil => simp [Li.text]
  | cons c l ih =>
    have h : (Li.show1 c).length ≤ 3 := by unfold Li.show1; split <;> simp
    simp only [Li.text, List.flatMap_cons, List.length_append, List.length_cons] at ih ⊢
    omega
def dig : ByteArray := ⟨#[48, 49, 50, 51, 52, 53, 54, 55, 56, 57, 65, 66, 67, 68, 69, 70]⟩
theorem dig_at : ∀ n : Fin 16, (dig.data[n.val]'n.isLt).toNat = (Li.hexd n.val).toNat := by decide
theorem index_dig (n : Nat) (h : n < 16) (k : IntKind) (x : World) : (Instr.index 9 (.string ⟨#[48, 49, 50, 51, 52, 53, 54, 55, 56, 57, 65, 66, 67, 68, 69, 70]⟩) (.int k (n : Int))).run Tryd.prog x = .ok (.int .u8 ((Li.hexd n).toNat : Int)) x := by
  rw [run_index_string x _ _ _ _ (by kernel_rfl), dif_pos ⟨by omega, by show (n : Int) < 16; omega⟩]
  have := dig_at ⟨n, h⟩
  simp only [dig] at this
  simp only [Int.toNat_natCast, ← this]
  rfl

/-- The row of a text's bytes. -/
theorem bytes_of (l : List UInt8) (w : World) : ∃ (w2 : World) (cap : Nat) (C : Array Value) (fr : Nat × Nat), (convert 9 63 (.string (bs l))).run Tryd.prog w = .ok (.slice (some ⟨w.heap.size, 0, none⟩) l.length cap) w2 ∧ Below w.heap.size w w2 ∧
    w.heap.size < w2.heap.size ∧ w2.heap[w.heap.size]? = some (.cells C 5 fr) ∧ ∀ (j : Nat) c, l[j]? = some c → C[j]? = some (.int .u8 (c.toNat : Int)) := by
  have h := run_bytes_of_string w 9 63 5 (bs l) Tryd.underlying9 Tryd.underlying63 Tryd.underlying5
  rw [bs_size] at h
  refine ⟨_, _, _, _, h, ?_, ?_, heap_alloc_new _ _, ?_⟩
  · exact ((Below.refl w.heap.size w).drew).alloc (Nat.le_refl _) _
  · rw [World.size_alloc]; exact Nat.lt_succ_self _
  · intro j c hc
    obtain ⟨hj, hc⟩ := List.getElem?_eq_some_iff.1 hc
    have hj' : j < (bs l).data.size := by show j < l.toArray.size; simpa using hj
    have e := bytesRow_at (bs l) (grownCap w l.length 0 5) j hj'
    have this : (bs l).data[j]'hj' = c := by rw [← hc]; exact List.getElem_toArray ..
    rw [this] at e
    exact e

theorem own_next {n m : Nat} {o o1 o2 : Option Nat} (hnm : n ≤ m) (h1 : o1 = o ∨ ∃ g, n ≤ g ∧ o1 = some g) (h2 : o2 = o1 ∨ ∃ g, m ≤ g ∧ o2 = some g) : o2 = o ∨ ∃ g, n ≤ g ∧ o2 = some g := by
  rcases h2 with h2 | ⟨g, hg, h2⟩
  · rw [h2]; exact h1
  · exact .inr ⟨g, Nat.le_trans hnm hg, h2⟩
theorem dig_get (n : Nat) (h : n < 16) : (⟨#[48, 49, 50, 51, 52, 53, 54, 55, 56, 57, 65, 66, 67, 68, 69, 70]⟩ : ByteArray)[n]'h = Li.hexd n :=
  UInt8.toNat_inj.1 (dig_at ⟨n, h⟩)
theorem isBuilder {w : World} {b base : Nat} {p v : Value} {l : List UInt8} (h : Bld w b base p v l) (hb : base ≤ b) : Lib.IsBuilder 65 5 base b (Lib.byteCells l) w := by
  obtain ⟨h1, h2, h3⟩ := h
  have hne : v.ownBlock ≠ some b := fun e => own_ne h3 h1 (by decide) e.symm
  have hl : (Lib.byteCells l).length = l.length := List.length_map ..
  have h4 : w.ownsRow base 5 1 v (Lib.byteCells l).length (Lib.byteCells l) := by rw [hl]; exact h3
  rcases h2 with rfl | rfl
  · exact .inl ⟨hb, v, h1, h4, hne⟩
  · exact .inr ⟨hb, v, h1, h4, hne⟩
/-- One sign on: what the loop keeps. -/
theorem text_next {l : List UInt8} {i : Nat} {c : UInt8} {C : Array Value} {fr : Nat × Nat} {w wr w' : World} {p v v' : Value} (hi : i < l.length) (hsn : l.take (i + 1) = l.take i ++ [c])
    (hb : Bld wr w.heap.size w.heap.size p v (Li.text (l.take i))) (hb' : Bld w' w.heap.size w.heap.size (.pointer (some ⟨w.heap.size, 0, none⟩)) v' (Li.text (l.take i) ++ Li.show1 c))
    (ho : v'.ownBlock = v.ownBlock ∨ ∃ g, wr.heap.size ≤ g ∧ v'.ownBlock = some g) (hk : Kept2 wr w' w.heap.size v.ownBlock) (hvr : v.ownBlock ≠ some (w.heap.size + 1))
    (hrow : wr.heap[w.heap.size + 1]? = some (.cells C 5 fr)) (hB : Below w.heap.size w wr) :
    ∃ j : Nat, j ≤ l.length ∧ Value.int .i64 ((i : Int) + 1) = .int .i64 j ∧ ∃ p v, Bld w' w.heap.size w.heap.size p v (Li.text (l.take j)) ∧ v.ownBlock ≠ some (w.heap.size + 1) ∧ w'.heap[w.heap.size + 1]? = some (.cells C 5 fr) ∧ Below w.heap.size w w' := by
  have hlt : w.heap.size + 1 < wr.heap.size := (Array.getElem?_eq_some_iff.1 hrow).1
  refine ⟨i + 1, hi, rfl, .pointer (some ⟨w.heap.size, 0, none⟩), v', ?_, ?_, ?_, ?_⟩
  · rw [hsn, Li.text_snoc]; exact hb'
  · rcases ho with e | ⟨g, hg, e⟩
    · rw [e]; exact hvr
    · rw [e]; intro h; cases h; omega
  · rw [hk.block _ hlt (by omega) (fun e => hvr e.symm)]; exact hrow
  · exact hB.trans (hk.below (Nat.le_refl _) (by omega) (fun k e => (hb.2.2.lt k e).1))

set_option maxHeartbeats 4000000 in
set_option maxRecDepth 100000 in
theorem text_any (l : List UInt8) (w : World) (hl : l.length ≤ 100000000) :
    Calls Tryd.prog 9 #[.string (bs l)] w fun e w' => e = .returned (.string (bs (Li.text l))) ∧ Below w.heap.size w w' := by
  have hsz := bs_size l
  obtain ⟨w2, cap, C, fr, hconv, hb2, hz2, hrow2, hC⟩ := bytes_of l (w.alloc (.cells #[.pointer none, .slice none 0 0] 65))
  rw [World.size_alloc] at hconv hb2 hz2 hrow2
  have hb2' := Lib.hid hb2
  have hrow2' := Lib.hid hrow2
  have hC' := Lib.hid hC
  clear hb2 hrow2 hC
  go_enter Tryd.func9, Tryd.ntmps9
  go_wp2_with fail
  go_loopw [9] (fun u wr => ∃ i : Nat, i ≤ l.length ∧ u = .int .i64 i ∧ ∃ p v, Bld wr w.heap.size w.heap.size p v (Li.text (l.take i)) ∧ v.ownBlock ≠ some (w.heap.size + 1) ∧ wr.heap[w.heap.size + 1]? = some (.cells C 5 fr) ∧ Below w.heap.size w wr) (fun u _ => l.length - (intOf u).toNat)
  case atStart =>
    refine ⟨0, Nat.zero_le _, rfl, _, _, ⟨?_, .inl rfl, BRow.nil _ _ _⟩, by simp [Value.ownBlock], hrow2'.out, ?_⟩
    · rw [hb2'.out.block _ (Nat.lt_succ_self _)]; exact heap_alloc_new _ _
    · exact Below.after' ((Below.refl _ w).alloc (Nat.le_refl _) _) (hb2'.out.mono (by simp)) (by simp)
  case round =>
    obtain ⟨i, hi, rfl, p, v, hbld, hvr, hrow, hB⟩ := hrel
    by_cases h1 : i < l.length
    · have hget := List.getElem?_eq_getElem h1
      have hcell : wr.cell? ⟨w.heap.size + 1, i, none⟩ = some (.int .u8 (l[i].toNat : Int)) := (cell_of_row wr _ i _ _ _ hrow).trans (hC'.out i _ hget)
      have hlt : w.heap.size + 1 < wr.heap.size := (Array.getElem?_eq_some_iff.1 hrow).1
      have hsn := Lib.hid (List.take_succ_eq_append_getElem h1)
      generalize l[i] = c at *
      have hW := Lib.hid hbld
      have hrow' := Lib.hid hrow
      have hB' := Lib.hid hB
      clear hbld hrow hB hget
      have hc256 := c.toNat_lt
      have htl : (Li.text (l.take i)).length ≤ 300000000 := by have h2 := Li.text_len (l.take i); have h3 := List.length_take_le i l; have h4 := List.length_take_le' i l; omega
      by_cases ho : Li.odd c = true
      · have hcs : (c.toNat : Int) < 33 ∨ (¬ (c.toNat : Int) < 33 ∧ (126 : Int) < c.toNat) ∨ (¬ (c.toNat : Int) < 33 ∧ ¬ (126 : Int) < c.toNat ∧ ((c.toNat : Int) == 37) = true) := by
          simp [Li.odd] at ho; simp; omega
        have hsh := Lib.hid (show Li.show1 c = [37, Li.hexd (c.toNat / 16), Li.hexd (c.toNat % 16)] by unfold Li.show1; rw [if_pos ho])
        clear ho
        rcases hcs with k1 | ⟨k1, k2⟩ | ⟨k1, k2, k3⟩
        all_goals
          go_wp2_with fail
          refine (writeByte_any _ _ p v _ 37 wr hW.out (by omega) (by omega)).mono ?_
          rintro e w3 ⟨v3, rfl, hb3, ho3, hk3⟩
          have hB3 := Lib.hid hb3
          have hO3 := Lib.hid ho3
          have hK3 := Lib.hid hk3
          clear hb3 ho3 hk3
          go_wp2_with fail
          refine (writeByte_any _ _ _ v3 _ _ w3 hB3.out (by have := hK3.out.size; omega) (by simp; omega)).mono ?_
          rintro e w4 ⟨v4, rfl, hb4, ho4, hk4⟩
          have hB4 := Lib.hid hb4
          have hO4 := Lib.hid ho4
          have hK4 := Lib.hid hk4
          clear hb4 ho4 hk4
          go_wp2_with fail
          refine (writeByte_any _ _ _ v4 _ _ w4 hB4.out (by have := hK3.out.size; have := hK4.out.size; omega) (by simp; omega)).mono ?_
          rintro e w5 ⟨v5, rfl, hb5, ho5, hk5⟩
          have hB5 := Lib.hid hb5
          have hO5 := Lib.hid ho5
          have hK5 := Lib.hid hk5
          clear hb5 ho5 hk5
          go_wp2_with fail
          refine ⟨text_next h1 hsn.out hW.out (v' := v5) ?_ (own_next (Nat.le_trans hK3.out.size hK4.out.size) (own_next hK3.out.size hO3.out hO4.out) hO5.out) ((hK3.out.trans hK4.out hO3.out).trans hK5.out (own_next hK3.out.size hO3.out hO4.out)) hvr hrow'.out hB'.out, ?_⟩
          · have := hB5.out
            rw [hsh.out]
            rw [dig_get, dig_get, List.append_assoc, List.append_assoc] at this
            exact this
          · show l.length - ((i : Int) + 1).toNat < l.length - (i : Int).toNat
            omega
      · have hcs : ¬ (c.toNat : Int) < 33 ∧ ¬ (126 : Int) < c.toNat ∧ ((c.toNat : Int) == 37) = false := by
          simp [Li.odd] at ho; simp; omega
        obtain ⟨k1, k2, k3⟩ := hcs
        have hsh := Lib.hid (show Li.show1 c = [c] by unfold Li.show1; rw [if_neg ho])
        clear ho
        go_wp2_with fail
        refine (writeByte_any _ _ p v _ c wr hW.out (by omega) (by omega)).mono ?_
        rintro e w3 ⟨v3, rfl, hb3, ho3, hk3⟩
        have hB3 := Lib.hid hb3
        have hO3 := Lib.hid ho3
        have hK3 := Lib.hid hk3
        clear hb3 ho3 hk3
        go_wp2_with fail
        refine ⟨text_next h1 hsn.out hW.out (v' := v3) ?_ hO3.out hK3.out hvr hrow'.out hB'.out, ?_⟩
        · rw [hsh.out]; exact hB3.out
        · show l.length - ((i : Int) + 1).toNat < l.length - (i : Int).toNat
          omega
    · have hfin : l.take i = l := List.take_of_length_le (by omega)
      rw [hfin] at hbld
      have hW := Lib.hid (isBuilder hbld (Nat.le_refl _))
      have hB' := Lib.hid hB
      clear hbld hrow hB
      go_wp2_with fail
      refine (Tryd.Builder_String_any _ _ _ wr hW.out hB'.out.size).mono ?_
      rintro e w3 ⟨rfl, hb3⟩
      go_wp2
      go_ret
      exact ⟨rfl, hB'.out.trans hb3⟩
end Go.Proofs.YtpjafbinlklojaaDoor

/- The walks of layer 35: numbers and lines. -/
namespace Go.Proofs.YtpjafbinlklojaaDoor
open Go.RowKit

abbrev TabP (w : World) : Prop := Lib.TabIs Tryd.prog w "internal/strconv.uint64pow10" .u64 Lib.pow10Tab
theorem gPow : Tryd.prog.globalNamed "internal/strconv.uint64pow10" = some 0 := by kernel_rfl
theorem tab_below {w w' : World} (h : TabP w) (k : Below w.heap.size w w') : TabP w' := Joins.tab_stays gPow h k (Nat.le_refl _)
/-- A number of an int. -/
theorem itoa_any (x : Int) (w : World) (h : I64 x) (ht : TabP w) : Calls Tryd.prog 16 #[.int .i64 x] w fun e w' => e = .returned (.string (bs (Lib.itoa x))) ∧ Below w.heap.size w w' := by
  refine (Tryd.strconv_Itoa x h.1 h.2 w ht).mono fun e w' ⟨he, k, os, hw⟩ => ⟨he, ?_⟩
  rw [hw]
  exact ⟨rfl, rfl, rfl, by simp [Go.Sort.grow], fun j hj => by simp [Go.Sort.grow, Array.getElem?_append, hj]⟩

/-- A text, shown or missing. -/
def Li.or (l : List UInt8) : List UInt8 := if l = [] then [45] else Li.text l
theorem Li.or_len (l : List UInt8) : (Li.or l).length ≤ 3 * l.length + 1 := by
  unfold Li.or
  split
  · simp
  · have := Li.text_len l; omega
theorem or_any (l : List UInt8) (w : World) (hl : l.length ≤ 100000000) :
    Calls Tryd.prog 14 #[.string (bs l)] w fun e w' => e = .returned (.string (bs (Li.or l))) ∧ Below w.heap.size w w' := by
  by_cases h : l = []
  · subst h
    have hnil : (bs ([] : List UInt8)).toList = [] := bs_list []
    go_enter Tryd.func14, Tryd.ntmps14
    go_wp2
    go_ret
    exact ⟨rfl, Below.refl _ _⟩
  · have hne : (bs l).toList.isEmpty = false := by rw [bs_list]; cases l with | nil => exact absurd rfl h | cons _ _ => rfl
    have HT := Lib.hid (text_any l w hl)
    have ho := Lib.hid (show Li.or l = Li.text l from if_neg h)
    go_enter Tryd.func14, Tryd.ntmps14
    go_wp2_with fail
    refine HT.out.mono ?_
    rintro e w1 ⟨rfl, hb⟩
    go_wp2
    go_ret
    exact ⟨by rw [ho.out]; rfl, hb⟩

/-- A line of words. -/
def Li.line (xs : List (List UInt8)) : List UInt8 := Lib.join xs [32]
theorem line_any (bk o c : Nat) (xs : List (List UInt8)) (w : World) (hcells : ∀ (j : Nat) x, xs[j]? = some x → w.cell? ⟨bk, o + j, none⟩ = some (.string (bs x))) (hbk : bk < w.heap.size) (hcap : xs.length ≤ c) (hN : xs.length ≤ 1000000000) (hlen : (Li.line xs).length ≤ 1000000000) :
    Calls Tryd.prog 13 #[.slice (some ⟨bk, o, none⟩) xs.length c] w fun e w' => e = .returned (.string (bs (Li.line xs))) ∧ Below w.heap.size w w' := by
  have hm : (xs.map bs).map (·.data.toList) = xs := by simp [bs, Function.comp_def]
  have hJ := Tryd.strings_Join bk o c (xs.map bs) ⟨#[32]⟩ w (fun j x hx => by
    rw [List.getElem?_map] at hx
    obtain ⟨y, hy, rfl⟩ := Option.map_eq_some_iff.1 hx
    exact hcells j y hy) hbk (by rw [List.length_map]; omega) (by rw [List.length_map]; exact hcap) (by rw [hm]; exact Nat.le_trans hlen (by decide))
  rw [hm, List.length_map] at hJ
  have HJ := Lib.hid hJ
  clear hJ hm hcells
  go_enter Tryd.func13, Tryd.ntmps13
  go_wp2_with fail
  refine HJ.out.mono ?_
  rintro e w1 ⟨rfl, hb⟩
  go_wp2
  go_ret
  exact ⟨rfl, hb⟩
theorem line_none (w : World) : Calls Tryd.prog 13 #[.slice none 0 0] w fun e w' => e = .returned (.string (bs (Li.line []))) ∧ Below w.heap.size w w' := by
  have HJ := Lib.hid (Tryd.strings_Join_none none 0 ⟨#[32]⟩ w)
  go_enter Tryd.func13, Tryd.ntmps13
  go_wp2_with fail
  refine HJ.out.mono ?_
  rintro e w1 ⟨rfl, rfl⟩
  go_wp2
  go_ret
  exact ⟨rfl, Below.refl _ _⟩
/-- .. of any row of texts. -/
theorem line_row {w : World} {base : Nat} {v : Value} {xs : List (List UInt8)} (h : SRow w base 9 v xs) (hN : xs.length ≤ 1000000000) (hlen : (Li.line xs).length ≤ 1000000000) :
    Calls Tryd.prog 13 #[v] w fun e w' => e = .returned (.string (bs (Li.line xs))) ∧ Below w.heap.size w w' := by
  rcases h.cases with ⟨rfl, rfl⟩ | ⟨g, cap, rfl, _, h1, h2, h3⟩
  · exact line_none w
  · exact line_any g 0 cap xs w (fun j x hx => by rw [Nat.zero_add]; exact h3 j x hx) h1 h2 hN hlen
end Go.Proofs.YtpjafbinlklojaaDoor

/- Layer 35 in plain words: how long numbers and lines are. -/
namespace Go.Proofs.YtpjafbinlklojaaDoor
open Go.RowKit

theorem nDigits_le : ∀ (k u : Nat), u < 10 ^ (k + 1) → Lib.nDigits u ≤ k + 1
  | 0, u, h => by rw [Lib.nDigits_small (by omega)]; omega
  | k + 1, u, h => by
    by_cases h1 : u < 10
    · rw [Lib.nDigits_small h1]; omega
    · rw [Lib.nDigits_big h1]
      have := nDigits_le k (u / 10) (by rw [Nat.pow_succ] at h; omega)
      omega
theorem itoa_len {x : Int} (h : I64 x) : (Lib.itoa x).length ≤ 20 := by
  unfold I64 at h
  unfold Lib.itoa
  split
  · rw [List.length_cons, Lib.decDigits_length]
    have := nDigits_le 18 x.natAbs (by omega)
    omega
  · rw [Lib.decDigits_length]
    have := nDigits_le 18 x.toNat (by omega)
    omega
theorem line_len (m : Nat) : ∀ xs : List (List UInt8), (∀ x ∈ xs, x.length ≤ m) → (Li.line xs).length ≤ xs.length * (m + 1)
  | [], _ => by simp [Li.line, Lib.join]
  | [x], h => by
    have := h x (by simp)
    simp [Li.line, Lib.join]; omega
  | x :: y :: r, h => by
    have h1 := h x (by simp)
    have ih := line_len m (y :: r) (fun z hz => h z (by simp at hz ⊢; exact .inr hz))
    have e : Li.line (x :: y :: r) = x ++ 32 :: Li.line (y :: r) := by simp [Li.line, Lib.join, List.intercalate]
    rw [e, List.length_append, List.length_cons]
    have e2 : (x :: y :: r).length * (m + 1) = (y :: r).length * (m + 1) + (m + 1) := by rw [List.length_cons (a := x), Nat.succ_mul]
    omega
end Go.Proofs.YtpjafbinlklojaaDoor
