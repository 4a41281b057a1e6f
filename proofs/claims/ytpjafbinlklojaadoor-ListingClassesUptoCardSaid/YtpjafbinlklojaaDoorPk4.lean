/- Joined texts: Class, TellA, TellB, Room. -/
import Derived.Test.YtpjafbinlklojaaDoorPk3
import Derived.Test.YtpjafbinlklojaaDoorPk2
import Derived.Test.YtpjafbinlklojaaDoorPk1
import Derived.OneCell
import Derived.Deep.Cut
import Derived.Lib.Hide
/- A class and what it holds: structures, what each reads as in cells, and what a handed-in one is. Printed by mk_class.py. -/
namespace Go.Proofs.YtpjafbinlklojaaDoor
open Go.ChangeShapes Go.WideShapes Go.ChangeAt Go.RowKit Go.Deep

/-- A value at a place of cells. -/
def ValIn (cs : List Value) (o : Nat) (v : Pv) : Prop := cs[o]? = some (.int .i64 v.tag) ∧ cs[o + 1]? = some (.string (bs v.text)) ∧ cs[o + 2]? = some (.int .u64 v.bits) ∧ cs[o + 3]? = some (.string (bs v.cls)) ∧ cs[o + 4]? = some (.string (bs v.name)) ∧ cs[o + 5]? = some (.string (bs v.desc))
theorem part_at {cs : List Value} {o m k : Nat} {u : Value} (hk : ((cs.drop o).take m)[k]? = some u) : cs[o + k]? = some u := by
  rw [List.getElem?_take] at hk
  split at hk
  · rwa [List.getElem?_drop] at hk
  · cases hk
section
variable {H : Type} {enc : TypeId × Value → H} {W : World} {base : Nat} {sp : Nat → Bool} {held : Bool} {fuel : Nat} {cs : List Value} {x : DataW H × List MemPlace}
set_option maxRecDepth 100000 in
theorem view_Pv (h : DataW.trod enc Tryd.prog W base sp held fuel 32 cs = some x) (hw : ∀ n ∈ x.1.weights Tryd.prog 32, n ≤ reachBytes) : ∃ v : Pv, v.fits ∧ cs.length = 6 ∧ ValIn cs 0 v ∧ v.blk ≤ Rows.uptoBulk x.1 := by
  obtain ⟨hl, ds, hd, hb, hf⟩ := view_field Tryd.underlying32 h hw
  rw [show Tryd.prog.cellsOf 32 = 6 from by kernel_rfl] at hl
  match ds, hd with
  | [x0, x1, x2, x3, x4, x5], _ =>
  obtain ⟨k0, t0, w0⟩ := hf 0 _ _ rfl rfl
  obtain ⟨k1, t1, w1⟩ := hf 1 _ _ rfl rfl
  obtain ⟨k2, t2, w2⟩ := hf 2 _ _ rfl rfl
  obtain ⟨k3, t3, w3⟩ := hf 3 _ _ rfl rfl
  obtain ⟨k4, t4, w4⟩ := hf 4 _ _ rfl rfl
  obtain ⟨k5, t5, w5⟩ := hf 5 _ _ rfl rfl
  obtain ⟨y0, e0, g0, b0⟩ := field_int Tryd.underlying3 t0
  obtain ⟨y1, e1, g1, b1⟩ := field_str Tryd.underlying9 t1 w1
  obtain ⟨y2, e2, g2, b2⟩ := field_u64 Tryd.underlying30 t2
  obtain ⟨y3, e3, g3, b3⟩ := field_str Tryd.underlying9 t3 w3
  obtain ⟨y4, e4, g4, b4⟩ := field_str Tryd.underlying9 t4 w4
  obtain ⟨y5, e5, g5, b5⟩ := field_str Tryd.underlying9 t5 w5
  simp only [List.map_cons, List.map_nil, List.sum_cons, List.sum_nil] at hb
  exact ⟨⟨y0, y1, y2, y3, y4, y5⟩, ⟨g0, g2, g1, g3, g4, g5⟩, hl, ⟨e0, e1, e2, e3, e4, e5⟩, by unfold Pv.blk; dsimp only; omega⟩
theorem valIn_part {o m : Nat} {v : Pv} (h : ValIn ((cs.drop o).take m) 0 v) : ValIn cs o v :=
  ⟨part_at h.1, part_at h.2.1, part_at h.2.2.1, part_at h.2.2.2.1, part_at h.2.2.2.2.1, part_at h.2.2.2.2.2⟩
end
def Cins.rd (w : World) (cs : List Value) (y : Cins) : Prop := cs.length = 12 ∧ cs[0]? = some (.int .i64 y.op) ∧ cs[1]? = some (.int .i64 y.var) ∧ cs[2]? = some (.int .i64 y.num) ∧ ValIn cs 3 y.const ∧ cs[9]? = some (.int .i64 y.to) ∧ (∃ A c, cs[10]? = some (.slice A y.keys.length c) ∧ Ints w A c y.keys ∧ (A = none → c = 0)) ∧ (∃ A c, cs[11]? = some (.slice A y.targets.length c) ∧ Ints w A c y.targets ∧ (A = none → c = 0))
theorem Cins.rd_grow {w w' : World} {cs : List Value} {y : Cins} (h : Cins.rd w cs y) (k : Below w.heap.size w w') : Cins.rd w' cs y := by
  obtain ⟨h0, h1, h2, h3, h4, h5, h6, h7⟩ := h
  exact ⟨h0, h1, h2, h3, h4, h5, (let ⟨A, c, e, i, z⟩ := h6; ⟨A, c, e, i.grow k, z⟩), (let ⟨A, c, e, i, z⟩ := h7; ⟨A, c, e, i.grow k, z⟩)⟩
set_option maxRecDepth 100000 in
theorem view_Cins {H : Type} {enc : TypeId × Value → H} {W : World} {base : Nat} {sp : Nat → Bool} {held : Bool} {fuel : Nat} {cs : List Value} {x : DataW H × List MemPlace} (h : DataW.trod enc Tryd.prog W base sp held fuel 47 cs = some x) (hw : ∀ n ∈ x.1.weights Tryd.prog 47, n ≤ reachBytes) :
    ∃ y : Cins, y.good ∧ cs.length = 12 ∧ Cins.rd W cs y ∧ y.blk ≤ Rows.uptoBulk x.1 := by
  obtain ⟨hl, ds, hd, hb, hf⟩ := view_field Tryd.underlying47 h hw
  rw [show Tryd.prog.cellsOf 47 = 12 from by kernel_rfl] at hl
  match ds, hd with
  | [x0, x1, x2, x3, x4, x5, x6], _ =>
  obtain ⟨k0, t0, w0⟩ := hf 0 _ _ rfl rfl
  obtain ⟨y0, e0, g0, b0⟩ := field_int Tryd.underlying3 t0
  obtain ⟨k1, t1, w1⟩ := hf 1 _ _ rfl rfl
  obtain ⟨y1, e1, g1, b1⟩ := field_int Tryd.underlying3 t1
  obtain ⟨k2, t2, w2⟩ := hf 2 _ _ rfl rfl
  obtain ⟨y2, e2, g2, b2⟩ := field_int Tryd.underlying3 t2
  obtain ⟨k3, t3, w3⟩ := hf 3 _ _ rfl rfl
  obtain ⟨y3, g3, _, e3, b3⟩ := view_Pv t3 w3
  obtain ⟨k4, t4, w4⟩ := hf 4 _ _ rfl rfl
  obtain ⟨y4, e4, g4, b4⟩ := field_int Tryd.underlying3 t4
  obtain ⟨k5, t5, w5⟩ := hf 5 _ _ rfl rfl
  obtain ⟨A5, c5, y5, e5, s5, l5, z5, g5, b5⟩ := field_ints t5 w5
  obtain ⟨k6, t6, w6⟩ := hf 6 _ _ rfl rfl
  obtain ⟨A6, c6, y6, e6, s6, l6, z6, g6, b6⟩ := field_ints t6 w6
  simp only [List.map_cons, List.map_nil, List.sum_cons, List.sum_nil] at hb
  exact ⟨⟨y0, y1, y2, y3, y4, y5, y6⟩, ⟨g0, g1, g2, g3, g4, ⟨l5, g5⟩, ⟨l6, g6⟩⟩, hl, ⟨hl, e0, e1, e2, valIn_part e3, e4, ⟨A5, c5, e5, s5, z5⟩, ⟨A6, c6, e6, s6, z6⟩⟩, by unfold Cins.blk; (try dsimp only); omega⟩
def Hnd.rd (_w : World) (cs : List Value) (y : Hnd) : Prop := cs.length = 4 ∧ cs[0]? = some (.int .i64 y.from_) ∧ cs[1]? = some (.int .i64 y.till) ∧ cs[2]? = some (.int .i64 y.to) ∧ cs[3]? = some (.string (bs y.kind))
theorem Hnd.rd_grow {w w' : World} {cs : List Value} {y : Hnd} (h : Hnd.rd w cs y) (_k : Below w.heap.size w w') : Hnd.rd w' cs y := by
  obtain ⟨h0, h1, h2, h3, h4⟩ := h
  exact ⟨h0, h1, h2, h3, h4⟩
set_option maxRecDepth 100000 in
theorem view_Hnd {H : Type} {enc : TypeId × Value → H} {W : World} {base : Nat} {sp : Nat → Bool} {held : Bool} {fuel : Nat} {cs : List Value} {x : DataW H × List MemPlace} (h : DataW.trod enc Tryd.prog W base sp held fuel 78 cs = some x) (hw : ∀ n ∈ x.1.weights Tryd.prog 78, n ≤ reachBytes) :
    ∃ y : Hnd, y.good ∧ cs.length = 4 ∧ Hnd.rd W cs y ∧ y.blk ≤ Rows.uptoBulk x.1 := by
  obtain ⟨hl, ds, hd, hb, hf⟩ := view_field Tryd.underlying78 h hw
  rw [show Tryd.prog.cellsOf 78 = 4 from by kernel_rfl] at hl
  match ds, hd with
  | [x0, x1, x2, x3], _ =>
  obtain ⟨k0, t0, w0⟩ := hf 0 _ _ rfl rfl
  obtain ⟨y0, e0, g0, b0⟩ := field_int Tryd.underlying3 t0
  obtain ⟨k1, t1, w1⟩ := hf 1 _ _ rfl rfl
  obtain ⟨y1, e1, g1, b1⟩ := field_int Tryd.underlying3 t1
  obtain ⟨k2, t2, w2⟩ := hf 2 _ _ rfl rfl
  obtain ⟨y2, e2, g2, b2⟩ := field_int Tryd.underlying3 t2
  obtain ⟨k3, t3, w3⟩ := hf 3 _ _ rfl rfl
  obtain ⟨y3, e3, g3, b3⟩ := field_str Tryd.underlying9 t3 w3
  simp only [List.map_cons, List.map_nil, List.sum_cons, List.sum_nil] at hb
  exact ⟨⟨y0, y1, y2, y3⟩, ⟨g0, g1, g2, g3⟩, hl, ⟨hl, e0, e1, e2, e3⟩, by unfold Hnd.blk; (try dsimp only); omega⟩
def Lno.rd (_w : World) (cs : List Value) (y : Lno) : Prop := cs.length = 2 ∧ cs[0]? = some (.int .i64 y.at_) ∧ cs[1]? = some (.int .i64 y.line)
theorem Lno.rd_grow {w w' : World} {cs : List Value} {y : Lno} (h : Lno.rd w cs y) (_k : Below w.heap.size w w') : Lno.rd w' cs y := by
  obtain ⟨h0, h1, h2⟩ := h
  exact ⟨h0, h1, h2⟩
set_option maxRecDepth 100000 in
theorem view_Lno {H : Type} {enc : TypeId × Value → H} {W : World} {base : Nat} {sp : Nat → Bool} {held : Bool} {fuel : Nat} {cs : List Value} {x : DataW H × List MemPlace} (h : DataW.trod enc Tryd.prog W base sp held fuel 80 cs = some x) (hw : ∀ n ∈ x.1.weights Tryd.prog 80, n ≤ reachBytes) :
    ∃ y : Lno, y.good ∧ cs.length = 2 ∧ Lno.rd W cs y ∧ y.blk ≤ Rows.uptoBulk x.1 := by
  obtain ⟨hl, ds, hd, hb, hf⟩ := view_field Tryd.underlying80 h hw
  rw [show Tryd.prog.cellsOf 80 = 2 from by kernel_rfl] at hl
  match ds, hd with
  | [x0, x1], _ =>
  obtain ⟨k0, t0, w0⟩ := hf 0 _ _ rfl rfl
  obtain ⟨y0, e0, g0, b0⟩ := field_int Tryd.underlying3 t0
  obtain ⟨k1, t1, w1⟩ := hf 1 _ _ rfl rfl
  obtain ⟨y1, e1, g1, b1⟩ := field_int Tryd.underlying3 t1
  simp only [List.map_cons, List.map_nil, List.sum_cons, List.sum_nil] at hb
  exact ⟨⟨y0, y1⟩, ⟨g0, g1⟩, hl, ⟨hl, e0, e1⟩, by unfold Lno.blk; (try dsimp only); omega⟩
def Slt.rd (_w : World) (cs : List Value) (y : Slt) : Prop := cs.length = 5 ∧ cs[0]? = some (.int .i64 y.from_) ∧ cs[1]? = some (.int .i64 y.till) ∧ cs[2]? = some (.string (bs y.name)) ∧ cs[3]? = some (.string (bs y.desc)) ∧ cs[4]? = some (.int .i64 y.var)
theorem Slt.rd_grow {w w' : World} {cs : List Value} {y : Slt} (h : Slt.rd w cs y) (_k : Below w.heap.size w w') : Slt.rd w' cs y := by
  obtain ⟨h0, h1, h2, h3, h4, h5⟩ := h
  exact ⟨h0, h1, h2, h3, h4, h5⟩
set_option maxRecDepth 100000 in
theorem view_Slt {H : Type} {enc : TypeId × Value → H} {W : World} {base : Nat} {sp : Nat → Bool} {held : Bool} {fuel : Nat} {cs : List Value} {x : DataW H × List MemPlace} (h : DataW.trod enc Tryd.prog W base sp held fuel 82 cs = some x) (hw : ∀ n ∈ x.1.weights Tryd.prog 82, n ≤ reachBytes) :
    ∃ y : Slt, y.good ∧ cs.length = 5 ∧ Slt.rd W cs y ∧ y.blk ≤ Rows.uptoBulk x.1 := by
  obtain ⟨hl, ds, hd, hb, hf⟩ := view_field Tryd.underlying82 h hw
  rw [show Tryd.prog.cellsOf 82 = 5 from by kernel_rfl] at hl
  match ds, hd with
  | [x0, x1, x2, x3, x4], _ =>
  obtain ⟨k0, t0, w0⟩ := hf 0 _ _ rfl rfl
  obtain ⟨y0, e0, g0, b0⟩ := field_int Tryd.underlying3 t0
  obtain ⟨k1, t1, w1⟩ := hf 1 _ _ rfl rfl
  obtain ⟨y1, e1, g1, b1⟩ := field_int Tryd.underlying3 t1
  obtain ⟨k2, t2, w2⟩ := hf 2 _ _ rfl rfl
  obtain ⟨y2, e2, g2, b2⟩ := field_str Tryd.underlying9 t2 w2
  obtain ⟨k3, t3, w3⟩ := hf 3 _ _ rfl rfl
  obtain ⟨y3, e3, g3, b3⟩ := field_str Tryd.underlying9 t3 w3
  obtain ⟨k4, t4, w4⟩ := hf 4 _ _ rfl rfl
  obtain ⟨y4, e4, g4, b4⟩ := field_int Tryd.underlying3 t4
  simp only [List.map_cons, List.map_nil, List.sum_cons, List.sum_nil] at hb
  exact ⟨⟨y0, y1, y2, y3, y4⟩, ⟨g0, g1, g2, g3, g4⟩, hl, ⟨hl, e0, e1, e2, e3, e4⟩, by unfold Slt.blk; (try dsimp only); omega⟩
def Cde.rd (w : World) (cs : List Value) (y : Cde) : Prop := cs.length = 7 ∧ cs[0]? = some (.int .i64 y.stack) ∧ cs[1]? = some (.int .i64 y.locals) ∧ (∃ A c, cs[2]? = some (.slice A y.ops.length c) ∧ Sl 12 Cins.rd w A c y.ops ∧ (A = none → c = 0)) ∧ (∃ A c, cs[3]? = some (.slice A y.handlers.length c) ∧ Sl 4 Hnd.rd w A c y.handlers ∧ (A = none → c = 0)) ∧ cs[4]? = some (.int .i64 y.has) ∧ (∃ A c, cs[5]? = some (.slice A y.lines.length c) ∧ Sl 2 Lno.rd w A c y.lines ∧ (A = none → c = 0)) ∧ (∃ A c, cs[6]? = some (.slice A y.slots.length c) ∧ Sl 5 Slt.rd w A c y.slots ∧ (A = none → c = 0))
theorem Cde.rd_grow {w w' : World} {cs : List Value} {y : Cde} (h : Cde.rd w cs y) (k : Below w.heap.size w w') : Cde.rd w' cs y := by
  obtain ⟨h0, h1, h2, h3, h4, h5, h6, h7⟩ := h
  exact ⟨h0, h1, h2, (let ⟨A, c, e, i, z⟩ := h3; ⟨A, c, e, i.grow k (fun _ _ r => Cins.rd_grow r k), z⟩), (let ⟨A, c, e, i, z⟩ := h4; ⟨A, c, e, i.grow k (fun _ _ r => Hnd.rd_grow r k), z⟩), h5, (let ⟨A, c, e, i, z⟩ := h6; ⟨A, c, e, i.grow k (fun _ _ r => Lno.rd_grow r k), z⟩), (let ⟨A, c, e, i, z⟩ := h7; ⟨A, c, e, i.grow k (fun _ _ r => Slt.rd_grow r k), z⟩)⟩
set_option maxRecDepth 100000 in
theorem view_Cde {H : Type} {enc : TypeId × Value → H} {W : World} {base : Nat} {sp : Nat → Bool} {held : Bool} {fuel : Nat} {cs : List Value} {x : DataW H × List MemPlace} (h : DataW.trod enc Tryd.prog W base sp held fuel 29 cs = some x) (hw : ∀ n ∈ x.1.weights Tryd.prog 29, n ≤ reachBytes) :
    ∃ y : Cde, y.good ∧ cs.length = 7 ∧ Cde.rd W cs y ∧ y.blk ≤ Rows.uptoBulk x.1 := by
  obtain ⟨hl, ds, hd, hb, hf⟩ := view_field Tryd.underlying29 h hw
  rw [show Tryd.prog.cellsOf 29 = 7 from by kernel_rfl] at hl
  match ds, hd with
  | [x0, x1, x2, x3, x4, x5, x6], _ =>
  obtain ⟨k0, t0, w0⟩ := hf 0 _ _ rfl rfl
  obtain ⟨y0, e0, g0, b0⟩ := field_int Tryd.underlying3 t0
  obtain ⟨k1, t1, w1⟩ := hf 1 _ _ rfl rfl
  obtain ⟨y1, e1, g1, b1⟩ := field_int Tryd.underlying3 t1
  obtain ⟨k2, t2, w2⟩ := hf 2 _ _ rfl rfl
  obtain ⟨A2, c2, y2, e2, s2, l2, z2, g2, b2⟩ := view_sl (size := 12) (R := Cins.rd) (good := Cins.good) (blk := Cins.blk) Tryd.underlying24 (by kernel_rfl) (by decide) (by rw [show Tryd.prog.bytesOf 47 = 160 from by kernel_rfl]; decide) (fun _ _ _ a b => view_Cins a b) t2 w2
  obtain ⟨k3, t3, w3⟩ := hf 3 _ _ rfl rfl
  obtain ⟨A3, c3, y3, e3, s3, l3, z3, g3, b3⟩ := view_sl (size := 4) (R := Hnd.rd) (good := Hnd.good) (blk := Hnd.blk) Tryd.underlying25 (by kernel_rfl) (by decide) (by rw [show Tryd.prog.bytesOf 78 = 40 from by kernel_rfl]; decide) (fun _ _ _ a b => view_Hnd a b) t3 w3
  obtain ⟨k4, t4, w4⟩ := hf 4 _ _ rfl rfl
  obtain ⟨y4, e4, g4, b4⟩ := field_int Tryd.underlying3 t4
  obtain ⟨k5, t5, w5⟩ := hf 5 _ _ rfl rfl
  obtain ⟨A5, c5, y5, e5, s5, l5, z5, g5, b5⟩ := view_sl (size := 2) (R := Lno.rd) (good := Lno.good) (blk := Lno.blk) Tryd.underlying26 (by kernel_rfl) (by decide) (by rw [show Tryd.prog.bytesOf 80 = 16 from by kernel_rfl]; decide) (fun _ _ _ a b => view_Lno a b) t5 w5
  obtain ⟨k6, t6, w6⟩ := hf 6 _ _ rfl rfl
  obtain ⟨A6, c6, y6, e6, s6, l6, z6, g6, b6⟩ := view_sl (size := 5) (R := Slt.rd) (good := Slt.good) (blk := Slt.blk) Tryd.underlying27 (by kernel_rfl) (by decide) (by rw [show Tryd.prog.bytesOf 82 = 56 from by kernel_rfl]; decide) (fun _ _ _ a b => view_Slt a b) t6 w6
  simp only [List.map_cons, List.map_nil, List.sum_cons, List.sum_nil] at hb
  exact ⟨⟨y0, y1, y2, y3, y4, y5, y6⟩, ⟨g0, g1, ⟨l2, g2⟩, ⟨l3, g3⟩, g4, ⟨l5, g5⟩, ⟨l6, g6⟩⟩, hl, ⟨hl, e0, e1, ⟨A2, c2, part_one e2, s2, z2⟩, ⟨A3, c3, part_one e3, s3, z3⟩, e4, ⟨A5, c5, part_one e5, s5, z5⟩, ⟨A6, c6, part_one e6, s6, z6⟩⟩, by unfold Cde.blk; (try dsimp only); omega⟩
def Inr.rd (_w : World) (cs : List Value) (y : Inr) : Prop := cs.length = 4 ∧ cs[0]? = some (.string (bs y.cls)) ∧ cs[1]? = some (.string (bs y.outer)) ∧ cs[2]? = some (.string (bs y.name)) ∧ cs[3]? = some (.int .i64 y.flags)
theorem Inr.rd_grow {w w' : World} {cs : List Value} {y : Inr} (h : Inr.rd w cs y) (_k : Below w.heap.size w w') : Inr.rd w' cs y := by
  obtain ⟨h0, h1, h2, h3, h4⟩ := h
  exact ⟨h0, h1, h2, h3, h4⟩
set_option maxRecDepth 100000 in
theorem view_Inr {H : Type} {enc : TypeId × Value → H} {W : World} {base : Nat} {sp : Nat → Bool} {held : Bool} {fuel : Nat} {cs : List Value} {x : DataW H × List MemPlace} (h : DataW.trod enc Tryd.prog W base sp held fuel 57 cs = some x) (hw : ∀ n ∈ x.1.weights Tryd.prog 57, n ≤ reachBytes) :
    ∃ y : Inr, y.good ∧ cs.length = 4 ∧ Inr.rd W cs y ∧ y.blk ≤ Rows.uptoBulk x.1 := by
  obtain ⟨hl, ds, hd, hb, hf⟩ := view_field Tryd.underlying57 h hw
  rw [show Tryd.prog.cellsOf 57 = 4 from by kernel_rfl] at hl
  match ds, hd with
  | [x0, x1, x2, x3], _ =>
  obtain ⟨k0, t0, w0⟩ := hf 0 _ _ rfl rfl
  obtain ⟨y0, e0, g0, b0⟩ := field_str Tryd.underlying9 t0 w0
  obtain ⟨k1, t1, w1⟩ := hf 1 _ _ rfl rfl
  obtain ⟨y1, e1, g1, b1⟩ := field_str Tryd.underlying9 t1 w1
  obtain ⟨k2, t2, w2⟩ := hf 2 _ _ rfl rfl
  obtain ⟨y2, e2, g2, b2⟩ := field_str Tryd.underlying9 t2 w2
  obtain ⟨k3, t3, w3⟩ := hf 3 _ _ rfl rfl
  obtain ⟨y3, e3, g3, b3⟩ := field_int Tryd.underlying3 t3
  simp only [List.map_cons, List.map_nil, List.sum_cons, List.sum_nil] at hb
  exact ⟨⟨y0, y1, y2, y3⟩, ⟨g0, g1, g2, g3⟩, hl, ⟨hl, e0, e1, e2, e3⟩, by unfold Inr.blk; (try dsimp only); omega⟩
def Atr.rd (w : World) (cs : List Value) (y : Atr) : Prop := cs.length = 18 ∧ cs[0]? = some (.int .i64 y.has) ∧ Cde.rd w ((cs.drop 1).take 7) y.code ∧ ValIn cs 8 y.value ∧ (∃ A c, cs[14]? = some (.slice A y.throws.length c) ∧ Txt w A c y.throws ∧ (A = none → c = 0)) ∧ (∃ A c, cs[15]? = some (.slice A y.inners.length c) ∧ Sl 4 Inr.rd w A c y.inners ∧ (A = none → c = 0)) ∧ cs[16]? = some (.string (bs y.signature)) ∧ cs[17]? = some (.string (bs y.source))
theorem Atr.rd_grow {w w' : World} {cs : List Value} {y : Atr} (h : Atr.rd w cs y) (k : Below w.heap.size w w') : Atr.rd w' cs y := by
  obtain ⟨h0, h1, h2, h3, h4, h5, h6, h7⟩ := h
  exact ⟨h0, h1, Cde.rd_grow h2 k, h3, (let ⟨A, c, e, i, z⟩ := h4; ⟨A, c, e, i.grow k, z⟩), (let ⟨A, c, e, i, z⟩ := h5; ⟨A, c, e, i.grow k (fun _ _ r => Inr.rd_grow r k), z⟩), h6, h7⟩
set_option maxRecDepth 100000 in
theorem view_Atr {H : Type} {enc : TypeId × Value → H} {W : World} {base : Nat} {sp : Nat → Bool} {held : Bool} {fuel : Nat} {cs : List Value} {x : DataW H × List MemPlace} (h : DataW.trod enc Tryd.prog W base sp held fuel 35 cs = some x) (hw : ∀ n ∈ x.1.weights Tryd.prog 35, n ≤ reachBytes) :
    ∃ y : Atr, y.good ∧ cs.length = 18 ∧ Atr.rd W cs y ∧ y.blk ≤ Rows.uptoBulk x.1 := by
  obtain ⟨hl, ds, hd, hb, hf⟩ := view_field Tryd.underlying35 h hw
  rw [show Tryd.prog.cellsOf 35 = 18 from by kernel_rfl] at hl
  match ds, hd with
  | [x0, x1, x2, x3, x4, x5, x6], _ =>
  obtain ⟨k0, t0, w0⟩ := hf 0 _ _ rfl rfl
  obtain ⟨y0, e0, g0, b0⟩ := field_int Tryd.underlying3 t0
  obtain ⟨k1, t1, w1⟩ := hf 1 _ _ rfl rfl
  obtain ⟨y1, g1, _, e1, b1⟩ := view_Cde t1 w1
  obtain ⟨k2, t2, w2⟩ := hf 2 _ _ rfl rfl
  obtain ⟨y2, g2, _, e2, b2⟩ := view_Pv t2 w2
  obtain ⟨k3, t3, w3⟩ := hf 3 _ _ rfl rfl
  obtain ⟨A3, c3, y3, e3, s3, l3, z3, g3, b3⟩ := field_strs t3 w3
  obtain ⟨k4, t4, w4⟩ := hf 4 _ _ rfl rfl
  obtain ⟨A4, c4, y4, e4, s4, l4, z4, g4, b4⟩ := view_sl (size := 4) (R := Inr.rd) (good := Inr.good) (blk := Inr.blk) Tryd.underlying33 (by kernel_rfl) (by decide) (by rw [show Tryd.prog.bytesOf 57 = 56 from by kernel_rfl]; decide) (fun _ _ _ a b => view_Inr a b) t4 w4
  obtain ⟨k5, t5, w5⟩ := hf 5 _ _ rfl rfl
  obtain ⟨y5, e5, g5, b5⟩ := field_str Tryd.underlying9 t5 w5
  obtain ⟨k6, t6, w6⟩ := hf 6 _ _ rfl rfl
  obtain ⟨y6, e6, g6, b6⟩ := field_str Tryd.underlying9 t6 w6
  simp only [List.map_cons, List.map_nil, List.sum_cons, List.sum_nil] at hb
  exact ⟨⟨y0, y1, y2, y3, y4, y5, y6⟩, ⟨g0, g1, g2, ⟨l3, g3⟩, ⟨l4, g4⟩, g5, g6⟩, hl, ⟨hl, e0, e1, valIn_part e2, ⟨A3, c3, e3, s3, z3⟩, ⟨A4, c4, part_one e4, s4, z4⟩, e5, e6⟩, by unfold Atr.blk; (try dsimp only); omega⟩
def Mbr.rd (w : World) (cs : List Value) (y : Mbr) : Prop := cs.length = 21 ∧ cs[0]? = some (.int .i64 y.flags) ∧ cs[1]? = some (.string (bs y.name)) ∧ cs[2]? = some (.string (bs y.desc)) ∧ Atr.rd w ((cs.drop 3).take 18) y.attrs
theorem Mbr.rd_grow {w w' : World} {cs : List Value} {y : Mbr} (h : Mbr.rd w cs y) (k : Below w.heap.size w w') : Mbr.rd w' cs y := by
  obtain ⟨h0, h1, h2, h3, h4⟩ := h
  exact ⟨h0, h1, h2, h3, Atr.rd_grow h4 k⟩
set_option maxRecDepth 100000 in
theorem view_Mbr {H : Type} {enc : TypeId × Value → H} {W : World} {base : Nat} {sp : Nat → Bool} {held : Bool} {fuel : Nat} {cs : List Value} {x : DataW H × List MemPlace} (h : DataW.trod enc Tryd.prog W base sp held fuel 59 cs = some x) (hw : ∀ n ∈ x.1.weights Tryd.prog 59, n ≤ reachBytes) :
    ∃ y : Mbr, y.good ∧ cs.length = 21 ∧ Mbr.rd W cs y ∧ y.blk ≤ Rows.uptoBulk x.1 := by
  obtain ⟨hl, ds, hd, hb, hf⟩ := view_field Tryd.underlying59 h hw
  rw [show Tryd.prog.cellsOf 59 = 21 from by kernel_rfl] at hl
  match ds, hd with
  | [x0, x1, x2, x3], _ =>
  obtain ⟨k0, t0, w0⟩ := hf 0 _ _ rfl rfl
  obtain ⟨y0, e0, g0, b0⟩ := field_int Tryd.underlying3 t0
  obtain ⟨k1, t1, w1⟩ := hf 1 _ _ rfl rfl
  obtain ⟨y1, e1, g1, b1⟩ := field_str Tryd.underlying9 t1 w1
  obtain ⟨k2, t2, w2⟩ := hf 2 _ _ rfl rfl
  obtain ⟨y2, e2, g2, b2⟩ := field_str Tryd.underlying9 t2 w2
  obtain ⟨k3, t3, w3⟩ := hf 3 _ _ rfl rfl
  obtain ⟨y3, g3, _, e3, b3⟩ := view_Atr t3 w3
  simp only [List.map_cons, List.map_nil, List.sum_cons, List.sum_nil] at hb
  exact ⟨⟨y0, y1, y2, y3⟩, ⟨g0, g1, g2, g3⟩, hl, ⟨hl, e0, e1, e2, e3⟩, by unfold Mbr.blk; (try dsimp only); omega⟩
def Cls.rd (w : World) (cs : List Value) (y : Cls) : Prop := cs.length = 26 ∧ cs[0]? = some (.int .i64 y.minor) ∧ cs[1]? = some (.int .i64 y.major) ∧ cs[2]? = some (.int .i64 y.flags) ∧ cs[3]? = some (.string (bs y.this)) ∧ cs[4]? = some (.string (bs y.super)) ∧ (∃ A c, cs[5]? = some (.slice A y.faces.length c) ∧ Txt w A c y.faces ∧ (A = none → c = 0)) ∧ (∃ A c, cs[6]? = some (.slice A y.fields.length c) ∧ Sl 21 Mbr.rd w A c y.fields ∧ (A = none → c = 0)) ∧ (∃ A c, cs[7]? = some (.slice A y.methods.length c) ∧ Sl 21 Mbr.rd w A c y.methods ∧ (A = none → c = 0)) ∧ Atr.rd w ((cs.drop 8).take 18) y.attrs
theorem Cls.rd_grow {w w' : World} {cs : List Value} {y : Cls} (h : Cls.rd w cs y) (k : Below w.heap.size w w') : Cls.rd w' cs y := by
  obtain ⟨h0, h1, h2, h3, h4, h5, h6, h7, h8, h9⟩ := h
  exact ⟨h0, h1, h2, h3, h4, h5, (let ⟨A, c, e, i, z⟩ := h6; ⟨A, c, e, i.grow k, z⟩), (let ⟨A, c, e, i, z⟩ := h7; ⟨A, c, e, i.grow k (fun _ _ r => Mbr.rd_grow r k), z⟩), (let ⟨A, c, e, i, z⟩ := h8; ⟨A, c, e, i.grow k (fun _ _ r => Mbr.rd_grow r k), z⟩), Atr.rd_grow h9 k⟩
set_option maxRecDepth 100000 in
theorem view_Cls {H : Type} {enc : TypeId × Value → H} {W : World} {base : Nat} {sp : Nat → Bool} {held : Bool} {fuel : Nat} {cs : List Value} {x : DataW H × List MemPlace} (h : DataW.trod enc Tryd.prog W base sp held fuel 37 cs = some x) (hw : ∀ n ∈ x.1.weights Tryd.prog 37, n ≤ reachBytes) :
    ∃ y : Cls, y.good ∧ cs.length = 26 ∧ Cls.rd W cs y ∧ y.blk ≤ Rows.uptoBulk x.1 := by
  obtain ⟨hl, ds, hd, hb, hf⟩ := view_field Tryd.underlying37 h hw
  rw [show Tryd.prog.cellsOf 37 = 26 from by kernel_rfl] at hl
  match ds, hd with
  | [x0, x1, x2, x3, x4, x5, x6, x7, x8], _ =>
  obtain ⟨k0, t0, w0⟩ := hf 0 _ _ rfl rfl
  obtain ⟨y0, e0, g0, b0⟩ := field_int Tryd.underlying3 t0
  obtain ⟨k1, t1, w1⟩ := hf 1 _ _ rfl rfl
  obtain ⟨y1, e1, g1, b1⟩ := field_int Tryd.underlying3 t1
  obtain ⟨k2, t2, w2⟩ := hf 2 _ _ rfl rfl
  obtain ⟨y2, e2, g2, b2⟩ := field_int Tryd.underlying3 t2
  obtain ⟨k3, t3, w3⟩ := hf 3 _ _ rfl rfl
  obtain ⟨y3, e3, g3, b3⟩ := field_str Tryd.underlying9 t3 w3
  obtain ⟨k4, t4, w4⟩ := hf 4 _ _ rfl rfl
  obtain ⟨y4, e4, g4, b4⟩ := field_str Tryd.underlying9 t4 w4
  obtain ⟨k5, t5, w5⟩ := hf 5 _ _ rfl rfl
  obtain ⟨A5, c5, y5, e5, s5, l5, z5, g5, b5⟩ := field_strs t5 w5
  obtain ⟨k6, t6, w6⟩ := hf 6 _ _ rfl rfl
  obtain ⟨A6, c6, y6, e6, s6, l6, z6, g6, b6⟩ := view_sl (size := 21) (R := Mbr.rd) (good := Mbr.good) (blk := Mbr.blk) Tryd.underlying23 (by kernel_rfl) (by decide) (by rw [show Tryd.prog.bytesOf 59 = 328 from by kernel_rfl]; decide) (fun _ _ _ a b => view_Mbr a b) t6 w6
  obtain ⟨k7, t7, w7⟩ := hf 7 _ _ rfl rfl
  obtain ⟨A7, c7, y7, e7, s7, l7, z7, g7, b7⟩ := view_sl (size := 21) (R := Mbr.rd) (good := Mbr.good) (blk := Mbr.blk) Tryd.underlying23 (by kernel_rfl) (by decide) (by rw [show Tryd.prog.bytesOf 59 = 328 from by kernel_rfl]; decide) (fun _ _ _ a b => view_Mbr a b) t7 w7
  obtain ⟨k8, t8, w8⟩ := hf 8 _ _ rfl rfl
  obtain ⟨y8, g8, _, e8, b8⟩ := view_Atr t8 w8
  simp only [List.map_cons, List.map_nil, List.sum_cons, List.sum_nil] at hb
  exact ⟨⟨y0, y1, y2, y3, y4, y5, y6, y7, y8⟩, ⟨g0, g1, g2, g3, g4, ⟨l5, g5⟩, ⟨l6, g6⟩, ⟨l7, g7⟩, g8⟩, hl, ⟨hl, e0, e1, e2, e3, e4, ⟨A5, c5, e5, s5, z5⟩, ⟨A6, c6, part_one e6, s6, z6⟩, ⟨A7, c7, part_one e7, s7, z7⟩, e8⟩, by unfold Cls.blk; (try dsimp only); omega⟩
set_option maxRecDepth 100000 in
theorem Cins.leafs {w : World} {cs : List Value} {y : Cins} (h : Cins.rd w cs y) : ∃ (Akeys : Option Addr) (ckeys : Nat) (Atargets : Option Addr) (ctargets : Nat), cs = [.int .i64 y.op, .int .i64 y.var, .int .i64 y.num, .int .i64 y.const.tag, .string (bs y.const.text), .int .u64 y.const.bits, .string (bs y.const.cls), .string (bs y.const.name), .string (bs y.const.desc), .int .i64 y.to, .slice Akeys y.keys.length ckeys, .slice Atargets y.targets.length ctargets] ∧ (Ints w Akeys ckeys y.keys ∧ (Akeys = none → ckeys = 0)) ∧ (Ints w Atargets ctargets y.targets ∧ (Atargets = none → ctargets = 0)) := by
  match cs, h.1 with
  | [a0, a1, a2, a3, a4, a5, a6, a7, a8, a9, a10, a11], _ =>
  obtain ⟨_, h0, h1, h2, h3, h4, h5, h6⟩ := h
  obtain rfl := Option.some.inj h0
  obtain rfl := Option.some.inj h1
  obtain rfl := Option.some.inj h2
  obtain ⟨q0, q1, q2, q3, q4, q5⟩ := h3
  obtain rfl := Option.some.inj q0
  obtain rfl := Option.some.inj q1
  obtain rfl := Option.some.inj q2
  obtain rfl := Option.some.inj q3
  obtain rfl := Option.some.inj q4
  obtain rfl := Option.some.inj q5
  obtain rfl := Option.some.inj h4
  obtain ⟨A5, c5, q5, s5, z5⟩ := h5
  obtain rfl := Option.some.inj q5
  obtain ⟨A6, c6, q6, s6, z6⟩ := h6
  obtain rfl := Option.some.inj q6
  exact ⟨A5, c5, A6, c6, rfl, ⟨s5, z5⟩, ⟨s6, z6⟩⟩
set_option maxRecDepth 100000 in
theorem Hnd.leafs {w : World} {cs : List Value} {y : Hnd} (h : Hnd.rd w cs y) : cs = [.int .i64 y.from_, .int .i64 y.till, .int .i64 y.to, .string (bs y.kind)] := by
  match cs, h.1 with
  | [a0, a1, a2, a3], _ =>
  obtain ⟨_, h0, h1, h2, h3⟩ := h
  obtain rfl := Option.some.inj h0
  obtain rfl := Option.some.inj h1
  obtain rfl := Option.some.inj h2
  obtain rfl := Option.some.inj h3
  exact rfl
set_option maxRecDepth 100000 in
theorem Lno.leafs {w : World} {cs : List Value} {y : Lno} (h : Lno.rd w cs y) : cs = [.int .i64 y.at_, .int .i64 y.line] := by
  match cs, h.1 with
  | [a0, a1], _ =>
  obtain ⟨_, h0, h1⟩ := h
  obtain rfl := Option.some.inj h0
  obtain rfl := Option.some.inj h1
  exact rfl
set_option maxRecDepth 100000 in
theorem Slt.leafs {w : World} {cs : List Value} {y : Slt} (h : Slt.rd w cs y) : cs = [.int .i64 y.from_, .int .i64 y.till, .string (bs y.name), .string (bs y.desc), .int .i64 y.var] := by
  match cs, h.1 with
  | [a0, a1, a2, a3, a4], _ =>
  obtain ⟨_, h0, h1, h2, h3, h4⟩ := h
  obtain rfl := Option.some.inj h0
  obtain rfl := Option.some.inj h1
  obtain rfl := Option.some.inj h2
  obtain rfl := Option.some.inj h3
  obtain rfl := Option.some.inj h4
  exact rfl
set_option maxRecDepth 100000 in
theorem Cde.leafs {w : World} {cs : List Value} {y : Cde} (h : Cde.rd w cs y) : ∃ (Aops : Option Addr) (cops : Nat) (Ahandlers : Option Addr) (chandlers : Nat) (Alines : Option Addr) (clines : Nat) (Aslots : Option Addr) (cslots : Nat), cs = [.int .i64 y.stack, .int .i64 y.locals, .slice Aops y.ops.length cops, .slice Ahandlers y.handlers.length chandlers, .int .i64 y.has, .slice Alines y.lines.length clines, .slice Aslots y.slots.length cslots] ∧ (Sl 12 Cins.rd w Aops cops y.ops ∧ (Aops = none → cops = 0)) ∧ (Sl 4 Hnd.rd w Ahandlers chandlers y.handlers ∧ (Ahandlers = none → chandlers = 0)) ∧ (Sl 2 Lno.rd w Alines clines y.lines ∧ (Alines = none → clines = 0)) ∧ (Sl 5 Slt.rd w Aslots cslots y.slots ∧ (Aslots = none → cslots = 0)) := by
  match cs, h.1 with
  | [a0, a1, a2, a3, a4, a5, a6], _ =>
  obtain ⟨_, h0, h1, h2, h3, h4, h5, h6⟩ := h
  obtain rfl := Option.some.inj h0
  obtain rfl := Option.some.inj h1
  obtain ⟨A2, c2, q2, s2, z2⟩ := h2
  obtain rfl := Option.some.inj q2
  obtain ⟨A3, c3, q3, s3, z3⟩ := h3
  obtain rfl := Option.some.inj q3
  obtain rfl := Option.some.inj h4
  obtain ⟨A5, c5, q5, s5, z5⟩ := h5
  obtain rfl := Option.some.inj q5
  obtain ⟨A6, c6, q6, s6, z6⟩ := h6
  obtain rfl := Option.some.inj q6
  exact ⟨A2, c2, A3, c3, A5, c5, A6, c6, rfl, ⟨s2, z2⟩, ⟨s3, z3⟩, ⟨s5, z5⟩, ⟨s6, z6⟩⟩
set_option maxRecDepth 100000 in
theorem Inr.leafs {w : World} {cs : List Value} {y : Inr} (h : Inr.rd w cs y) : cs = [.string (bs y.cls), .string (bs y.outer), .string (bs y.name), .int .i64 y.flags] := by
  match cs, h.1 with
  | [a0, a1, a2, a3], _ =>
  obtain ⟨_, h0, h1, h2, h3⟩ := h
  obtain rfl := Option.some.inj h0
  obtain rfl := Option.some.inj h1
  obtain rfl := Option.some.inj h2
  obtain rfl := Option.some.inj h3
  exact rfl
set_option maxRecDepth 100000 in
theorem Atr.leafs {w : World} {cs : List Value} {y : Atr} (h : Atr.rd w cs y) : ∃ (Acode_ops : Option Addr) (ccode_ops : Nat) (Acode_handlers : Option Addr) (ccode_handlers : Nat) (Acode_lines : Option Addr) (ccode_lines : Nat) (Acode_slots : Option Addr) (ccode_slots : Nat) (Athrows : Option Addr) (cthrows : Nat) (Ainners : Option Addr) (cinners : Nat), cs = [.int .i64 y.has, .int .i64 y.code.stack, .int .i64 y.code.locals, .slice Acode_ops y.code.ops.length ccode_ops, .slice Acode_handlers y.code.handlers.length ccode_handlers, .int .i64 y.code.has, .slice Acode_lines y.code.lines.length ccode_lines, .slice Acode_slots y.code.slots.length ccode_slots, .int .i64 y.value.tag, .string (bs y.value.text), .int .u64 y.value.bits, .string (bs y.value.cls), .string (bs y.value.name), .string (bs y.value.desc), .slice Athrows y.throws.length cthrows, .slice Ainners y.inners.length cinners, .string (bs y.signature), .string (bs y.source)] ∧ (Sl 12 Cins.rd w Acode_ops ccode_ops y.code.ops ∧ (Acode_ops = none → ccode_ops = 0)) ∧ (Sl 4 Hnd.rd w Acode_handlers ccode_handlers y.code.handlers ∧ (Acode_handlers = none → ccode_handlers = 0)) ∧ (Sl 2 Lno.rd w Acode_lines ccode_lines y.code.lines ∧ (Acode_lines = none → ccode_lines = 0)) ∧ (Sl 5 Slt.rd w Acode_slots ccode_slots y.code.slots ∧ (Acode_slots = none → ccode_slots = 0)) ∧ (Txt w Athrows cthrows y.throws ∧ (Athrows = none → cthrows = 0)) ∧ (Sl 4 Inr.rd w Ainners cinners y.inners ∧ (Ainners = none → cinners = 0)) := by
  match cs, h.1 with
  | [a0, a1, a2, a3, a4, a5, a6, a7, a8, a9, a10, a11, a12, a13, a14, a15, a16, a17], _ =>
  obtain ⟨_, h0, h1, h2, h3, h4, h5, h6⟩ := h
  obtain rfl := Option.some.inj h0
  obtain ⟨A1_0, c1_0, A1_1, c1_1, A1_2, c1_2, A1_3, c1_3, q1, s1_0, s1_1, s1_2, s1_3⟩ := Cde.leafs h1
  simp only [List.drop_succ_cons, List.drop_zero, List.take_succ_cons, List.take_zero, List.cons.injEq, and_true] at q1
  obtain ⟨rfl, rfl, rfl, rfl, rfl, rfl, rfl⟩ := q1
  obtain ⟨q0, q1, q2, q3, q4, q5⟩ := h2
  obtain rfl := Option.some.inj q0
  obtain rfl := Option.some.inj q1
  obtain rfl := Option.some.inj q2
  obtain rfl := Option.some.inj q3
  obtain rfl := Option.some.inj q4
  obtain rfl := Option.some.inj q5
  obtain ⟨A3, c3, q3, s3, z3⟩ := h3
  obtain rfl := Option.some.inj q3
  obtain ⟨A4, c4, q4, s4, z4⟩ := h4
  obtain rfl := Option.some.inj q4
  obtain rfl := Option.some.inj h5
  obtain rfl := Option.some.inj h6
  exact ⟨A1_0, c1_0, A1_1, c1_1, A1_2, c1_2, A1_3, c1_3, A3, c3, A4, c4, rfl, s1_0, s1_1, s1_2, s1_3, ⟨s3, z3⟩, ⟨s4, z4⟩⟩
set_option maxRecDepth 100000 in
theorem Mbr.leafs {w : World} {cs : List Value} {y : Mbr} (h : Mbr.rd w cs y) : ∃ (Aattrs_code_ops : Option Addr) (cattrs_code_ops : Nat) (Aattrs_code_handlers : Option Addr) (cattrs_code_handlers : Nat) (Aattrs_code_lines : Option Addr) (cattrs_code_lines : Nat) (Aattrs_code_slots : Option Addr) (cattrs_code_slots : Nat) (Aattrs_throws : Option Addr) (cattrs_throws : Nat) (Aattrs_inners : Option Addr) (cattrs_inners : Nat), cs = [.int .i64 y.flags, .string (bs y.name), .string (bs y.desc), .int .i64 y.attrs.has, .int .i64 y.attrs.code.stack, .int .i64 y.attrs.code.locals, .slice Aattrs_code_ops y.attrs.code.ops.length cattrs_code_ops, .slice Aattrs_code_handlers y.attrs.code.handlers.length cattrs_code_handlers, .int .i64 y.attrs.code.has, .slice Aattrs_code_lines y.attrs.code.lines.length cattrs_code_lines, .slice Aattrs_code_slots y.attrs.code.slots.length cattrs_code_slots, .int .i64 y.attrs.value.tag, .string (bs y.attrs.value.text), .int .u64 y.attrs.value.bits, .string (bs y.attrs.value.cls), .string (bs y.attrs.value.name), .string (bs y.attrs.value.desc), .slice Aattrs_throws y.attrs.throws.length cattrs_throws, .slice Aattrs_inners y.attrs.inners.length cattrs_inners, .string (bs y.attrs.signature), .string (bs y.attrs.source)] ∧ (Sl 12 Cins.rd w Aattrs_code_ops cattrs_code_ops y.attrs.code.ops ∧ (Aattrs_code_ops = none → cattrs_code_ops = 0)) ∧ (Sl 4 Hnd.rd w Aattrs_code_handlers cattrs_code_handlers y.attrs.code.handlers ∧ (Aattrs_code_handlers = none → cattrs_code_handlers = 0)) ∧ (Sl 2 Lno.rd w Aattrs_code_lines cattrs_code_lines y.attrs.code.lines ∧ (Aattrs_code_lines = none → cattrs_code_lines = 0)) ∧ (Sl 5 Slt.rd w Aattrs_code_slots cattrs_code_slots y.attrs.code.slots ∧ (Aattrs_code_slots = none → cattrs_code_slots = 0)) ∧ (Txt w Aattrs_throws cattrs_throws y.attrs.throws ∧ (Aattrs_throws = none → cattrs_throws = 0)) ∧ (Sl 4 Inr.rd w Aattrs_inners cattrs_inners y.attrs.inners ∧ (Aattrs_inners = none → cattrs_inners = 0)) := by
  match cs, h.1 with
  | [a0, a1, a2, a3, a4, a5, a6, a7, a8, a9, a10, a11, a12, a13, a14, a15, a16, a17, a18, a19, a20], _ =>
  obtain ⟨_, h0, h1, h2, h3⟩ := h
  obtain rfl := Option.some.inj h0
  obtain rfl := Option.some.inj h1
  obtain rfl := Option.some.inj h2
  obtain ⟨A3_0, c3_0, A3_1, c3_1, A3_2, c3_2, A3_3, c3_3, A3_4, c3_4, A3_5, c3_5, q3, s3_0, s3_1, s3_2, s3_3, s3_4, s3_5⟩ := Atr.leafs h3
  simp only [List.drop_succ_cons, List.drop_zero, List.take_succ_cons, List.take_zero, List.cons.injEq, and_true] at q3
  obtain ⟨rfl, rfl, rfl, rfl, rfl, rfl, rfl, rfl, rfl, rfl, rfl, rfl, rfl, rfl, rfl, rfl, rfl, rfl⟩ := q3
  exact ⟨A3_0, c3_0, A3_1, c3_1, A3_2, c3_2, A3_3, c3_3, A3_4, c3_4, A3_5, c3_5, rfl, s3_0, s3_1, s3_2, s3_3, s3_4, s3_5⟩
set_option maxRecDepth 100000 in
theorem Cls.leafs {w : World} {cs : List Value} {y : Cls} (h : Cls.rd w cs y) : ∃ (Afaces : Option Addr) (cfaces : Nat) (Afields : Option Addr) (cfields : Nat) (Amethods : Option Addr) (cmethods : Nat) (Aattrs_code_ops : Option Addr) (cattrs_code_ops : Nat) (Aattrs_code_handlers : Option Addr) (cattrs_code_handlers : Nat) (Aattrs_code_lines : Option Addr) (cattrs_code_lines : Nat) (Aattrs_code_slots : Option Addr) (cattrs_code_slots : Nat) (Aattrs_throws : Option Addr) (cattrs_throws : Nat) (Aattrs_inners : Option Addr) (cattrs_inners : Nat), cs = [.int .i64 y.minor, .int .i64 y.major, .int .i64 y.flags, .string (bs y.this), .string (bs y.super), .slice Afaces y.faces.length cfaces, .slice Afields y.fields.length cfields, .slice Amethods y.methods.length cmethods, .int .i64 y.attrs.has, .int .i64 y.attrs.code.stack, .int .i64 y.attrs.code.locals, .slice Aattrs_code_ops y.attrs.code.ops.length cattrs_code_ops, .slice Aattrs_code_handlers y.attrs.code.handlers.length cattrs_code_handlers, .int .i64 y.attrs.code.has, .slice Aattrs_code_lines y.attrs.code.lines.length cattrs_code_lines, .slice Aattrs_code_slots y.attrs.code.slots.length cattrs_code_slots, .int .i64 y.attrs.value.tag, .string (bs y.attrs.value.text), .int .u64 y.attrs.value.bits, .string (bs y.attrs.value.cls), .string (bs y.attrs.value.name), .string (bs y.attrs.value.desc), .slice Aattrs_throws y.attrs.throws.length cattrs_throws, .slice Aattrs_inners y.attrs.inners.length cattrs_inners, .string (bs y.attrs.signature), .string (bs y.attrs.source)] ∧ (Txt w Afaces cfaces y.faces ∧ (Afaces = none → cfaces = 0)) ∧ (Sl 21 Mbr.rd w Afields cfields y.fields ∧ (Afields = none → cfields = 0)) ∧ (Sl 21 Mbr.rd w Amethods cmethods y.methods ∧ (Amethods = none → cmethods = 0)) ∧ (Sl 12 Cins.rd w Aattrs_code_ops cattrs_code_ops y.attrs.code.ops ∧ (Aattrs_code_ops = none → cattrs_code_ops = 0)) ∧ (Sl 4 Hnd.rd w Aattrs_code_handlers cattrs_code_handlers y.attrs.code.handlers ∧ (Aattrs_code_handlers = none → cattrs_code_handlers = 0)) ∧ (Sl 2 Lno.rd w Aattrs_code_lines cattrs_code_lines y.attrs.code.lines ∧ (Aattrs_code_lines = none → cattrs_code_lines = 0)) ∧ (Sl 5 Slt.rd w Aattrs_code_slots cattrs_code_slots y.attrs.code.slots ∧ (Aattrs_code_slots = none → cattrs_code_slots = 0)) ∧ (Txt w Aattrs_throws cattrs_throws y.attrs.throws ∧ (Aattrs_throws = none → cattrs_throws = 0)) ∧ (Sl 4 Inr.rd w Aattrs_inners cattrs_inners y.attrs.inners ∧ (Aattrs_inners = none → cattrs_inners = 0)) := by
  match cs, h.1 with
  | [a0, a1, a2, a3, a4, a5, a6, a7, a8, a9, a10, a11, a12, a13, a14, a15, a16, a17, a18, a19, a20, a21, a22, a23, a24, a25], _ =>
  obtain ⟨_, h0, h1, h2, h3, h4, h5, h6, h7, h8⟩ := h
  obtain rfl := Option.some.inj h0
  obtain rfl := Option.some.inj h1
  obtain rfl := Option.some.inj h2
  obtain rfl := Option.some.inj h3
  obtain rfl := Option.some.inj h4
  obtain ⟨A5, c5, q5, s5, z5⟩ := h5
  obtain rfl := Option.some.inj q5
  obtain ⟨A6, c6, q6, s6, z6⟩ := h6
  obtain rfl := Option.some.inj q6
  obtain ⟨A7, c7, q7, s7, z7⟩ := h7
  obtain rfl := Option.some.inj q7
  obtain ⟨A8_0, c8_0, A8_1, c8_1, A8_2, c8_2, A8_3, c8_3, A8_4, c8_4, A8_5, c8_5, q8, s8_0, s8_1, s8_2, s8_3, s8_4, s8_5⟩ := Atr.leafs h8
  simp only [List.drop_succ_cons, List.drop_zero, List.take_succ_cons, List.take_zero, List.cons.injEq, and_true] at q8
  obtain ⟨rfl, rfl, rfl, rfl, rfl, rfl, rfl, rfl, rfl, rfl, rfl, rfl, rfl, rfl, rfl, rfl, rfl, rfl⟩ := q8
  exact ⟨A5, c5, A6, c6, A7, c7, A8_0, c8_0, A8_1, c8_1, A8_2, c8_2, A8_3, c8_3, A8_4, c8_4, A8_5, c8_5, rfl, ⟨s5, z5⟩, ⟨s6, z6⟩, ⟨s7, z7⟩, s8_0, s8_1, s8_2, s8_3, s8_4, s8_5⟩
end Go.Proofs.YtpjafbinlklojaaDoor

/- The walks of layer 20's list: a box with two rows of its own; numbers, texts, a value. -/
namespace Go.Proofs.YtpjafbinlklojaaDoor
open Go.RowKit Go.Deep

theorem Ints.src {w : World} {A : Option Addr} {c : Nat} {xs : List Int} (h : Ints w A c xs) : Src Tryd.prog 1 45 (.slice A xs.length c) xs.length (ic xs) w := by
  cases xs with
  | nil =>
    cases A with
    | none => exact Src.ofNil w Tryd.underlying45 c
    | some a => exact Src.ofSlice w Tryd.underlying45 a 0 c [] rfl (fun j u hu => by simp at hu) (fun u hu => by cases hu)
  | cons y ys =>
    obtain ⟨g, o, rfl, hg, hc⟩ := h.2 (by simp)
    refine Src.ofSlice w Tryd.underlying45 ⟨g, o, none⟩ _ c _ (by rw [ic_length, Nat.mul_one]) (fun j u hu => ?_) (fun u hu => ?_)
    · rw [addr_plus]
      simp only [ic, List.getElem?_map, Option.map_eq_some_iff] at hu
      obtain ⟨x, hx, rfl⟩ := hu
      exact hc j x hx
    · simp only [ic, List.mem_map] at hu
      obtain ⟨x, _, rfl⟩ := hu
      rfl
theorem Txt.src {w : World} {A : Option Addr} {c : Nat} {xs : List (List UInt8)} (h : Txt w A c xs) : Src Tryd.prog 1 22 (.slice A xs.length c) xs.length (sc xs) w := by
  cases xs with
  | nil =>
    cases A with
    | none => exact Src.ofNil w Tryd.underlying22 c
    | some a => exact Src.ofSlice w Tryd.underlying22 a 0 c [] rfl (fun j u hu => by simp at hu) (fun u hu => by cases hu)
  | cons y ys =>
    obtain ⟨g, o, rfl, hg, hc⟩ := h.2 (by simp)
    refine Src.ofSlice w Tryd.underlying22 ⟨g, o, none⟩ _ c _ (by rw [sc_length, Nat.mul_one]) (fun j u hu => ?_) (fun u hu => ?_)
    · rw [addr_plus]
      simp only [sc, List.getElem?_map, Option.map_eq_some_iff] at hu
      obtain ⟨x, hx, rfl⟩ := hu
      exact hc j x hx
    · simp only [sc, List.mem_map] at hu
      obtain ⟨x, _, rfl⟩ := hu
      rfl
/-- Numbers of a new block. -/
theorem ints_new {w : World} {g : Nat} {C : Array Value} {t : TypeId} {fr : Nat × Nat} (hg : w.heap[g]? = some (.cells C t fr)) (ns : List Int) (hC : C.toList = ic ns) : Ints w (some ⟨g, 0, none⟩) ns.length ns :=
  ⟨Nat.le_refl _, fun _ => ⟨g, 0, rfl, (Array.getElem?_eq_some_iff.1 hg).1, fun j x hx => by
    rw [Nat.zero_add, Lib.cell_of_heap hg, ← Array.getElem?_toList, hC]
    exact ic_get hx⟩⟩
theorem txt_new {w : World} {g : Nat} {C : Array Value} {t : TypeId} {fr : Nat × Nat} (hg : w.heap[g]? = some (.cells C t fr)) (xs : List (List UInt8)) (hC : C.toList = sc xs) : Txt w (some ⟨g, 0, none⟩) xs.length xs :=
  ⟨Nat.le_refl _, fun _ => ⟨g, 0, rfl, (Array.getElem?_eq_some_iff.1 hg).1, fun j x hx => by
    rw [Nat.zero_add, Lib.cell_of_heap hg, ← Array.getElem?_toList, hC]
    exact sc_get hx⟩⟩

theorem Txt.same {w w' : World} {A : Option Addr} {c : Nat} {xs : List (List UInt8)} (h : Txt w A c xs) (hs : w.heap.size ≤ w'.heap.size) (k : 0 < xs.length → ∀ g o, A = some ⟨g, o, none⟩ → g < w.heap.size → w'.heap[g]? = w.heap[g]?) : Txt w' A c xs :=
  ⟨h.1, fun hp => by
    obtain ⟨g, o, e, hg, hc⟩ := h.2 hp
    exact ⟨g, o, e, Nat.lt_of_lt_of_le hg hs, fun j x hx => by rw [World.cell?_of_block (k hp g o e hg)]; exact hc j x hx⟩⟩
theorem heap_off {w : World} {b g o : Nat} {u : Value} (h : g ≠ b) : (w.setCell ⟨b, o, none⟩ u).heap[g]? = w.heap[g]? := by
  simp only [World.setCell, Array.getElem?_modify]
  rw [if_neg (fun e => h e.symm)]
/-- Where a read row may lie: below the base, or in a block of texts. -/
def TxtAt (w : World) (base : Nat) (A : Option Addr) : Prop := ∀ g o, A = some ⟨g, o, none⟩ → g < base ∨ ∃ C fr, w.heap[g]? = some (.cells C 9 fr)
theorem IRow.cells_ {w : World} {base : Nat} {v : Value} {xs : List Int} (h : IRow w base v xs) {g : Nat} (hg : v.ownBlock = some g) : ∃ cur, w.heap[g]? = some (.cells cur 3 (0, 0)) := by
  rcases h.2 with ⟨h, _⟩ | ⟨g', cap, cur, h, h1, hg', _⟩
  · rw [h] at hg; simp [Value.ownBlock] at hg
  · rw [h] at hg
    simp [Value.ownBlock] at hg
    subst hg
    exact ⟨cur, hg'⟩
/-- Blocks of other types are as they were. -/
def Still (w w' : World) : Prop := ∀ (g : Nat) (C : Array Value) (e : TypeId) (fr : Nat × Nat), w.heap[g]? = some (.cells C e fr) → e ≠ 3 → e ≠ 9 → e ≠ 51 → w'.heap[g]? = some (.cells C e fr)
theorem Still.trans {w w1 w2 : World} (h : Still w w1) (k : Still w1 w2) : Still w w2 := fun g C e fr hg h1 h2 h3 => k g C e fr (h g C e fr hg h1 h2 h3) h1 h2 h3
theorem still_below {w w' : World} (k : Below w.heap.size w w') : Still w w' := fun g _ _ _ hg _ _ _ => (k.block g (Array.getElem?_eq_some_iff.1 hg).1).trans hg
theorem still_hop {w w1 : World} {base b : Nat} {e : TypeId} {size n o : Nat} {v : Value} {xs : List Value} {C0 : Array Value} {fr0 : Nat × Nat} {u : Value} {o' : Option Nat} (hv : w.ownsRow base e size v n xs) (he : e = 3 ∨ e = 9)
    (hb : w.heap[b]? = some (.cells C0 51 fr0)) (hh : Hop w w1 v.ownBlock o') : Still w (w1.setCell ⟨b, o, none⟩ u) := fun g C e' fr hg h1 h2 h3 => by
  have hgb : g ≠ b := fun e2 => by
    rw [e2, hb] at hg
    simp at hg
    exact h3 hg.2.1.symm
  have hne : some g ≠ v.ownBlock := own_ne hv hg (by rcases he with rfl | rfl <;> assumption)
  exact (heap_off hgb).trans ((hh.1.block g (Array.getElem?_eq_some_iff.1 hg).1 hne).trans hg)
/-- A list's box: two rows of its own. -/
def TBox (w : World) (base b : Nat) (t : Tl) : Prop :=
  ∃ vN vS, w.heap[b]? = some (.cells #[vN, vS] 51 (0, 0)) ∧ base ≤ b ∧ IRow w base vN t.1 ∧ TRow w base vS t.2
theorem TBox.lt {w : World} {base b : Nat} {t : Tl} (h : TBox w base b t) : b < w.heap.size := by
  obtain ⟨vN, vS, h1, _⟩ := h
  exact (Array.getElem?_eq_some_iff.1 h1).1
theorem TBox.base_le {w : World} {base b : Nat} {t : Tl} (h : TBox w base b t) : base ≤ b := by
  obtain ⟨vN, vS, _, h1, _⟩ := h
  exact h1
theorem TBox.grow {w w' : World} {base b : Nat} {t : Tl} (h : TBox w base b t) (k : Below w.heap.size w w') : TBox w' base b t := by
  have hl := h.lt
  obtain ⟨vN, vS, h1, h2, h3, h4⟩ := h
  exact ⟨vN, vS, (k.block b hl).trans h1, h2, h3.grow k, h4.grow k⟩
theorem heap_set {w : World} {b : Nat} {x y u : Value} {e : TypeId} (h : w.heap[b]? = some (.cells #[x, y] e (0, 0))) :
    (w.setCell ⟨b, 0, none⟩ u).heap[b]? = some (.cells #[u, y] e (0, 0)) ∧ (w.setCell ⟨b, 1, none⟩ u).heap[b]? = some (.cells #[x, u] e (0, 0)) := by
  constructor <;> (simp only [World.setCell, Array.getElem?_modify, if_true, h, Option.map_some]; rfl)
/-- Numbers have come. -/
theorem TBox.put0 {w w1 : World} {base b : Nat} {t : Tl} {vN vS v' : Value} {ns : List Int} (h1 : w.heap[b]? = some (.cells #[vN, vS] 51 (0, 0))) (h2 : base ≤ b) (hn : IRow w base vN t.1) (hs : TRow w base vS t.2)
    (hr : IRow w1 base v' (t.1 ++ ns)) (hh : Hop w w1 vN.ownBlock v'.ownBlock) (hbs : base ≤ w.heap.size) :
    TBox (w1.setCell ⟨b, 0, none⟩ v') base b (t.add (tlInts ns)) ∧ Below base w (w1.setCell ⟨b, 0, none⟩ v') ∧ w1.heap[b]? = some (.cells #[vN, vS] 51 (0, 0)) ∧ (∀ g, g < w.heap.size → g ≠ b → vN.ownBlock ≠ some g → (w1.setCell ⟨b, 0, none⟩ v').heap[g]? = w.heap[g]?) ∧ Still w (w1.setCell ⟨b, 0, none⟩ v') := by
  have hb : b < w.heap.size := (Array.getElem?_eq_some_iff.1 h1).1
  have hne := own_ne hn h1 (by decide)
  have hb1 : w1.heap[b]? = some (.cells #[vN, vS] 51 (0, 0)) := (hh.1.block b hb hne).trans h1
  have hs1 : TRow w1 base vS t.2 := hs.kept hh.1 (fun k hk => by
    obtain ⟨_, cur, hc⟩ := hs.cells hk
    exact fun e => own_ne hn hc (by decide) e.symm)
  refine ⟨⟨v', vS, (heap_set hb1).1, h2, ownsRow_setCell_other hr (fun e => own_ne hr hb1 (by decide) e.symm) _, ?_⟩, ?_, hb1, fun g hg hgb hgo => (heap_off hgb).trans (hh.1.block g hg (fun e => hgo e.symm)), still_hop hn (.inl rfl) h1 hh⟩
  · rw [show (t.add (tlInts ns)).2 = t.2 by simp [Tl.add, tlInts]]
    exact ownsRow_setCell_other hs1 (fun e => own_ne hs1 hb1 (by decide) e.symm) _
  · exact (hh.below hbs (fun k hk => (World.ownsRow.lt hn k hk).1)).setCell h2 _
theorem TBox.put1 {w w1 : World} {base b : Nat} {t : Tl} {vN vS v' : Value} {ss : List (List UInt8)} (h1 : w.heap[b]? = some (.cells #[vN, vS] 51 (0, 0))) (h2 : base ≤ b) (hn : IRow w base vN t.1) (hs : TRow w base vS t.2)
    (hr : TRow w1 base v' (t.2 ++ ss)) (hh : Hop w w1 vS.ownBlock v'.ownBlock) (hbs : base ≤ w.heap.size) :
    TBox (w1.setCell ⟨b, 1, none⟩ v') base b (t.add ([], ss)) ∧ Below base w (w1.setCell ⟨b, 1, none⟩ v') ∧ w1.heap[b]? = some (.cells #[vN, vS] 51 (0, 0)) ∧ Still w (w1.setCell ⟨b, 1, none⟩ v') := by
  have hb : b < w.heap.size := (Array.getElem?_eq_some_iff.1 h1).1
  have hne := own_ne hs h1 (by decide)
  have hb1 : w1.heap[b]? = some (.cells #[vN, vS] 51 (0, 0)) := (hh.1.block b hb hne).trans h1
  have hn1 : IRow w1 base vN t.1 := World.ownsRow.kept hn hh.1 (by
    cases e : vN.ownBlock with
    | none => exact .inl rfl
    | some k =>
      refine .inr (fun e2 => ?_)
      obtain ⟨cur, hc⟩ := hn.cells_ e
      exact own_ne hs hc (by decide) e2)
  refine ⟨⟨vN, v', (heap_set hb1).2, h2, ?_, ownsRow_setCell_other hr (fun e => own_ne hr hb1 (by decide) e.symm) _⟩, ?_, hb1, still_hop hs (.inr rfl) h1 hh⟩
  · rw [show (t.add ([], ss)).1 = t.1 by simp [Tl.add]]
    exact ownsRow_setCell_other hn1 (fun e => own_ne hn1 hb1 (by decide) e.symm) _
  · exact (hh.below hbs (fun k hk => (World.ownsRow.lt hs k hk).1)).setCell h2 _
/-- append of whatever numbers onto an own row. -/
theorem wpList_appI {w : World} {ops : Array Oper} {rest : List Oper} {o : Oper} {a : Act} {Q : Exit → Act → World → Prop} (hgd : o.guard = none) (s x : Operand)
    (ho : o.op = .call { callee := .builtin .append, args := #[s, x], argTypes := #[45, 45] })
    (base : Nat) (v : Value) (xs : List Int) (hv : a.eval s = v) (hown : IRow w base v xs) (X : Value) (ys : List Int) (hX : a.eval x = X)
    (hs : Src Tryd.prog 1 45 X ys.length (ic ys) w) (hn : xs.length + ys.length ≤ 1000000000000) (hbase : base ≤ w.heap.size)
    (h : ∀ v' w', IRow w' base v' (xs ++ ys) → Hop w w' v.ownBlock v'.ownBlock → wpList Tryd.prog ops Q rest (a.put o.dst v') w') : wpList Tryd.prog ops Q (o :: rest) a w := by
  obtain ⟨i0, hi, hz0, hz1, hz2⟩ := info_parts infoInt
  refine wpList_append_row hgd s x 45 45 ho base 3 i0 _ 1 8 Tryd.underlying45 hi hz0 hz1 hz2 rfl v _ _ hv hown X ys.length (ic ys) hX (fun v' w' h1 h2 => h v' w' (IRow.app h1 rfl) h2) hs ?_ ?_ hbase
  · unfold maxLen; omega
  · omega
theorem wpList_appT {w : World} {ops : Array Oper} {rest : List Oper} {o : Oper} {a : Act} {Q : Exit → Act → World → Prop} (hgd : o.guard = none) (s x : Operand)
    (ho : o.op = .call { callee := .builtin .append, args := #[s, x], argTypes := #[22, 22] })
    (base : Nat) (v : Value) (xs : List (List UInt8)) (hv : a.eval s = v) (hown : TRow w base v xs) (X : Value) (ys : List (List UInt8)) (hX : a.eval x = X)
    (hs : Src Tryd.prog 1 22 X ys.length (sc ys) w) (hn : xs.length + ys.length ≤ 1000000000000) (hbase : base ≤ w.heap.size)
    (h : ∀ v' w', TRow w' base v' (xs ++ ys) → Hop w w' v.ownBlock v'.ownBlock → wpList Tryd.prog ops Q rest (a.put o.dst v') w') : wpList Tryd.prog ops Q (o :: rest) a w := by
  obtain ⟨i0, hi, hz0, hz1, hz2⟩ := info_parts infoStr
  refine wpList_append_row hgd s x 22 22 ho base 9 i0 _ 1 16 Tryd.underlying22 hi hz0 hz1 hz2 rfl v _ _ hv hown X ys.length (sc ys) hX (fun v' w' h1 h2 => h v' w' (SRow.app h1 rfl) h2) hs ?_ ?_ hbase
  · unfold maxLen; omega
  · omega
set_option maxRecDepth 100000 in
/-- Numbers more. -/
theorem ints_tell (base b c : Nat) (A : Option Addr) (t : Tl) (ns : List Int) (w : World) (h : TBox w base b t) (hx : Ints w A c ns) (hN : t.1.length + ns.length ≤ 1000000000) (hbs : base ≤ w.heap.size) :
    Calls Tryd.prog 27 #[.pointer (some ⟨b, 0, none⟩), .slice A ns.length c] w fun e w' => e = .returned (.tuple #[]) ∧ TBox w' base b (t.add (tlInts ns)) ∧ Below base w w' ∧ Still w w' := by
  obtain ⟨vN, vS, h1, h2, hn, hs⟩ := h
  have HX := Lib.hid hx
  have HN := Lib.hid hn
  have HS := Lib.hid hs
  have HH := Lib.hid h1
  have c0 : w.cell? ⟨b, 0, none⟩ = some vN := by rw [Lib.cell_of_heap h1]; rfl
  clear hx hn hs h1
  go_enter Tryd.func27, Tryd.ntmps27
  go_wp2_with (at_builtin; refine wpList_appI rfl _ _ rfl base vN t.1 rfl HN.out _ ns rfl HX.out.src (by omega) hbs ?_; intro v1 w1 hr1 hh1; obtain ⟨p1, p2, p3, p4, p5⟩ := TBox.put0 HH.out h2 HN.out HS.out hr1 hh1 hbs; obtain ⟨A1, d1, ev1, _⟩ := hr1.reads; subst ev1; rw [List.length_append] at p1 p2 p4 p5; have P1 := Lib.hid p1; have Q1 := Lib.hid p5; have P2 := Lib.hid p2; have c1 : w1.cell? ⟨b, 0, none⟩ = some vN := (by rw [Lib.cell_of_heap p3]; rfl); have z1 : w1.frozen? ⟨b, 0, none⟩ = false := (by simp [World.frozen?, p3]); clear p1 p2 p3 p4 p5 hr1 hh1)
  go_end0
  exact ⟨rfl, P1.out, P2.out, Q1.out⟩
set_option maxRecDepth 100000 in
set_option maxHeartbeats 1000000 in
/-- Texts more, behind their number. -/
theorem texts_tell (base b c : Nat) (A : Option Addr) (t : Tl) (ss : List (List UInt8)) (w : World) (h : TBox w base b t) (hx : Txt w A c ss) (hxa : 0 < ss.length → TxtAt w base A) (hN : t.1.length + 1 ≤ 1000000000) (hS : t.2.length + ss.length ≤ 1000000000) (hbs : base ≤ w.heap.size) :
    Calls Tryd.prog 28 #[.pointer (some ⟨b, 0, none⟩), .slice A ss.length c] w fun e w' => e = .returned (.tuple #[]) ∧ TBox w' base b (t.add (tlTexts ss)) ∧ Below base w w' ∧ Still w w' := by
  have k1 := (Below.refl w.heap.size w).alloc (Nat.le_refl _) (.cells #[.int .i64 (ss.length : Int)] 3)
  have hz1 : base ≤ (w.alloc (.cells #[.int .i64 (ss.length : Int)] 3)).heap.size := Nat.le_trans hbs k1.size
  have HX := Lib.hid (hx.grow k1)
  have HXA := Lib.hid (show 0 < ss.length → TxtAt (w.alloc (.cells #[.int .i64 (ss.length : Int)] 3)) base A from fun hp g o e => by
    rcases hxa hp g o e with h | ⟨C, fr, h⟩
    · exact .inl h
    · exact .inr ⟨C, fr, (k1.block g (Array.getElem?_eq_some_iff.1 h).1).trans h⟩)
  have HI := Lib.hid (ints_new (heap_alloc_new w (.cells #[.int .i64 (ss.length : Int)] 3)) [(ss.length : Int)] rfl)
  have HK := Lib.hid (k1.mono hbs)
  have HQ := Lib.hid (still_below k1)
  have hlt := h.lt
  obtain ⟨vN, vS, h1, h2, hn, hs⟩ := h
  have c0 : w.cell? ⟨b, 0, none⟩ = some vN := by rw [Lib.cell_of_heap h1]; rfl
  have HN := Lib.hid (hn.grow k1)
  have HS := Lib.hid (hs.grow k1)
  have HH := Lib.hid ((k1.block b hlt).trans h1)
  clear hx hxa hn hs h1 k1
  go_enter Tryd.func28, Tryd.ntmps28
  go_upto_region 1 with (at_builtin; refine wpList_appI rfl _ _ rfl base vN t.1 rfl HN.out _ [(ss.length : Int)] rfl HI.out.src (by simp; omega) hz1 ?_; intro v1 w1 hr1 hh1; obtain ⟨p1, p2, p3, p4, p5⟩ := TBox.put0 HH.out h2 HN.out HS.out hr1 hh1 hz1; obtain ⟨A1, d1, ev1, _⟩ := hr1.reads; subst ev1; rw [List.length_append, show [(ss.length : Int)].length = 1 from rfl] at p1 p2 p4 p5; have P1 := Lib.hid p1; have Q1 := Lib.hid p5; have P2 := Lib.hid p2; have P4 := Lib.hid p4; have c1 : w1.cell? ⟨b, 0, none⟩ = some vN := (by rw [Lib.cell_of_heap p3]; rfl); have z1 : w1.frozen? ⟨b, 0, none⟩ = false := (by simp [World.frozen?, p3]); clear p1 p2 p3 p4 p5 hr1 hh1)
  generalize w1.setCell ⟨b, 0, none⟩ (Value.slice A1 (t.1.length + 1) d1) = x1 at P1 P2 P4 Q1 ⊢
  clear c0 c1 z1
  have HX2 := Lib.hid (HX.out.same P2.out.size (fun hp g o e hg => P4.out g hg
    (fun e2 => by
      subst e2
      rcases HXA.out hp g o e with h | ⟨C, fr, h⟩
      · omega
      · have h3 := HH.out
        rw [h] at h3
        simp at h3)
    (fun e2 => by
      rcases HXA.out hp g o e with h | ⟨C, fr, h⟩
      · have := (World.ownsRow.lt HN.out g e2).1
        omega
      · exact own_ne HN.out h (by decide) e2.symm)))
  have HZ := Lib.hid (Nat.le_trans hz1 P2.out.size)
  obtain ⟨vN2, vS2, h1b, h2b, hn2, hs2⟩ := P1.out
  have c1 : x1.cell? ⟨b, 1, none⟩ = some vS2 := by rw [Lib.cell_of_heap h1b]; rfl
  have HH2 := Lib.hid h1b
  have HN2 := Lib.hid hn2
  have HS2 := Lib.hid hs2
  have hl2 : (t.add (tlInts [(ss.length : Int)])).2.length + ss.length ≤ 1000000000000 := by
    rw [show (t.add (tlInts [(ss.length : Int)])).2 = t.2 by simp [Tl.add, tlInts]]
    omega
  have ha : (t.add (tlInts [(ss.length : Int)])).add ([], ss) = t.add (tlTexts ss) := by simp [Tl.add, tlInts, tlTexts]
  have HA := Lib.hid ha
  clear hn2 hs2 h1b HX HXA HI HN HS HH P4 P1 ha
  go_wp2_with (at_builtin; refine wpList_appT rfl _ _ rfl base vS2 _ rfl HS2.out _ ss rfl HX2.out.src hl2 HZ.out ?_; intro v2 w2 hr2 hh2; obtain ⟨p1, p2, p3, p5⟩ := TBox.put1 HH2.out h2b HN2.out HS2.out hr2 hh2 HZ.out; obtain ⟨A2, d2, ev2, _⟩ := hr2.reads; subst ev2; rw [HA.out] at p1; rw [List.length_append] at p1 p2 p5; have P5 := Lib.hid p1; have Q2 := Lib.hid p5; have P6 := Lib.hid p2; have c2 : w2.cell? ⟨b, 1, none⟩ = some vS2 := (by rw [Lib.cell_of_heap p3]; rfl); have z2 : w2.frozen? ⟨b, 1, none⟩ = false := (by simp [World.frozen?, p3]); clear p1 p2 p3 p5 hr2 hh2)
  go_end0
  exact ⟨rfl, P5.out, HK.out.trans (P2.out.trans P6.out), HQ.out.trans (Q1.out.trans Q2.out)⟩
end Go.Proofs.YtpjafbinlklojaaDoor

/- The walks of layer 20's list: a value, a code, attributes, a member. -/
namespace Go.Proofs.YtpjafbinlklojaaDoor
open Go.RowKit Go.Deep

theorem VBox.still {w w' : World} {q : Nat} {v : Pv} (h : VBox w q v) (k : Still w w') : VBox w' q v := k q _ _ _ h (by decide) (by decide) (by decide)
/-- A list of texts in a new block. -/
theorem txtAt_new {w : World} {base g : Nat} {C : Array Value} {fr : Nat × Nat} (hg : w.heap[g]? = some (.cells C 9 fr)) : TxtAt w base (some ⟨g, 0, none⟩) := fun g' o e => by
  cases e
  exact .inr ⟨C, fr, hg⟩
set_option maxRecDepth 100000 in
set_option maxHeartbeats 1000000 in
theorem value_tell (base b : Nat) (t : Tl) (v : Pv) (w : World) (h : TBox w base b t) (_hv : v.fits) (hN : t.1.length + 100 ≤ 1000000000) (hS : t.2.length + 100 ≤ 1000000000) (hbs : base ≤ w.heap.size) :
    Calls Tryd.prog 40 #[.pointer (some ⟨b, 0, none⟩), vv v] w fun e w' => e = .returned (.tuple #[]) ∧ TBox w' base b (t.add (tlVal v)) ∧ Below base w w' ∧ Still w w' := by
  have k1 := (Below.refl w.heap.size w).alloc (Nat.le_refl _) (.cells #[.int .i64 v.tag, .string (bs v.text), .int .u64 v.bits, .string (bs v.cls), .string (bs v.name), .string (bs v.desc)] 32)
  have HB := Lib.hid (vbox_new w v)
  have HT := Lib.hid (h.grow k1)
  have K1 := Lib.hid (k1.mono hbs)
  have S1 := Lib.hid (still_below k1)
  have hz1 : base ≤ (w.alloc (.cells #[.int .i64 v.tag, .string (bs v.text), .int .u64 v.bits, .string (bs v.cls), .string (bs v.name), .string (bs v.desc)] 32)).heap.size := Nat.le_trans hbs k1.size
  clear k1
  unfold vv
  go_enter Tryd.func40, Tryd.ntmps40
  go_upto_region 1 with fail
  generalize w.alloc (.cells #[.int .i64 v.tag, .string (bs v.text), .int .u64 v.bits, .string (bs v.cls), .string (bs v.name), .string (bs v.desc)] 32) = W at HB HT K1 S1 hz1 ⊢
  obtain ⟨d0, d1, d2, d3, d4, d5⟩ := HB.out.at_
  have hq := HB.out.lt
  have k2 := (Below.refl W.heap.size W).alloc (Nat.le_refl _) (.cells #[.int .i64 v.tag, .int .i64 (wrap64 (v.bits : Int))] 3)
  have C1 := Lib.hid (ints_tell base b 2 (some ⟨W.heap.size, 0, none⟩) t [v.tag, wrap64 (v.bits : Int)] _ (HT.out.grow k2) (ints_new (heap_alloc_new W (.cells #[.int .i64 v.tag, .int .i64 (wrap64 (v.bits : Int))] 3)) [v.tag, wrap64 (v.bits : Int)] rfl) (by simp; omega) (Nat.le_trans hz1 k2.size))
  have K2 := Lib.hid (k2.mono hz1)
  have S2 := Lib.hid (still_below k2)
  clear k2
  go_upto_region 2 with fail
  refine C1.out.mono ?_
  rintro e x1 ⟨rfl, t1, b1, s1⟩
  have HT1 := Lib.hid t1
  have K3 := Lib.hid b1
  have hz3 : base ≤ x1.heap.size := Nat.le_trans (Nat.le_trans hz1 K2.out.size) b1.size
  have S3 := Lib.hid (S2.out.trans s1)
  have HB3 := Lib.hid (HB.out.still (S2.out.trans s1))
  obtain ⟨g0, g1, g2, g3, g4, g5⟩ := HB3.out.at_
  have hq3 := HB3.out.lt
  have k4 := (Below.refl x1.heap.size x1).alloc (Nat.le_refl _) (.cells #[.string (bs v.text), .string (bs v.cls), .string (bs v.name), .string (bs v.desc)] 9)
  have C2 := Lib.hid (texts_tell base b 4 (some ⟨x1.heap.size, 0, none⟩) _ [v.text, v.cls, v.name, v.desc] _ (HT1.out.grow k4) (txt_new (heap_alloc_new x1 (.cells #[.string (bs v.text), .string (bs v.cls), .string (bs v.name), .string (bs v.desc)] 9)) [v.text, v.cls, v.name, v.desc] rfl)
    (fun _ => txtAt_new (heap_alloc_new x1 (.cells #[.string (bs v.text), .string (bs v.cls), .string (bs v.name), .string (bs v.desc)] 9))) (by simp [Tl.add, tlInts]; omega) (by simp [Tl.add, tlInts]; omega) (Nat.le_trans hz3 k4.size))
  have K4 := Lib.hid (k4.mono hz3)
  have S4 := Lib.hid (still_below k4)
  clear k4 t1 b1 s1 d0 d1 d2 d3 d4 d5 hq C1
  go_wp2_with fail
  refine C2.out.mono ?_
  rintro e x2 ⟨rfl, t2, b2, s2⟩
  have HT2 := Lib.hid t2
  have K5 := Lib.hid b2
  have S5 := Lib.hid s2
  clear t2 b2 s2 C2
  go_wp2_with fail
  go_end0
  exact ⟨rfl, (by have := HT2.out; rw [Tl.add_assoc] at this; exact this), K1.out.trans (K2.out.trans (K3.out.trans (K4.out.trans K5.out))), S1.out.trans (S3.out.trans (S4.out.trans S5.out))⟩
end Go.Proofs.YtpjafbinlklojaaDoor

/- How much a code tells in part: no more than in whole. Plain. -/
namespace Go.Proofs.YtpjafbinlklojaaDoor

theorem len_size (t : Tl) : t.1.length + t.2.length ≤ t.size := by
  have h : ∀ l : List (List UInt8), l.length ≤ (l.map fun s => s.length + 1).sum := fun l => by
    induction l with
    | nil => exact Nat.le_refl _
    | cons a l ih => simp only [List.map_cons, List.sum_cons, List.length_cons]; omega
  have := h t.2
  unfold Tl.size
  omega
theorem len_add (a b : Tl) : (a.add b).1.length + (a.add b).2.length = (a.1.length + a.2.length) + (b.1.length + b.2.length) := by
  simp only [Tl.add, List.length_append]
  omega
theorem size_mem {α : Type} (f : α → Tl) : ∀ (xs : List α) (x : α), x ∈ xs → (f x).size ≤ (tlAll f xs).size
  | y :: ys, x, h => by
    simp only [tlAll, Tl.size_add]
    rcases List.mem_cons.1 h with rfl | h
    · omega
    · have := size_mem f ys x h
      omega
theorem size_take {α : Type} (f : α → Tl) (xs : List α) (i : Nat) : (tlAll f (xs.take i)).size ≤ (tlAll f xs).size := by
  conv => rhs; rw [← List.take_append_drop i xs]
  rw [tlAll_app, Tl.size_add]
  omega
theorem code_sizes (y : Cde) : (tlCode y).size = 7 + (tlAll tlIns y.ops).size + (tlAll tlHnd y.handlers).size + (tlAll tlLno y.lines).size + (tlAll tlSlt y.slots).size := by
  simp only [tlCode, Tl.size_add, size_ints, List.length_cons, List.length_nil]
/-- Ahead of an instruction there is room. -/
theorem code_room (t u : Tl) (y : Cde) (hu : u.1.length + u.2.length = 7) (h : t.1.length + t.2.length + (tlCode y).size ≤ 100000000) (i : Nat) :
    ((t.add u).add (tlAll tlIns (y.ops.take i))).1.length + ((t.add u).add (tlAll tlIns (y.ops.take i))).2.length ≤ 200000000 := by
  have h1 := size_take tlIns y.ops i
  have h2 := len_size (tlAll tlIns (y.ops.take i))
  rw [code_sizes] at h
  rw [len_add, len_add]
  omega
theorem hnd_room (t u : Tl) (y : Cde) (hu : u.1.length + u.2.length = 7) (h : t.1.length + t.2.length + (tlCode y).size ≤ 100000000) (i : Nat) :
    (((t.add u).add (tlAll tlIns y.ops)).add (tlAll tlHnd (y.handlers.take i))).1.length + (((t.add u).add (tlAll tlIns y.ops)).add (tlAll tlHnd (y.handlers.take i))).2.length ≤ 200000000 := by
  have h1 := size_take tlHnd y.handlers i
  have h2 := len_size (tlAll tlHnd (y.handlers.take i))
  have h3 := len_size (tlAll tlIns y.ops)
  rw [code_sizes] at h
  rw [len_add, len_add, len_add]
  omega
theorem lno_room (t u u2 u3 : Tl) (y : Cde) (e2 : u2 = (t.add u).add (tlAll tlIns y.ops)) (e3 : u3 = u2.add (tlAll tlHnd y.handlers)) (hu : u.1.length + u.2.length = 7) (h : t.1.length + t.2.length + (tlCode y).size ≤ 100000000) (i : Nat) :
    (u3.add (tlAll tlLno (y.lines.take i))).1.length + (u3.add (tlAll tlLno (y.lines.take i))).2.length ≤ 200000000 := by
  have h1 := size_take tlLno y.lines i
  have h2 := len_size (tlAll tlLno (y.lines.take i))
  have h3 := len_size (tlAll tlIns y.ops)
  have h4 := len_size (tlAll tlHnd y.handlers)
  rw [code_sizes] at h
  rw [len_add, e3, len_add, e2, len_add, len_add]
  omega
theorem slt_room (t u u2 u3 u4 : Tl) (y : Cde) (e2 : u2 = (t.add u).add (tlAll tlIns y.ops)) (e3 : u3 = u2.add (tlAll tlHnd y.handlers)) (e4 : u4 = u3.add (tlAll tlLno y.lines)) (hu : u.1.length + u.2.length = 7) (h : t.1.length + t.2.length + (tlCode y).size ≤ 100000000) (i : Nat) :
    (u4.add (tlAll tlSlt (y.slots.take i))).1.length + (u4.add (tlAll tlSlt (y.slots.take i))).2.length ≤ 200000000 := by
  have h1 := size_take tlSlt y.slots i
  have h2 := len_size (tlAll tlSlt (y.slots.take i))
  have h3 := len_size (tlAll tlIns y.ops)
  have h4 := len_size (tlAll tlHnd y.handlers)
  have h5 := len_size (tlAll tlLno y.lines)
  rw [code_sizes] at h
  rw [len_add, e4, len_add, e3, len_add, e2, len_add, len_add]
  omega
theorem code_keys (t : Tl) (y : Cde) (h : t.1.length + t.2.length + (tlCode y).size ≤ 100000000) (x : Cins) (hx : x ∈ y.ops) : x.keys.length + x.targets.length ≤ 100000000 := by
  have h1 := size_mem tlIns y.ops x hx
  rw [code_sizes] at h
  have h2 : x.keys.length + x.targets.length ≤ (tlIns x).size := by
    simp only [tlIns, Tl.size_add, size_ints]
    omega
  omega
theorem atr_sizes (y : Atr) : (tlAtr y).size = 2 + (tlCode y.code).size + (tlVal y.value).size + (tlTexts y.throws).size + (tlAll tlInr y.inners).size + (tlTexts [y.signature, y.source]).size := by
  simp only [tlAtr, Tl.size_add, size_ints, List.length_cons, List.length_nil]
/-- Ahead of an inner class there is room. -/
theorem inr_room (t u5 : Tl) (y : Atr) (e5 : u5 = (((t.add (tlInts [y.has, (y.inners.length : Int)])).add (tlCode y.code)).add (tlVal y.value)).add (tlTexts y.throws)) (h : t.1.length + t.2.length + (tlAtr y).size ≤ 100000000) (i : Nat) :
    (u5.add (tlAll tlInr (y.inners.take i))).1.length + (u5.add (tlAll tlInr (y.inners.take i))).2.length ≤ 200000000 := by
  have h1 := size_take tlInr y.inners i
  have h2 := len_size (tlAll tlInr (y.inners.take i))
  have h3 := len_size (tlInts [y.has, (y.inners.length : Int)])
  have h4 := len_size (tlCode y.code)
  have h5 := len_size (tlVal y.value)
  have h6 := len_size (tlTexts y.throws)
  rw [size_ints] at h3
  simp only [List.length_cons, List.length_nil] at h3
  rw [atr_sizes] at h
  rw [len_add, e5, len_add, len_add, len_add, len_add]
  omega
end Go.Proofs.YtpjafbinlklojaaDoor
