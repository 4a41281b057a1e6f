/- The walks of layer 28: how many there are of a tag, the value of a number, a value's number. -/
import Derived.Test.YtekcfjfkbiciaaaTabS
import Derived.Test.YtekcfjfkbiciaaaNumber
namespace Go.Proofs.Ytekcfjfkbiciaaa
open Go.RowKit Go.Maps

theorem val_ret2 {fn : Func} {R : Ending → World → Prop} {a : Act} {w : World} {p u g : Nat} {v : Pv} {x : Value} (hf : fn.results = #[.cell p 25, .tmp u]) (hp : a.tmps.getD p undef = .pointer (some ⟨g, 0, none⟩)) (hu : a.tmps.getD u undef = x) (hb : VBox w g v) (hR : R (.returned (.tuple #[vv v, x])) w) (hd : a.defers = [] := by rfl) : bodyPost Try.prog fn R .ret a w :=
  bodyPost_ret (by
    rw [results_cell_tmp hf, hp, hu]
    simp only [asAddr, Sem.run_pure, Result.andThen_ok, run_loadVar_row w g 25 25 _ _ _ hb Try.underlying25 rfl sizeVal]
    rfl) hd hR
/-- A value stored over a box. -/
def stored (w : World) (b : Nat) (v : Pv) : World :=
  (((((w.setCell ⟨b, 0, none⟩ (.int .i64 v.tag)).setCell ⟨b, 1, none⟩ (.string (bs v.text))).setCell ⟨b, 2, none⟩ (.int .u64 v.bits)).setCell ⟨b, 3, none⟩ (.string (bs v.cls))).setCell ⟨b, 4, none⟩ (.string (bs v.name))).setCell ⟨b, 5, none⟩ (.string (bs v.desc))
theorem vbox_store {w : World} {b : Nat} {v0 : Pv} (h : VBox w b v0) (v : Pv) : VBox (stored w b v) b v :=
  box_set (box_set (box_set (box_set (box_set (box_set h _ rfl) _ rfl) _ rfl) _ rfl) _ rfl) _ rfl
theorem below_store {w0 w : World} {B b : Nat} (h : Below B w0 w) (hb : B ≤ b) (v : Pv) : Below B w0 (stored w b v) :=
  (((((h.setCell (p := ⟨b, 0, none⟩) hb _).setCell (p := ⟨b, 1, none⟩) hb _).setCell (p := ⟨b, 2, none⟩) hb _).setCell (p := ⟨b, 3, none⟩) hb _).setCell (p := ⟨b, 4, none⟩) hb _).setCell (p := ⟨b, 5, none⟩) hb _
theorem zero_cells {w : World} {b : Nat} (h : VBox w b Pv.zero) : w.cell? ⟨b, 0, none⟩ = some (.int .i64 0) ∧ w.cell? ⟨b, 1, none⟩ = some (.string ⟨#[]⟩) ∧ w.cell? ⟨b, 2, none⟩ = some (.int .u64 0) ∧
    w.cell? ⟨b, 3, none⟩ = some (.string ⟨#[]⟩) ∧ w.cell? ⟨b, 4, none⟩ = some (.string ⟨#[]⟩) ∧ w.cell? ⟨b, 5, none⟩ = some (.string ⟨#[]⟩) := h.at_
/-- The table of these values, which rise. -/
def TabOf (x : World) (base b m n : Nat) (us : Nat → Value) (O : List Pv) : Prop := TabS x base b m n us (fun t => Pv.row O t) (Pv.nums O O.length) (fun v => decide (v ∈ O))
theorem TabOf.grow {x y : World} {base b m n : Nat} {us : Nat → Value} {O : List Pv} (h : TabOf x base b m n us O) (k : Below x.heap.size x y) : TabOf y base b m n us O := TabS.grow h k
theorem len_nil (tag : Int) (w : World) : Calls Try.prog 9 #[.pointer none, .int .i64 tag] w fun e w' => e = .returned (.int .i64 0) ∧ w' = w := by
  go_enter Try.func9, Try.ntmps9
  go_wp2
  go_ret
  exact ⟨rfl, rfl⟩
set_option maxRecDepth 100000 in
theorem len_any (base b m n : Nat) (us : Nat → Value) (O : List Pv) (tag : Int) (w : World) (h : TabOf w base b m n us O) (hok : ∀ v ∈ O, v.chk 0 9 5 = 0) :
    Calls Try.prog 9 #[.pointer (some ⟨b, 0, none⟩), .int .i64 tag] w fun e w' => e = .returned (.int .i64 ((Pv.row O tag).length : Nat)) ∧ w' = w := by
  by_cases ht : 0 ≤ tag ∧ tag ≤ 12
  · obtain ⟨t, rfl⟩ : ∃ t : Nat, tag = (t : Int) := ⟨tag.toNat, by omega⟩
    have htl : t < 13 := by omega
    obtain ⟨A, c, e, _⟩ := (h.rows t htl).reads
    have hc := h.box.cell htl
    rw [e] at hc
    have p1 : decide ((t : Int) < 0) = false := decide_eq_false (by omega)
    have p2 : decide (12 < (t : Int)) = false := decide_eq_false (by omega)
    have p3 : decide (t < 13) = true := decide_eq_true htl
    have p4 : (t : Int) < 13 := by omega
    have hz := h.box.lt
    clear e h hok
    go_enter Try.func9, Try.ntmps9
    go_wp2
    go_ret
    exact ⟨rfl, rfl⟩
  · have hn : Pv.row O tag = [] := row_none hok (by omega)
    rw [hn]
    clear h hok hn
    by_cases h1 : tag < 0
    · have p1 : decide (tag < 0) = true := decide_eq_true h1
      go_enter Try.func9, Try.ntmps9
      go_wp2
      go_ret
      exact ⟨rfl, rfl⟩
    · have p1 : decide (tag < 0) = false := decide_eq_false h1
      have p2 : decide (12 < tag) = true := decide_eq_true (by omega)
      go_enter Try.func9, Try.ntmps9
      go_wp2
      go_ret
      exact ⟨rfl, rfl⟩
set_option maxRecDepth 100000 in
theorem at_none (p : Value) (ln : Nat) (tag i : Int) (w : World) (hlen : ∀ y, Below w.heap.size w y → Calls Try.prog 9 #[p, .int .i64 tag] y fun e w' => e = .returned (.int .i64 (ln : Nat)) ∧ w' = y) (hp : p = .pointer none ∨ ∃ b, p = .pointer (some ⟨b, 0, none⟩)) (hi : i < 0 ∨ (ln : Int) ≤ i) :
    Calls Try.prog 8 #[p, .int .i64 tag, .int .i64 i] w fun e w' => e = .returned (.tuple #[vv Pv.zero, .bool false]) ∧ Below w.heap.size w w' := by
  have HL := Lib.hid hlen
  have K0 := Lib.hid ((Below.refl w.heap.size w).alloc (Nat.le_refl _) (.cells #[.int .i64 0, .string ⟨#[]⟩, .int .u64 0, .string ⟨#[]⟩, .string ⟨#[]⟩, .string ⟨#[]⟩] 25))
  have Q0 := Lib.hid (show VBox (w.alloc (.cells #[.int .i64 0, .string ⟨#[]⟩, .int .u64 0, .string ⟨#[]⟩, .string ⟨#[]⟩, .string ⟨#[]⟩] 25)) w.heap.size Pv.zero from heap_alloc_new _ _)
  clear hlen
  by_cases h1 : i < 0
  · have p1 : decide (i < 0) = true := decide_eq_true h1
    clear hp
    go_enter Try.func8, Try.ntmps8
    go_upto_region 1 with fail
    generalize w.alloc (.cells #[.int .i64 0, .string ⟨#[]⟩, .int .u64 0, .string ⟨#[]⟩, .string ⟨#[]⟩, .string ⟨#[]⟩] 25) = W at K0 Q0 ⊢
    obtain ⟨z0, z1, z2, z3, z4, z5⟩ := zero_cells Q0.out
    have f0 := (blk_facts Q0.out).2 0
    have f1 := (blk_facts Q0.out).2 1
    have f2 := (blk_facts Q0.out).2 2
    have f3 := (blk_facts Q0.out).2 3
    have f4 := (blk_facts Q0.out).2 4
    have f5 := (blk_facts Q0.out).2 5
    have hz6 := Q0.out.lt
    go_wp2_with fail
    have hfin := vbox_store Q0.out Pv.zero
    have hbel := below_store K0.out (Nat.le_refl _) Pv.zero
    unfold stored at hfin hbel
    have e0 : ((0 : Nat) : Int) = 0 := rfl
    have e1 : bs [] = (⟨#[]⟩ : ByteArray) := rfl
    simp only [Pv.zero, e0, e1] at hfin hbel
    exact val_ret2 (g := w.heap.size) (v := Pv.zero) (x := .bool false) rfl rfl rfl hfin ⟨rfl, hbel⟩
  · have p1 : decide (i < 0) = false := decide_eq_false h1
    have p2 : decide ((ln : Int) ≤ i) = true := decide_eq_true (by omega)
    clear hp
    go_enter Try.func8, Try.ntmps8
    go_upto_region 1 with fail
    generalize w.alloc (.cells #[.int .i64 0, .string ⟨#[]⟩, .int .u64 0, .string ⟨#[]⟩, .string ⟨#[]⟩, .string ⟨#[]⟩] 25) = W at K0 Q0 ⊢
    go_wp2_with fail
    refine (HL.out W K0.out).mono ?_
    rintro e w1 ⟨rfl, rfl⟩
    obtain ⟨z0, z1, z2, z3, z4, z5⟩ := zero_cells Q0.out
    have f0 := (blk_facts Q0.out).2 0
    have f1 := (blk_facts Q0.out).2 1
    have f2 := (blk_facts Q0.out).2 2
    have f3 := (blk_facts Q0.out).2 3
    have f4 := (blk_facts Q0.out).2 4
    have f5 := (blk_facts Q0.out).2 5
    have hz6 := Q0.out.lt
    go_wp2_with fail
    have hfin := vbox_store Q0.out Pv.zero
    have hbel := below_store K0.out (Nat.le_refl _) Pv.zero
    unfold stored at hfin hbel
    have e0 : ((0 : Nat) : Int) = 0 := rfl
    have e1 : bs [] = (⟨#[]⟩ : ByteArray) := rfl
    simp only [Pv.zero, e0, e1] at hfin hbel
    exact val_ret2 (g := w.heap.size) (v := Pv.zero) (x := .bool false) rfl rfl rfl hfin ⟨rfl, hbel⟩
theorem at_nil (tag i : Int) (w : World) : Calls Try.prog 8 #[.pointer none, .int .i64 tag, .int .i64 i] w fun e w' => e = .returned (.tuple #[vv Pv.zero, .bool false]) ∧ Below w.heap.size w w' :=
  at_none _ 0 tag i w (fun w _ => len_nil tag w) (.inl rfl) (by omega)
theorem at_out (base b m n : Nat) (us : Nat → Value) (O : List Pv) (tag i : Int) (w : World) (h : TabOf w base b m n us O) (hok : ∀ v ∈ O, v.chk 0 9 5 = 0) (hi : i < 0 ∨ ((Pv.row O tag).length : Int) ≤ i) :
    Calls Try.prog 8 #[.pointer (some ⟨b, 0, none⟩), .int .i64 tag, .int .i64 i] w fun e w' => e = .returned (.tuple #[vv Pv.zero, .bool false]) ∧ Below w.heap.size w w' :=
  at_none _ _ tag i w (fun y k => len_any base b m n us O tag y (h.grow k) hok) (.inr ⟨_, rfl⟩) hi
set_option maxRecDepth 100000 in
theorem at_in (base b m n : Nat) (us : Nat → Value) (O : List Pv) (tag : Int) (i : Nat) (v : Pv) (w : World) (h : TabOf w base b m n us O) (hok : ∀ v ∈ O, v.chk 0 9 5 = 0) (hv : (Pv.row O tag)[i]? = some v) :
    Calls Try.prog 8 #[.pointer (some ⟨b, 0, none⟩), .int .i64 tag, .int .i64 i] w fun e w' => e = .returned (.tuple #[vv v, .bool true]) ∧ Below w.heap.size w w' := by
  have hm := mem_row.1 (List.mem_of_getElem? hv)
  have htg := chk_tag (hok v hm.1)
  rw [hm.2] at htg
  obtain ⟨t, rfl⟩ : ∃ t : Nat, tag = (t : Int) := ⟨tag.toNat, by omega⟩
  have htl : t < 13 := by omega
  have hil : i < (Pv.row O (t : Int)).length := (List.getElem?_eq_some_iff.1 hv).1
  have K0 := Lib.hid ((Below.refl w.heap.size w).alloc (Nat.le_refl _) (.cells #[.int .i64 0, .string ⟨#[]⟩, .int .u64 0, .string ⟨#[]⟩, .string ⟨#[]⟩, .string ⟨#[]⟩] 25))
  have Q0 := Lib.hid (show VBox (w.alloc (.cells #[.int .i64 0, .string ⟨#[]⟩, .int .u64 0, .string ⟨#[]⟩, .string ⟨#[]⟩, .string ⟨#[]⟩] 25)) w.heap.size Pv.zero from heap_alloc_new _ _)
  have HL := Lib.hid (len_any base b m n us O (t : Int) _ (h.grow K0.out) hok)
  have hb1 := (h.grow K0.out).box
  have hr1 := (h.grow K0.out).rows t htl
  obtain ⟨A, c, eu, hV, hA⟩ := hr1.reads
  have hc := hb1.cell htl
  rw [eu] at hc
  have hbz := hb1.lt
  obtain ⟨g, o, x, rfl, hg, hx, c0, c1, c2, c3, c4, c5⟩ := hV.at_ hil
  rw [hv] at hx
  cases hx
  have p1 : decide ((i : Int) < 0) = false := decide_eq_false (by omega)
  have p2 : decide (((Pv.row O (t : Int)).length : Int) ≤ (i : Int)) = false := decide_eq_false (by omega)
  have p2' : decide ((Pv.row O (t : Int)).length ≤ i) = false := decide_eq_false (by omega)
  have p3 : decide (t < 13) = true := decide_eq_true htl
  have p4 : (t : Int) < 13 := by omega
  have p5 : decide (i < (Pv.row O (t : Int)).length) = true := decide_eq_true hil
  have p6 : (i : Int) < ((Pv.row O (t : Int)).length : Int) := by omega
  clear h hok hv hm hb1 hr1 hV eu hA
  go_enter Try.func8, Try.ntmps8
  go_upto_region 1 with fail
  generalize w.alloc (.cells #[.int .i64 0, .string ⟨#[]⟩, .int .u64 0, .string ⟨#[]⟩, .string ⟨#[]⟩, .string ⟨#[]⟩] 25) = W at *
  go_wp2_with fail
  refine HL.out.mono ?_
  rintro e w1 ⟨rfl, rfl⟩
  obtain ⟨z0, z1, z2, z3, z4, z5⟩ := zero_cells Q0.out
  have f0 := (blk_facts Q0.out).2 0
  have f1 := (blk_facts Q0.out).2 1
  have f2 := (blk_facts Q0.out).2 2
  have f3 := (blk_facts Q0.out).2 3
  have f4 := (blk_facts Q0.out).2 4
  have f5 := (blk_facts Q0.out).2 5
  have hz6 := Q0.out.lt
  clear HL
  go_wp2_with fail
  have hfin := vbox_store Q0.out v
  have hbel := below_store K0.out (Nat.le_refl _) v
  unfold stored at hfin hbel
  exact val_ret2 (g := w.heap.size) (v := v) (x := .bool true) rfl rfl rfl hfin ⟨rfl, hbel⟩
set_option maxRecDepth 100000 in
theorem tnumber_any (base b m n : Nat) (us : Nat → Value) (O : List Pv) (v : Pv) (w : World) (h : TabOf w base b m n us O) (hv : v.fitsK) :
    Calls Try.prog 10 #[.pointer (some ⟨b, 0, none⟩), vv v] w fun e w' => e = .returned (.tuple #[.int .i64 (Pv.nums O O.length v), .bool (decide (v ∈ O))]) ∧ Below w.heap.size w w' := by
  have k0 := Lib.hid ((Below.refl w.heap.size w).alloc (Nat.le_refl _) (.cells #[.int .i64 v.tag, .string (bs v.text), .int .u64 v.bits, .string (bs v.cls), .string (bs v.name), .string (bs v.desc)] 25))
  have q0 := Lib.hid (vbox_new w v)
  have hp1 := h.grow k0.out
  have m1 := hp1.box.map
  have hbz := h.box.lt
  have hlk := fun q => VTab.look (show VTab ((w.alloc (.cells #[.int .i64 v.tag, .string (bs v.text), .int .u64 v.bits, .string (bs v.cls), .string (bs v.name), .string (bs v.desc)] 25)).drewN q) m n _ _ from hp1.num) hv
  have hbne : ¬ b = w.heap.size := by omega
  clear h hp1
  unfold vv at hlk ⊢
  go_enter Try.func10, Try.ntmps10
  go_wp2_with fail
  go_quiet (fail)
  go_wp2
  go_ret2
  exact ⟨rfl, below_drewN k0.out _⟩
end Go.Proofs.Ytekcfjfkbiciaaa
