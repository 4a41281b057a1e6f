/- Joined texts: TabA, TabF, Cg, Cd, Be, Bits, BhA, BhP, BhB. -/
import Derived.Test.YtkdamaomhppkgaaGreatPk6
import Derived.Test.YtkdamaomhppkgaaGreatPk2
import Derived.Lib.SliceRun
import Derived.BigQuiet
import Derived.Deep.QuietTactic
import Derived.Deep.CutRange
import Derived.LoopN
import Derived.Carry
import Derived.Deep.DeepCutAuto
import Derived.Laws.Bits64b
import Derived.Test.YtkdamaomhppkgaaGreatPk1
import Derived.WalkKit
import Derived.Test.YtkdamaomhppkgaaGreatPk4
import Derived.Test.YtkdamaomhppkgaaGreatProg
import Derived.WalkSpells
import Derived.Lib.Hide
/- The walks of layer 28: how many there are of a tag, the value of a number, a value's number. -/
namespace Go.Proofs.YtkdamaomhppkgaaGreat
open Go.RowKit Go.Maps

theorem tbox_set {w : World} {b o : Nat} {cur cur' : Array Value} {t : TypeId} (h : w.heap[b]? = some (.cells cur t (0, 0))) (u : Value) (he : cur.setIfInBounds o u = cur') : (w.setCell ⟨b, o, none⟩ u).heap[b]? = some (.cells cur' t (0, 0)) := by
  rw [setCell_eq_setRow w b o _ _ _ u h, ← he]
  exact setRow_heap w b _ _ _ _ h
theorem val_ret2 {fn : Func} {R : Ending → World → Prop} {a : Act} {w : World} {p u g : Nat} {v : Pv} {x : Value} (hf : fn.results = #[.cell p 36, .tmp u]) (hp : a.tmps.getD p undef = .pointer (some ⟨g, 0, none⟩)) (hu : a.tmps.getD u undef = x) (hb : VBox w g v) (hR : R (.returned (.tuple #[vv v, x])) w) (hd : a.defers = [] := by rfl) : bodyPost Tryz.prog fn R .ret a w :=
  bodyPost_ret (by
    rw [results_cell_tmp hf, hp, hu]
    simp only [asAddr, Sem.run_pure, Result.andThen_ok, run_loadVar_row w g 36 36 _ _ _ hb Tryz.underlying36 rfl sizeVal]
    rfl) hd hR
/-- A value stored over a box. -/
def stored (w : World) (b : Nat) (v : Pv) : World :=
  (((((w.setCell ⟨b, 0, none⟩ (.int .i64 v.tag)).setCell ⟨b, 1, none⟩ (.string (bs v.text))).setCell ⟨b, 2, none⟩ (.int .u64 v.bits)).setCell ⟨b, 3, none⟩ (.string (bs v.cls))).setCell ⟨b, 4, none⟩ (.string (bs v.name))).setCell ⟨b, 5, none⟩ (.string (bs v.desc))
theorem vbox_store {w : World} {b : Nat} {v0 : Pv} (h : VBox w b v0) (v : Pv) : VBox (stored w b v) b v :=
  tbox_set (tbox_set (tbox_set (tbox_set (tbox_set (tbox_set h _ rfl) _ rfl) _ rfl) _ rfl) _ rfl) _ rfl
theorem below_store {w0 w : World} {B b : Nat} (h : Below B w0 w) (hb : B ≤ b) (v : Pv) : Below B w0 (stored w b v) :=
  (((((h.setCell (p := ⟨b, 0, none⟩) hb _).setCell (p := ⟨b, 1, none⟩) hb _).setCell (p := ⟨b, 2, none⟩) hb _).setCell (p := ⟨b, 3, none⟩) hb _).setCell (p := ⟨b, 4, none⟩) hb _).setCell (p := ⟨b, 5, none⟩) hb _
theorem zero_cells {w : World} {b : Nat} (h : VBox w b Pv.zero) : w.cell? ⟨b, 0, none⟩ = some (.int .i64 0) ∧ w.cell? ⟨b, 1, none⟩ = some (.string ⟨#[]⟩) ∧ w.cell? ⟨b, 2, none⟩ = some (.int .u64 0) ∧
    w.cell? ⟨b, 3, none⟩ = some (.string ⟨#[]⟩) ∧ w.cell? ⟨b, 4, none⟩ = some (.string ⟨#[]⟩) ∧ w.cell? ⟨b, 5, none⟩ = some (.string ⟨#[]⟩) := h.at_
/-- The table of these values, which rise. -/
def TabOf (x : World) (base b m n : Nat) (us : Nat → Value) (O : List Pv) : Prop := TabS x base b m n us (fun t => Pv.row O t) (Pv.nums O O.length) (fun v => decide (v ∈ O))
theorem TabOf.grow {x y : World} {base b m n : Nat} {us : Nat → Value} {O : List Pv} (h : TabOf x base b m n us O) (k : Below x.heap.size x y) : TabOf y base b m n us O := TabS.grow h k
theorem len_nil (tag : Int) (w : World) : Calls Tryz.prog 15 #[.pointer none, .int .i64 tag] w fun e w' => e = .returned (.int .i64 0) ∧ w' = w := by
  go_enter Tryz.func15, Tryz.ntmps15
  go_wp2
  go_ret
  exact ⟨rfl, rfl⟩
set_option maxRecDepth 100000 in
theorem len_any (base b m n : Nat) (us : Nat → Value) (O : List Pv) (tag : Int) (w : World) (h : TabOf w base b m n us O) (hok : ∀ v ∈ O, v.chk 0 9 5 = 0) :
    Calls Tryz.prog 15 #[.pointer (some ⟨b, 0, none⟩), .int .i64 tag] w fun e w' => e = .returned (.int .i64 ((Pv.row O tag).length : Nat)) ∧ w' = w := by
  by_cases ht : 0 ≤ tag ∧ tag ≤ 12
  · obtain ⟨t, rfl⟩ : ∃ t : Nat, tag = (t : Int) := ⟨tag.toNat, by omega⟩
    have htl : t < 13 := by omega
    obtain ⟨A, c, e, _⟩ := (h.rows t htl).reads
    have hc := h.box.cell htl
    rw [e] at hc
    have p1 : decide ((t : Int) < 0) = false := decide_eq_false (by omega)
    have p2 : decide (12 < (t : Int)) = false := decide_eq_false (by omega)
    have p3 : decide (t < 13) = true := decide_eq_true htl
    have p4 : (t : Int) < 13 := by omega
    have hz := h.box.lt
    clear e h hok
    go_enter Tryz.func15, Tryz.ntmps15
    go_wp2
    go_ret
    exact ⟨rfl, rfl⟩
  · have hn : Pv.row O tag = [] := row_none hok (by omega)
    rw [hn]
    clear h hok hn
    by_cases h1 : tag < 0
    · have p1 : decide (tag < 0) = true := decide_eq_true h1
      go_enter Tryz.func15, Tryz.ntmps15
      go_wp2
      go_ret
      exact ⟨rfl, rfl⟩
    · have p1 : decide (tag < 0) = false := decide_eq_false h1
      have p2 : decide (12 < tag) = true := decide_eq_true (by omega)
      go_enter Tryz.func15, Tryz.ntmps15
      go_wp2
      go_ret
      exact ⟨rfl, rfl⟩
set_option maxRecDepth 100000 in
theorem at_none (p : Value) (ln : Nat) (tag i : Int) (w : World) (hlen : ∀ y, Below w.heap.size w y → Calls Tryz.prog 15 #[p, .int .i64 tag] y fun e w' => e = .returned (.int .i64 (ln : Nat)) ∧ w' = y) (_hp : p = .pointer none ∨ ∃ b, p = .pointer (some ⟨b, 0, none⟩)) (hi : i < 0 ∨ (ln : Int) ≤ i) :
    Calls Tryz.prog 16 #[p, .int .i64 tag, .int .i64 i] w fun e w' => e = .returned (.tuple #[vv Pv.zero, .bool false]) ∧ Below w.heap.size w w' := by
  have HL := Lib.hid hlen
  have K0 := Lib.hid ((Below.refl w.heap.size w).alloc (Nat.le_refl _) (.cells #[.int .i64 0, .string ⟨#[]⟩, .int .u64 0, .string ⟨#[]⟩, .string ⟨#[]⟩, .string ⟨#[]⟩] 36))
  have Q0 := Lib.hid (show VBox (w.alloc (.cells #[.int .i64 0, .string ⟨#[]⟩, .int .u64 0, .string ⟨#[]⟩, .string ⟨#[]⟩, .string ⟨#[]⟩] 36)) w.heap.size Pv.zero from heap_alloc_new _ _)
  clear hlen
  by_cases h1 : i < 0
  · have p1 : decide (i < 0) = true := decide_eq_true h1
    clear _hp
    go_enter Tryz.func16, Tryz.ntmps16
    go_upto_region 1 with fail
    generalize w.alloc (.cells #[.int .i64 0, .string ⟨#[]⟩, .int .u64 0, .string ⟨#[]⟩, .string ⟨#[]⟩, .string ⟨#[]⟩] 36) = W at K0 Q0 ⊢
    obtain ⟨z0, z1, z2, z3, z4, z5⟩ := zero_cells Q0.out
    have f0 := (blk_facts Q0.out).2 0
    have f1 := (blk_facts Q0.out).2 1
    have f2 := (blk_facts Q0.out).2 2
    have f3 := (blk_facts Q0.out).2 3
    have f4 := (blk_facts Q0.out).2 4
    have f5 := (blk_facts Q0.out).2 5
    have hz6 := Q0.out.lt
    go_wp2_with fail
    have hfin := vbox_store Q0.out Pv.zero
    have hbel := below_store K0.out (Nat.le_refl _) Pv.zero
    unfold stored at hfin hbel
    have e0 : ((0 : Nat) : Int) = 0 := rfl
    have e1 : bs [] = (⟨#[]⟩ : ByteArray) := rfl
    simp only [Pv.zero, e0, e1] at hfin hbel
    exact val_ret2 (g := w.heap.size) (v := Pv.zero) (x := .bool false) rfl rfl rfl hfin ⟨rfl, hbel⟩
  · have p1 : decide (i < 0) = false := decide_eq_false h1
    have p2 : decide ((ln : Int) ≤ i) = true := decide_eq_true (by omega)
    clear _hp
    go_enter Tryz.func16, Tryz.ntmps16
    go_upto_region 1 with fail
    generalize w.alloc (.cells #[.int .i64 0, .string ⟨#[]⟩, .int .u64 0, .string ⟨#[]⟩, .string ⟨#[]⟩, .string ⟨#[]⟩] 36) = W at K0 Q0 ⊢
    go_wp2_with fail
    refine (HL.out W K0.out).mono ?_
    rintro e w1 ⟨rfl, rfl⟩
    obtain ⟨z0, z1, z2, z3, z4, z5⟩ := zero_cells Q0.out
    have f0 := (blk_facts Q0.out).2 0
    have f1 := (blk_facts Q0.out).2 1
    have f2 := (blk_facts Q0.out).2 2
    have f3 := (blk_facts Q0.out).2 3
    have f4 := (blk_facts Q0.out).2 4
    have f5 := (blk_facts Q0.out).2 5
    have hz6 := Q0.out.lt
    go_wp2_with fail
    have hfin := vbox_store Q0.out Pv.zero
    have hbel := below_store K0.out (Nat.le_refl _) Pv.zero
    unfold stored at hfin hbel
    have e0 : ((0 : Nat) : Int) = 0 := rfl
    have e1 : bs [] = (⟨#[]⟩ : ByteArray) := rfl
    simp only [Pv.zero, e0, e1] at hfin hbel
    exact val_ret2 (g := w.heap.size) (v := Pv.zero) (x := .bool false) rfl rfl rfl hfin ⟨rfl, hbel⟩
theorem at_nil (tag i : Int) (w : World) : Calls Tryz.prog 16 #[.pointer none, .int .i64 tag, .int .i64 i] w fun e w' => e = .returned (.tuple #[vv Pv.zero, .bool false]) ∧ Below w.heap.size w w' :=
  at_none _ 0 tag i w (fun w _ => len_nil tag w) (.inl rfl) (by omega)
theorem at_out (base b m n : Nat) (us : Nat → Value) (O : List Pv) (tag i : Int) (w : World) (h : TabOf w base b m n us O) (hok : ∀ v ∈ O, v.chk 0 9 5 = 0) (hi : i < 0 ∨ ((Pv.row O tag).length : Int) ≤ i) :
    Calls Tryz.prog 16 #[.pointer (some ⟨b, 0, none⟩), .int .i64 tag, .int .i64 i] w fun e w' => e = .returned (.tuple #[vv Pv.zero, .bool false]) ∧ Below w.heap.size w w' :=
  at_none _ _ tag i w (fun y k => len_any base b m n us O tag y (h.grow k) hok) (.inr ⟨_, rfl⟩) hi
set_option maxRecDepth 100000 in
theorem at_in (base b m n : Nat) (us : Nat → Value) (O : List Pv) (tag : Int) (i : Nat) (v : Pv) (w : World) (h : TabOf w base b m n us O) (hok : ∀ v ∈ O, v.chk 0 9 5 = 0) (hv : (Pv.row O tag)[i]? = some v) :
    Calls Tryz.prog 16 #[.pointer (some ⟨b, 0, none⟩), .int .i64 tag, .int .i64 i] w fun e w' => e = .returned (.tuple #[vv v, .bool true]) ∧ Below w.heap.size w w' := by
  have hm := mem_row.1 (List.mem_of_getElem? hv)
  have htg := chk_tag (hok v hm.1)
  rw [hm.2] at htg
  obtain ⟨t, rfl⟩ : ∃ t : Nat, tag = (t : Int) := ⟨tag.toNat, by omega⟩
  have htl : t < 13 := by omega
  have hil : i < (Pv.row O (t : Int)).length := (List.getElem?_eq_some_iff.1 hv).1
  have K0 := Lib.hid ((Below.refl w.heap.size w).alloc (Nat.le_refl _) (.cells #[.int .i64 0, .string ⟨#[]⟩, .int .u64 0, .string ⟨#[]⟩, .string ⟨#[]⟩, .string ⟨#[]⟩] 36))
  have Q0 := Lib.hid (show VBox (w.alloc (.cells #[.int .i64 0, .string ⟨#[]⟩, .int .u64 0, .string ⟨#[]⟩, .string ⟨#[]⟩, .string ⟨#[]⟩] 36)) w.heap.size Pv.zero from heap_alloc_new _ _)
  have HL := Lib.hid (len_any base b m n us O (t : Int) _ (h.grow K0.out) hok)
  have hb1 := (h.grow K0.out).box
  have hr1 := (h.grow K0.out).rows t htl
  obtain ⟨A, c, eu, hV, hA⟩ := hr1.reads
  have hc := hb1.cell htl
  rw [eu] at hc
  have hbz := hb1.lt
  obtain ⟨g, o, x, rfl, hg, hx, c0, c1, c2, c3, c4, c5⟩ := hV.at_ hil
  rw [hv] at hx
  cases hx
  have p1 : decide ((i : Int) < 0) = false := decide_eq_false (by omega)
  have p2 : decide (((Pv.row O (t : Int)).length : Int) ≤ (i : Int)) = false := decide_eq_false (by omega)
  have p2' : decide ((Pv.row O (t : Int)).length ≤ i) = false := decide_eq_false (by omega)
  have p3 : decide (t < 13) = true := decide_eq_true htl
  have p4 : (t : Int) < 13 := by omega
  have p5 : decide (i < (Pv.row O (t : Int)).length) = true := decide_eq_true hil
  have p6 : (i : Int) < ((Pv.row O (t : Int)).length : Int) := by omega
  clear h hok hv hm hb1 hr1 hV eu hA
  go_enter Tryz.func16, Tryz.ntmps16
  go_upto_region 1 with fail
  generalize w.alloc (.cells #[.int .i64 0, .string ⟨#[]⟩, .int .u64 0, .string ⟨#[]⟩, .string ⟨#[]⟩, .string ⟨#[]⟩] 36) = W at *
  go_wp2_with fail
  refine HL.out.mono ?_
  rintro e w1 ⟨rfl, rfl⟩
  obtain ⟨z0, z1, z2, z3, z4, z5⟩ := zero_cells Q0.out
  have f0 := (blk_facts Q0.out).2 0
  have f1 := (blk_facts Q0.out).2 1
  have f2 := (blk_facts Q0.out).2 2
  have f3 := (blk_facts Q0.out).2 3
  have f4 := (blk_facts Q0.out).2 4
  have f5 := (blk_facts Q0.out).2 5
  have hz6 := Q0.out.lt
  clear HL
  go_wp2_with fail
  have hfin := vbox_store Q0.out v
  have hbel := below_store K0.out (Nat.le_refl _) v
  unfold stored at hfin hbel
  exact val_ret2 (g := w.heap.size) (v := v) (x := .bool true) rfl rfl rfl hfin ⟨rfl, hbel⟩
set_option maxRecDepth 100000 in
theorem tnumber_any (base b m n : Nat) (us : Nat → Value) (O : List Pv) (v : Pv) (w : World) (h : TabOf w base b m n us O) (hv : v.fitsK) :
    Calls Tryz.prog 18 #[.pointer (some ⟨b, 0, none⟩), vv v] w fun e w' => e = .returned (.tuple #[.int .i64 (Pv.nums O O.length v), .bool (decide (v ∈ O))]) ∧ Below w.heap.size w w' := by
  have k0 := Lib.hid ((Below.refl w.heap.size w).alloc (Nat.le_refl _) (.cells #[.int .i64 v.tag, .string (bs v.text), .int .u64 v.bits, .string (bs v.cls), .string (bs v.name), .string (bs v.desc)] 36))
  have q0 := Lib.hid (vbox_new w v)
  have hp1 := h.grow k0.out
  have m1 := hp1.box.map
  have hbz := h.box.lt
  have hlk := fun q => VTab.look (show VTab ((w.alloc (.cells #[.int .i64 v.tag, .string (bs v.text), .int .u64 v.bits, .string (bs v.cls), .string (bs v.name), .string (bs v.desc)] 36)).drewN q) m n _ _ from hp1.num) hv
  have hbne : ¬ b = w.heap.size := by omega
  clear h hp1
  unfold vv at hlk ⊢
  go_enter Tryz.func18, Tryz.ntmps18
  go_wp2_with fail
  go_quiet (fail)
  go_wp2
  go_ret2
  exact ⟨rfl, below_drewN k0.out _⟩
end Go.Proofs.YtkdamaomhppkgaaGreat

/- The walk of layer 28: an empty table; what serves in the loop that fills it. -/
namespace Go.Proofs.YtkdamaomhppkgaaGreat
open Go.RowKit Go.Maps

set_option maxRecDepth 100000 in
theorem start_new (w : World) : Calls Tryz.prog 23 #[] w fun e w' => ∃ us : Nat → Value, (∀ s, us s = .slice none 0 0) ∧ e = .returned (.pointer (some ⟨w.heap.size + 1, 0, none⟩)) ∧ TabS w' w.heap.size (w.heap.size + 1) w.heap.size 0 us (fun _ => []) (fun _ => 0) (fun _ => false) ∧ Below w.heap.size w w' := by
  have hmm := @run_makeMap Tryz.prog
  have k0 := (Below.refl w.heap.size w).alloc (Nat.le_refl _) (.map #[] 0)
  have k1 := Lib.hid (k0.alloc k0.size (.cells #[.slice none 0 0, .slice none 0 0, .slice none 0 0, .slice none 0 0, .slice none 0 0, .slice none 0 0, .slice none 0 0, .slice none 0 0, .slice none 0 0, .slice none 0 0, .slice none 0 0, .slice none 0 0, .slice none 0 0, .map (some w.heap.size)] 70))
  have T := Lib.hid (show TabS ((w.alloc (.map #[] 0)).alloc (.cells #[.slice none 0 0, .slice none 0 0, .slice none 0 0, .slice none 0 0, .slice none 0 0, .slice none 0 0, .slice none 0 0, .slice none 0 0, .slice none 0 0, .slice none 0 0, .slice none 0 0, .slice none 0 0, .slice none 0 0, .map (some w.heap.size)] 70)) w.heap.size (w.heap.size + 1) w.heap.size 0 (fun _ => .slice none 0 0) (fun _ => []) (fun _ => 0) (fun _ => false) from
    ⟨⟨_, heap_alloc2_new w (.map #[] 0) _, rfl, (fun t ht => by
      obtain rfl | rfl | rfl | rfl | rfl | rfl | rfl | rfl | rfl | rfl | rfl | rfl | rfl : t = 0 ∨ t = 1 ∨ t = 2 ∨ t = 3 ∨ t = 4 ∨ t = 5 ∨ t = 6 ∨ t = 7 ∨ t = 8 ∨ t = 9 ∨ t = 10 ∨ t = 11 ∨ t = 12 := by omega
      all_goals rfl), rfl⟩, fun t _ => VRow.nil _ _, (fun s t _ _ _ k hk => by cases hk), (VTab.made w).grow ((Below.refl _ _).alloc (Nat.le_refl _) _), by omega, Nat.le_refl _⟩)
  clear k0
  go_enter Tryz.func23, Tryz.ntmps23
  go_wp2
  go_ret
  exact ⟨_, fun _ => rfl, rfl, T.out, k1.out⟩
theorem TabS.lower {x : World} {base b' b m n : Nat} {us : Nat → Value} {R : Nat → List Pv} {f : Pv → Int} {S : Pv → Bool} (h : TabS x base b m n us R f S) (hb : b' ≤ base) : TabS x b' b m n us R f S :=
  ⟨h.box, fun t ht => (h.rows t ht).lower hb, h.apart, h.num, Nat.le_trans hb h.hb, Nat.le_trans hb h.hm⟩
theorem TabS.same {x : World} {base b m n : Nat} {us : Nat → Value} {R R' : Nat → List Pv} {f f' : Pv → Int} {S S' : Pv → Bool} (h : TabS x base b m n us R f S) (hR : ∀ t, R t = R' t) (hf : ∀ v, f v = f' v) (hS : ∀ v, S v = S' v) : TabS x base b m n us R' f' S' := by
  obtain rfl : R = R' := funext hR
  obtain rfl : f = f' := funext hf
  obtain rfl : S = S' := funext hS
  exact h
theorem Vals.block {w w' : World} {A : Option Addr} {c : Nat} {xs : List Pv} (h : Vals w A c xs) (hs : w.heap.size ≤ w'.heap.size) (hk : ∀ g o, A = some ⟨g, o, none⟩ → w'.heap[g]? = w.heap[g]?) : Vals w' A c xs :=
  ⟨h.1, fun hp => by
    obtain ⟨g, o, e, hg, hc⟩ := h.2 hp
    have hb := hk g o e
    have hcell : ∀ j, w'.cell? ⟨g, j, none⟩ = w.cell? ⟨g, j, none⟩ := fun j => by unfold World.cell?; rw [hb]
    refine ⟨g, o, e, Nat.lt_of_lt_of_le hg hs, fun j v hv => ?_⟩
    obtain ⟨h0, h1, h2, h3, h4, h5⟩ := hc j v hv
    exact ⟨(hcell _).trans h0, (hcell _).trans h1, (hcell _).trans h2, (hcell _).trans h3, (hcell _).trans h4, (hcell _).trans h5⟩⟩
theorem vals_one {w : World} {B : Nat} {v : Pv} (hb : w.heap[B]? = some (.cells #[.int .i64 v.tag, .string (bs v.text), .int .u64 v.bits, .string (bs v.cls), .string (bs v.name), .string (bs v.desc)] 36 (0, 0))) : Vals w (some ⟨B, 0, none⟩) 1 [v] :=
  VRow.vals (vrow_of_block (base := 0) hb (Nat.zero_le _) [v] rfl rfl (by simp))
/-- A table that has taken in the first values of a list, one more. -/
theorem TabS.next {x : World} {base b m n : Nat} {us : Nat → Value} {O : List Pv} {i t : Nat} {v : Pv} (hv : O[i]? = some v) (hn : O.Nodup) (ht : v.tag = (t : Int))
    (h : TabS x base b m n us (fun k => if k = t then (fun t : Nat => Pv.row (O.take i) t) t ++ [v] else (fun t : Nat => Pv.row (O.take i) t) k) (fun u => if u = v then (((fun t : Nat => Pv.row (O.take i) t) t).length : Int) else Pv.nums O i u) (fun u => decide (u = v) || decide (u ∈ O.take i))) :
    TabS x base b m n us (fun t => Pv.row (O.take (i + 1)) t) (Pv.nums O (i + 1)) (fun u => decide (u ∈ O.take (i + 1))) := by
  refine h.same (fun k => ?_) (fun u => ?_) (fun u => ?_)
  · dsimp only
    rw [row_snoc hv]
    by_cases e : k = t
    · subst e
      rw [if_pos rfl, if_pos ht]
    · rw [if_neg e, if_neg (fun h => e (by omega)), List.append_nil]
  · rw [nums_next hn hv, ht]
  · obtain ⟨h1, rfl⟩ := List.getElem?_eq_some_iff.1 hv
    have hm : u ∈ O.take (i + 1) ↔ u ∈ O.take i ∨ u = O[i] := by
      rw [List.take_succ_eq_append_getElem h1, List.mem_append, List.mem_singleton]
    by_cases e : u = O[i]
    · rw [decide_eq_true e, decide_eq_true (hm.2 (.inr e))]; rfl
    · rw [decide_eq_false e, Bool.false_or]
      exact decide_eq_decide.2 ⟨fun h => hm.2 (.inl h), fun h => (hm.1 h).resolve_right e⟩
end Go.Proofs.YtkdamaomhppkgaaGreat

/- The walk of layer 28: a value of what is told of it. -/
namespace Go.Proofs.YtkdamaomhppkgaaGreat
open Go.RowKit Go.Maps Pp

/-- A value of what is told, and whether what it needs is there. -/
def madeV (T : List Pv) (t a b : Int) : Pv × Bool :=
  if t = 7 ∨ t = 8 then (⟨t, ((atT T 1 a).getD Pv.zero).text, 0, [], [], []⟩, (atT T 1 a).isSome)
  else if t = 12 then (⟨t, [], 0, [], ((atT T 1 a).getD Pv.zero).text, ((atT T 1 b).getD Pv.zero).text⟩, (atT T 1 a).isSome && (atT T 1 b).isSome)
  else if t = 9 ∨ t = 10 ∨ t = 11 then (⟨t, [], 0, ((atT T 7 a).getD Pv.zero).text, ((atT T 12 b).getD Pv.zero).name, ((atT T 12 b).getD Pv.zero).desc⟩, (atT T 7 a).isSome && (atT T 12 b).isSome)
  else (⟨t, [], (a % 4294967296).toNat * 4294967296 + (b % 4294967296).toNat, [], [], []⟩, true)
theorem madeV_made (T : List Pv) (t a b : Int) : madeT T t a b = if (madeV T t a b).2 = true then some (madeV T t a b).1 else none := by
  unfold madeT madeV
  by_cases h1 : t = 7 ∨ t = 8
  · simp only [if_pos h1]
    cases atT T 1 a <;> simp
  · simp only [if_neg h1]
    by_cases h2 : t = 12
    · simp only [if_pos h2]
      cases atT T 1 a <;> cases atT T 1 b <;> simp
    · simp only [if_neg h2]
      by_cases h3 : t = 9 ∨ t = 10 ∨ t = 11
      · simp only [if_pos h3]
        cases atT T 7 a <;> cases atT T 12 b <;> simp
      · simp only [if_neg h3, if_true]
/-- The value of a number, or none. -/
theorem tat_any (base b m n : Nat) (us : Nat → Value) (T : List Pv) (tag i : Int) (w : World) (h : TabOf w base b m n us T) (hok : ∀ v ∈ T, v.chk 0 9 5 = 0) :
    Calls Tryz.prog 16 #[.pointer (some ⟨b, 0, none⟩), .int .i64 tag, .int .i64 i] w fun e w' => e = .returned (.tuple #[vv ((atT T tag i).getD Pv.zero), .bool (atT T tag i).isSome]) ∧ Below w.heap.size w w' := by
  unfold atT
  by_cases h0 : i < 0
  · rw [if_pos h0]
    exact at_out base b m n us T tag i w h hok (.inl h0)
  · rw [if_neg h0]
    cases hv : (Pv.row T tag)[i.toNat]? with
    | none =>
      have := List.getElem?_eq_none_iff.1 hv
      exact at_out base b m n us T tag i w h hok (.inr (by omega))
    | some v =>
      have := at_in base b m n us T tag i.toNat v w h hok hv
      rw [show ((i.toNat : Nat) : Int) = i from by omega] at this
      exact this
theorem made_fin {w W : World} (K : Below w.heap.size w W) (Q : VBox W w.heap.size Pv.zero) (v : Pv) : VBox (stored W w.heap.size v) w.heap.size v ∧ Below w.heap.size w (stored W w.heap.size v) := ⟨vbox_store Q v, below_store K (Nat.le_refl _) v⟩
theorem u64_join (a b : Int) : bits .or .u64 (a % 4294967296 * 4294967296) (b % 4294967296) = (((a % 4294967296).toNat * 4294967296 + (b % 4294967296).toNat : Nat) : Int) := by
  obtain ⟨p, hp⟩ : ∃ p : Nat, a % 4294967296 = (p : Int) := ⟨(a % 4294967296).toNat, by omega⟩
  obtain ⟨q, hq⟩ : ∃ q : Nat, b % 4294967296 = (q : Int) := ⟨(b % 4294967296).toNat, by omega⟩
  have hp2 : p < 4294967296 := by omega
  have hq2 : q < 4294967296 := by omega
  rw [hp, hq, Int.toNat_natCast, Int.toNat_natCast, show (p : Int) * 4294967296 = ((p * 4294967296 : Nat) : Int) from by omega, bits_or_u64_nat _ _ (by omega) (by omega)]
  have h := Nat.two_pow_add_eq_or_of_lt (i := 32) (show q < 2 ^ 32 from hq2) p
  rw [show (p * 4294967296 : Nat) = 2 ^ 32 * p from by omega, ← h]
set_option maxHeartbeats 8000000 in
set_option maxRecDepth 100000 in
theorem made_any (base b m n : Nat) (us : Nat → Value) (T : List Pv) (t x y : Int) (w : World) (h : TabOf w base b m n us T) (hok : ∀ v ∈ T, v.chk 0 9 5 = 0) :
    Calls Tryz.prog 64 #[.pointer (some ⟨b, 0, none⟩), .int .i64 t, .int .i64 x, .int .i64 y] w fun e w' => e = .returned (.tuple #[vv (madeV T t x y).1, .bool (madeV T t x y).2]) ∧ Below w.heap.size w w' := by
  have kz := (Below.refl w.heap.size w).alloc (Nat.le_refl _) (.cells #[.int .i64 0, .string ⟨#[]⟩, .int .u64 0, .string ⟨#[]⟩, .string ⟨#[]⟩, .string ⟨#[]⟩] 36)
  have K0 := Lib.hid (kz.alloc (by simp) (.cells #[.int .i64 t, .string ⟨#[]⟩, .int .u64 0, .string ⟨#[]⟩, .string ⟨#[]⟩, .string ⟨#[]⟩] 36))
  have Q8 := Lib.hid (show VBox ((w.alloc (.cells #[.int .i64 0, .string ⟨#[]⟩, .int .u64 0, .string ⟨#[]⟩, .string ⟨#[]⟩, .string ⟨#[]⟩] 36)).alloc (.cells #[.int .i64 t, .string ⟨#[]⟩, .int .u64 0, .string ⟨#[]⟩, .string ⟨#[]⟩, .string ⟨#[]⟩] 36)) w.heap.size Pv.zero from heap_alloc2_old w _ _)
  have Q10 := Lib.hid (show VBox ((w.alloc (.cells #[.int .i64 0, .string ⟨#[]⟩, .int .u64 0, .string ⟨#[]⟩, .string ⟨#[]⟩, .string ⟨#[]⟩] 36)).alloc (.cells #[.int .i64 t, .string ⟨#[]⟩, .int .u64 0, .string ⟨#[]⟩, .string ⟨#[]⟩, .string ⟨#[]⟩] 36)) (w.heap.size + 1) ⟨t, [], 0, [], [], []⟩ from heap_alloc2_new w _ _)
  have HT := Lib.hid (h.grow K0.out)
  have HAT := Lib.hid (fun (tag i : Int) (y : World) (k : TabOf y base b m n us T) => tat_any base b m n us T tag i y k hok)
  clear kz h hok
  unfold madeV
  by_cases h7 : t = 7 ∨ t = 8
  · simp only [if_pos h7]
    have hcut : ∀ (tag : Int), tag = t → (tag == 7) = true ∨ ((tag == 7) = false ∧ (tag == 8) = true) := fun tag e => by
      rcases h7 with h | h
      · exact .inl (by simp; omega)
      · exact .inr ⟨by simp; omega, by simp; omega⟩
    rcases hcut t rfl with u7 | ⟨u7, u8⟩
    all_goals
      clear hcut h7
      go_enter Tryz.func64, Tryz.ntmps64
      go_upto_region 5 with fail
      generalize (w.alloc (.cells #[.int .i64 0, .string ⟨#[]⟩, .int .u64 0, .string ⟨#[]⟩, .string ⟨#[]⟩, .string ⟨#[]⟩] 36)).alloc (.cells #[.int .i64 t, .string ⟨#[]⟩, .int .u64 0, .string ⟨#[]⟩, .string ⟨#[]⟩, .string ⟨#[]⟩] 36) = W at *
      go_wp2_with fail
      refine (HAT.out 1 x W HT.out).mono ?_
      rintro e w3 ⟨rfl, hb3⟩
      obtain ⟨ok, eo⟩ : ∃ ok, (atT T 1 x).isSome = ok := ⟨_, rfl⟩
      obtain ⟨v, ev⟩ : ∃ v, (atT T 1 x).getD Pv.zero = v := ⟨_, rfl⟩
      rw [eo, ev]
      have EO := Lib.hid eo
      have EV := Lib.hid ev
      clear eo ev
      have K3 := Lib.hid (K0.out.trans (hb3.mono K0.out.size))
      have hz8 := Q10.out.lt
      have kx := (Below.refl w3.heap.size w3).alloc (Nat.le_refl _) (.cells #[.int .i64 v.tag, .string (bs v.text), .int .u64 v.bits, .string (bs v.cls), .string (bs v.name), .string (bs v.desc)] 36)
      have R8 := Lib.hid ((Q8.out.keep hb3 Q8.out.lt).keep kx (Q8.out.keep hb3 Q8.out.lt).lt)
      have R10 := Lib.hid ((Q10.out.keep hb3 Q10.out.lt).keep kx (Q10.out.keep hb3 Q10.out.lt).lt)
      have RX := Lib.hid (vbox_new w3 v)
      have K4 := Lib.hid (K3.out.trans (kx.mono K3.out.size))
      clear hb3 kx K0 K3 Q8 Q10 HT hz8
      unfold vv
      go_upto_region 6 with fail
      generalize w3.alloc (.cells #[.int .i64 v.tag, .string (bs v.text), .int .u64 v.bits, .string (bs v.cls), .string (bs v.name), .string (bs v.desc)] 36) = W4 at *
      obtain ⟨c0, c1, c2, c3, c4, c5⟩ := RX.out.at_
      have hzx := RX.out.lt
      have hz10 := R10.out.lt
      have fz := (blk_facts R10.out).2 1
      obtain ⟨g0, g1, g2, g3, g4, g5⟩ := R10.out.at_
      dsimp only at g0 g1 g2 g3 g4 g5
      go_upto_region 7 with fail
      have k5 := (Below.refl (w.heap.size + 1) W4).setCell (p := ⟨w.heap.size + 1, 1, none⟩) (Nat.le_refl _) (.string (bs v.text))
      have S10 := Lib.hid (show VBox (W4.setCell ⟨w.heap.size + 1, 1, none⟩ (.string (bs v.text))) (w.heap.size + 1) ⟨t, v.text, 0, [], [], []⟩ from tbox_set R10.out _ rfl)
      have S8 := Lib.hid (R8.out.keep k5 (Nat.lt_succ_self _))
      have K5 := Lib.hid (K4.out.trans (k5.mono (Nat.le_succ _)))
      clear k5 R8 R10 RX K4 c0 c1 c2 c3 c4 c5 hzx hz10 fz g0 g1 g2 g3 g4 g5
      generalize W4.setCell ⟨w.heap.size + 1, 1, none⟩ (.string (bs v.text)) = W5 at *
      have FIN := Lib.hid (made_fin K5.out S8.out ⟨t, v.text, 0, [], [], []⟩)
      obtain ⟨c0, c1, c2, c3, c4, c5⟩ := S10.out.at_
      dsimp only at c0 c1 c2 c3 c4 c5
      have f0 := (blk_facts S8.out).2 0
      have f1 := (blk_facts S8.out).2 1
      have f2 := (blk_facts S8.out).2 2
      have f3 := (blk_facts S8.out).2 3
      have f4 := (blk_facts S8.out).2 4
      have f5 := (blk_facts S8.out).2 5
      obtain ⟨z0, z1, z2, z3, z4, z5⟩ := zero_cells S8.out
      have hz10 := S10.out.lt
      have hz8 := S8.out.lt
      go_wp2_with fail
      obtain ⟨hfin, hbel⟩ := FIN.out
      unfold stored at hfin hbel
      refine val_ret2 (g := w.heap.size) (v := ⟨t, v.text, 0, [], [], []⟩) (x := .bool ok) rfl rfl rfl hfin ⟨by rw [EO.out, EV.out], hbel⟩
  · have u7 : (t == 7) = false := by simp; omega
    have u8 : (t == 8) = false := by simp; omega
    simp only [if_neg h7]
    by_cases h12 : t = 12
    · simp only [if_pos h12]
      have u12 : (t == 12) = true := by simp; omega
      clear h7 h12
      go_enter Tryz.func64, Tryz.ntmps64
      go_upto_region 9 with fail
      generalize (w.alloc (.cells #[.int .i64 0, .string ⟨#[]⟩, .int .u64 0, .string ⟨#[]⟩, .string ⟨#[]⟩, .string ⟨#[]⟩] 36)).alloc (.cells #[.int .i64 t, .string ⟨#[]⟩, .int .u64 0, .string ⟨#[]⟩, .string ⟨#[]⟩, .string ⟨#[]⟩] 36) = W at *
      go_wp2_with fail
      refine (HAT.out 1 x W HT.out).mono ?_
      rintro e w3 ⟨rfl, hb3⟩
      obtain ⟨ok, eo⟩ : ∃ ok, (atT T 1 x).isSome = ok := ⟨_, rfl⟩
      obtain ⟨v, ev⟩ : ∃ v, (atT T 1 x).getD Pv.zero = v := ⟨_, rfl⟩
      rw [eo, ev]
      have EO := Lib.hid eo
      have EV := Lib.hid ev
      clear eo ev
      have K3 := Lib.hid (K0.out.trans (hb3.mono K0.out.size))
      have kx := (Below.refl w3.heap.size w3).alloc (Nat.le_refl _) (.cells #[.int .i64 v.tag, .string (bs v.text), .int .u64 v.bits, .string (bs v.cls), .string (bs v.name), .string (bs v.desc)] 36)
      have R8 := Lib.hid ((Q8.out.keep hb3 Q8.out.lt).keep kx (Q8.out.keep hb3 Q8.out.lt).lt)
      have R10 := Lib.hid ((Q10.out.keep hb3 Q10.out.lt).keep kx (Q10.out.keep hb3 Q10.out.lt).lt)
      have RX := Lib.hid (vbox_new w3 v)
      have hx10 : w.heap.size + 1 < w3.heap.size := (Q10.out.keep hb3 Q10.out.lt).lt
      have K4 := Lib.hid (K3.out.trans (kx.mono K3.out.size))
      have HT4 := Lib.hid ((HT.out.grow hb3).grow kx)
      clear hb3 kx K0 K3 Q8 Q10 HT
      unfold vv
      go_upto_region 10 with fail
      have hxs : w3.heap.size < (w3.alloc (.cells #[.int .i64 v.tag, .string (bs v.text), .int .u64 v.bits, .string (bs v.cls), .string (bs v.name), .string (bs v.desc)] 36)).heap.size := by simp
      generalize w3.alloc (.cells #[.int .i64 v.tag, .string (bs v.text), .int .u64 v.bits, .string (bs v.cls), .string (bs v.name), .string (bs v.desc)] 36) = W4 at *
      generalize w3.heap.size = bx at *
      go_wp2_with fail
      refine (HAT.out 1 y W4 HT4.out).mono ?_
      rintro e w5 ⟨rfl, hb5⟩
      obtain ⟨ok2, eo2⟩ : ∃ ok2, (atT T 1 y).isSome = ok2 := ⟨_, rfl⟩
      obtain ⟨u, eu⟩ : ∃ u, (atT T 1 y).getD Pv.zero = u := ⟨_, rfl⟩
      rw [eo2, eu]
      have EO2 := Lib.hid eo2
      have EU := Lib.hid eu
      clear eo2 eu
      have ky := (Below.refl w5.heap.size w5).alloc (Nat.le_refl _) (.cells #[.int .i64 u.tag, .string (bs u.text), .int .u64 u.bits, .string (bs u.cls), .string (bs u.name), .string (bs u.desc)] 36)
      have kxy := hb5.trans (ky.mono hb5.size)
      have T8 := Lib.hid (R8.out.keep kxy R8.out.lt)
      have T10 := Lib.hid (R10.out.keep kxy R10.out.lt)
      have TX := Lib.hid (RX.out.keep kxy RX.out.lt)
      have TY := Lib.hid (vbox_new w5 u)
      have K6 := Lib.hid (K4.out.trans (kxy.mono K4.out.size))
      have hy5 : W4.heap.size ≤ w5.heap.size := hb5.size
      clear hb5 ky kxy K4 R8 R10 RX HT4
      unfold vv
      go_upto_region 11 with fail
      generalize w5.alloc (.cells #[.int .i64 u.tag, .string (bs u.text), .int .u64 u.bits, .string (bs u.cls), .string (bs u.name), .string (bs u.desc)] 36) = W6 at *
      generalize w5.heap.size = by_ at *
      go_cut [] (fun wx => VBox wx (w.heap.size + 1) ⟨t, [], 0, [], v.text, u.text⟩ ∧ VBox wx w.heap.size Pv.zero ∧ Below w.heap.size w wx)
      case first =>
        obtain ⟨c0, c1, c2, c3, c4, c5⟩ := TX.out.at_
        obtain ⟨e0, e1, e2, e3, e4, e5⟩ := TY.out.at_
        have hzx := TX.out.lt
        have hzy := TY.out.lt
        have hz10 := T10.out.lt
        have f4 := (blk_facts T10.out).2 4
        have f5 := (blk_facts T10.out).2 5
        obtain ⟨g0, g1, g2, g3, g4, g5⟩ := T10.out.at_
        dsimp only at g0 g1 g2 g3 g4 g5
        have hne1 : bx ≠ w.heap.size + 1 := by omega
        have hne2 : by_ ≠ w.heap.size + 1 := by omega
        go_region
        all_goals
          go_wp2_with fail
          go_meet
          case rel => first | exact ⟨(tbox_set (tbox_set T10.out (o := 4) _ rfl) (o := 5) _ rfl), T8.out.keep (((Below.refl (w.heap.size + 1) W6).drew.setCell (p := ⟨w.heap.size + 1, 4, none⟩) (Nat.le_refl _) _).setCell (p := ⟨w.heap.size + 1, 5, none⟩) (Nat.le_refl _) _) (Nat.lt_succ_self _), K6.out.trans ((((Below.refl (w.heap.size + 1) W6).drew.setCell (p := ⟨w.heap.size + 1, 4, none⟩) (Nat.le_refl _) _).setCell (p := ⟨w.heap.size + 1, 5, none⟩) (Nat.le_refl _) _).mono (Nat.le_succ _))⟩ | exact ⟨(tbox_set (tbox_set T10.out (o := 5) _ rfl) (o := 4) _ rfl), T8.out.keep (((Below.refl (w.heap.size + 1) W6).drew.setCell (p := ⟨w.heap.size + 1, 5, none⟩) (Nat.le_refl _) _).setCell (p := ⟨w.heap.size + 1, 4, none⟩) (Nat.le_refl _) _) (Nat.lt_succ_self _), K6.out.trans ((((Below.refl (w.heap.size + 1) W6).drew.setCell (p := ⟨w.heap.size + 1, 5, none⟩) (Nat.le_refl _) _).setCell (p := ⟨w.heap.size + 1, 4, none⟩) (Nat.le_refl _) _).mono (Nat.le_succ _))⟩
      case rest =>
        obtain ⟨S10', S8', K5'⟩ := hcut
        have S10 := Lib.hid S10'
        have S8 := Lib.hid S8'
        have K5 := Lib.hid K5'
        clear S10' S8' K5'
        have FIN := Lib.hid (made_fin K5.out S8.out ⟨t, [], 0, [], v.text, u.text⟩)
        obtain ⟨c0, c1, c2, c3, c4, c5⟩ := S10.out.at_
        dsimp only at c0 c1 c2 c3 c4 c5
        have f0 := (blk_facts S8.out).2 0
        have f1 := (blk_facts S8.out).2 1
        have f2 := (blk_facts S8.out).2 2
        have f3 := (blk_facts S8.out).2 3
        have f4 := (blk_facts S8.out).2 4
        have f5 := (blk_facts S8.out).2 5
        obtain ⟨z0, z1, z2, z3, z4, z5⟩ := zero_cells S8.out
        have hz10 := S10.out.lt
        have hz8 := S8.out.lt
        cases ok
        all_goals
          go_wp2_with fail
          obtain ⟨hfin, hbel⟩ := FIN.out
          unfold stored at hfin hbel
          first | exact val_ret2 (g := w.heap.size) (v := ⟨t, [], 0, [], v.text, u.text⟩) (x := .bool false) rfl rfl rfl hfin ⟨by rw [EO.out, EV.out, EO2.out, EU.out]; rfl, hbel⟩ | exact val_ret2 (g := w.heap.size) (v := ⟨t, [], 0, [], v.text, u.text⟩) (x := .bool ok2) rfl rfl rfl hfin ⟨by rw [EO.out, EV.out, EO2.out, EU.out]; rfl, hbel⟩
    · have u12 : (t == 12) = false := by simp; omega
      simp only [if_neg h12]
      by_cases h9 : t = 9 ∨ t = 10 ∨ t = 11
      · simp only [if_pos h9]
        have hcut : ∀ (tag : Int), tag = t → (tag == 9) = true ∨ ((tag == 9) = false ∧ (tag == 10) = true) ∨ ((tag == 9) = false ∧ (tag == 10) = false ∧ (tag == 11) = true) := fun tag e => by
          rcases h9 with h | h | h
          · exact .inl (by simp; omega)
          · exact .inr (.inl ⟨by simp; omega, by simp; omega⟩)
          · exact .inr (.inr ⟨by simp; omega, by simp; omega, by simp; omega⟩)
        rcases hcut t rfl with u9 | ⟨u9, u10⟩ | ⟨u9, u10, u11⟩
        all_goals
          clear hcut h7 h12 h9
          go_enter Tryz.func64, Tryz.ntmps64
          go_upto_region 16 with fail
          generalize (w.alloc (.cells #[.int .i64 0, .string ⟨#[]⟩, .int .u64 0, .string ⟨#[]⟩, .string ⟨#[]⟩, .string ⟨#[]⟩] 36)).alloc (.cells #[.int .i64 t, .string ⟨#[]⟩, .int .u64 0, .string ⟨#[]⟩, .string ⟨#[]⟩, .string ⟨#[]⟩] 36) = W at *
          go_wp2_with fail
          refine (HAT.out 7 x W HT.out).mono ?_
          rintro e w3 ⟨rfl, hb3⟩
          obtain ⟨ok, eo⟩ : ∃ ok, (atT T 7 x).isSome = ok := ⟨_, rfl⟩
          obtain ⟨v, ev⟩ : ∃ v, (atT T 7 x).getD Pv.zero = v := ⟨_, rfl⟩
          rw [eo, ev]
          have EO := Lib.hid eo
          have EV := Lib.hid ev
          clear eo ev
          have K3 := Lib.hid (K0.out.trans (hb3.mono K0.out.size))
          have kx := (Below.refl w3.heap.size w3).alloc (Nat.le_refl _) (.cells #[.int .i64 v.tag, .string (bs v.text), .int .u64 v.bits, .string (bs v.cls), .string (bs v.name), .string (bs v.desc)] 36)
          have R8 := Lib.hid ((Q8.out.keep hb3 Q8.out.lt).keep kx (Q8.out.keep hb3 Q8.out.lt).lt)
          have R10 := Lib.hid ((Q10.out.keep hb3 Q10.out.lt).keep kx (Q10.out.keep hb3 Q10.out.lt).lt)
          have RX := Lib.hid (vbox_new w3 v)
          have hx10 : w.heap.size + 1 < w3.heap.size := (Q10.out.keep hb3 Q10.out.lt).lt
          have K4 := Lib.hid (K3.out.trans (kx.mono K3.out.size))
          have HT4 := Lib.hid ((HT.out.grow hb3).grow kx)
          clear hb3 kx K0 K3 Q8 Q10 HT
          unfold vv
          go_upto_region 17 with fail
          have hxs : w3.heap.size < (w3.alloc (.cells #[.int .i64 v.tag, .string (bs v.text), .int .u64 v.bits, .string (bs v.cls), .string (bs v.name), .string (bs v.desc)] 36)).heap.size := by simp
          generalize w3.alloc (.cells #[.int .i64 v.tag, .string (bs v.text), .int .u64 v.bits, .string (bs v.cls), .string (bs v.name), .string (bs v.desc)] 36) = W4 at *
          generalize w3.heap.size = bx at *
          go_wp2_with fail
          refine (HAT.out 12 y W4 HT4.out).mono ?_
          rintro e w5 ⟨rfl, hb5⟩
          obtain ⟨ok2, eo2⟩ : ∃ ok2, (atT T 12 y).isSome = ok2 := ⟨_, rfl⟩
          obtain ⟨u, eu⟩ : ∃ u, (atT T 12 y).getD Pv.zero = u := ⟨_, rfl⟩
          rw [eo2, eu]
          have EO2 := Lib.hid eo2
          have EU := Lib.hid eu
          clear eo2 eu
          have ky := (Below.refl w5.heap.size w5).alloc (Nat.le_refl _) (.cells #[.int .i64 u.tag, .string (bs u.text), .int .u64 u.bits, .string (bs u.cls), .string (bs u.name), .string (bs u.desc)] 36)
          have kxy := hb5.trans (ky.mono hb5.size)
          have T8 := Lib.hid (R8.out.keep kxy R8.out.lt)
          have T10 := Lib.hid (R10.out.keep kxy R10.out.lt)
          have TX := Lib.hid (RX.out.keep kxy RX.out.lt)
          have TY := Lib.hid (vbox_new w5 u)
          have K6 := Lib.hid (K4.out.trans (kxy.mono K4.out.size))
          have hy5 : W4.heap.size ≤ w5.heap.size := hb5.size
          clear hb5 ky kxy K4 R8 R10 RX HT4
          unfold vv
          go_upto_region 18 with fail
          generalize w5.alloc (.cells #[.int .i64 u.tag, .string (bs u.text), .int .u64 u.bits, .string (bs u.cls), .string (bs u.name), .string (bs u.desc)] 36) = W6 at *
          generalize w5.heap.size = by_ at *
          go_cut [] (fun wx => VBox wx (w.heap.size + 1) ⟨t, [], 0, v.text, u.name, u.desc⟩ ∧ VBox wx w.heap.size Pv.zero ∧ Below w.heap.size w wx)
          case first =>
            obtain ⟨c0, c1, c2, c3, c4, c5⟩ := TX.out.at_
            obtain ⟨e0, e1, e2, e3, e4, e5⟩ := TY.out.at_
            have hzx := TX.out.lt
            have hzy := TY.out.lt
            have hz10 := T10.out.lt
            have f3 := (blk_facts T10.out).2 3
            have f4 := (blk_facts T10.out).2 4
            have f5 := (blk_facts T10.out).2 5
            obtain ⟨g0, g1, g2, g3, g4, g5⟩ := T10.out.at_
            dsimp only at g0 g1 g2 g3 g4 g5
            have hne1 : bx ≠ w.heap.size + 1 := by omega
            have hne2 : by_ ≠ w.heap.size + 1 := by omega
            go_region
            all_goals
              go_wp2_with fail
              go_meet
              case rel => first | exact ⟨(tbox_set (tbox_set (tbox_set T10.out (o := 3) _ rfl) (o := 4) _ rfl) (o := 5) _ rfl), T8.out.keep ((((Below.refl (w.heap.size + 1) W6).drew.setCell (p := ⟨w.heap.size + 1, 3, none⟩) (Nat.le_refl _) _).setCell (p := ⟨w.heap.size + 1, 4, none⟩) (Nat.le_refl _) _).setCell (p := ⟨w.heap.size + 1, 5, none⟩) (Nat.le_refl _) _) (Nat.lt_succ_self _), K6.out.trans (((((Below.refl (w.heap.size + 1) W6).drew.setCell (p := ⟨w.heap.size + 1, 3, none⟩) (Nat.le_refl _) _).setCell (p := ⟨w.heap.size + 1, 4, none⟩) (Nat.le_refl _) _).setCell (p := ⟨w.heap.size + 1, 5, none⟩) (Nat.le_refl _) _).mono (Nat.le_succ _))⟩ | exact ⟨(tbox_set (tbox_set (tbox_set T10.out (o := 3) _ rfl) (o := 5) _ rfl) (o := 4) _ rfl), T8.out.keep ((((Below.refl (w.heap.size + 1) W6).drew.setCell (p := ⟨w.heap.size + 1, 3, none⟩) (Nat.le_refl _) _).setCell (p := ⟨w.heap.size + 1, 5, none⟩) (Nat.le_refl _) _).setCell (p := ⟨w.heap.size + 1, 4, none⟩) (Nat.le_refl _) _) (Nat.lt_succ_self _), K6.out.trans (((((Below.refl (w.heap.size + 1) W6).drew.setCell (p := ⟨w.heap.size + 1, 3, none⟩) (Nat.le_refl _) _).setCell (p := ⟨w.heap.size + 1, 5, none⟩) (Nat.le_refl _) _).setCell (p := ⟨w.heap.size + 1, 4, none⟩) (Nat.le_refl _) _).mono (Nat.le_succ _))⟩ | exact ⟨(tbox_set (tbox_set (tbox_set T10.out (o := 4) _ rfl) (o := 3) _ rfl) (o := 5) _ rfl), T8.out.keep ((((Below.refl (w.heap.size + 1) W6).drew.setCell (p := ⟨w.heap.size + 1, 4, none⟩) (Nat.le_refl _) _).setCell (p := ⟨w.heap.size + 1, 3, none⟩) (Nat.le_refl _) _).setCell (p := ⟨w.heap.size + 1, 5, none⟩) (Nat.le_refl _) _) (Nat.lt_succ_self _), K6.out.trans (((((Below.refl (w.heap.size + 1) W6).drew.setCell (p := ⟨w.heap.size + 1, 4, none⟩) (Nat.le_refl _) _).setCell (p := ⟨w.heap.size + 1, 3, none⟩) (Nat.le_refl _) _).setCell (p := ⟨w.heap.size + 1, 5, none⟩) (Nat.le_refl _) _).mono (Nat.le_succ _))⟩ | exact ⟨(tbox_set (tbox_set (tbox_set T10.out (o := 4) _ rfl) (o := 5) _ rfl) (o := 3) _ rfl), T8.out.keep ((((Below.refl (w.heap.size + 1) W6).drew.setCell (p := ⟨w.heap.size + 1, 4, none⟩) (Nat.le_refl _) _).setCell (p := ⟨w.heap.size + 1, 5, none⟩) (Nat.le_refl _) _).setCell (p := ⟨w.heap.size + 1, 3, none⟩) (Nat.le_refl _) _) (Nat.lt_succ_self _), K6.out.trans (((((Below.refl (w.heap.size + 1) W6).drew.setCell (p := ⟨w.heap.size + 1, 4, none⟩) (Nat.le_refl _) _).setCell (p := ⟨w.heap.size + 1, 5, none⟩) (Nat.le_refl _) _).setCell (p := ⟨w.heap.size + 1, 3, none⟩) (Nat.le_refl _) _).mono (Nat.le_succ _))⟩ | exact ⟨(tbox_set (tbox_set (tbox_set T10.out (o := 5) _ rfl) (o := 3) _ rfl) (o := 4) _ rfl), T8.out.keep ((((Below.refl (w.heap.size + 1) W6).drew.setCell (p := ⟨w.heap.size + 1, 5, none⟩) (Nat.le_refl _) _).setCell (p := ⟨w.heap.size + 1, 3, none⟩) (Nat.le_refl _) _).setCell (p := ⟨w.heap.size + 1, 4, none⟩) (Nat.le_refl _) _) (Nat.lt_succ_self _), K6.out.trans (((((Below.refl (w.heap.size + 1) W6).drew.setCell (p := ⟨w.heap.size + 1, 5, none⟩) (Nat.le_refl _) _).setCell (p := ⟨w.heap.size + 1, 3, none⟩) (Nat.le_refl _) _).setCell (p := ⟨w.heap.size + 1, 4, none⟩) (Nat.le_refl _) _).mono (Nat.le_succ _))⟩ | exact ⟨(tbox_set (tbox_set (tbox_set T10.out (o := 5) _ rfl) (o := 4) _ rfl) (o := 3) _ rfl), T8.out.keep ((((Below.refl (w.heap.size + 1) W6).drew.setCell (p := ⟨w.heap.size + 1, 5, none⟩) (Nat.le_refl _) _).setCell (p := ⟨w.heap.size + 1, 4, none⟩) (Nat.le_refl _) _).setCell (p := ⟨w.heap.size + 1, 3, none⟩) (Nat.le_refl _) _) (Nat.lt_succ_self _), K6.out.trans (((((Below.refl (w.heap.size + 1) W6).drew.setCell (p := ⟨w.heap.size + 1, 5, none⟩) (Nat.le_refl _) _).setCell (p := ⟨w.heap.size + 1, 4, none⟩) (Nat.le_refl _) _).setCell (p := ⟨w.heap.size + 1, 3, none⟩) (Nat.le_refl _) _).mono (Nat.le_succ _))⟩
          case rest =>
            obtain ⟨S10', S8', K5'⟩ := hcut
            have S10 := Lib.hid S10'
            have S8 := Lib.hid S8'
            have K5 := Lib.hid K5'
            clear S10' S8' K5'
            have FIN := Lib.hid (made_fin K5.out S8.out ⟨t, [], 0, v.text, u.name, u.desc⟩)
            obtain ⟨c0, c1, c2, c3, c4, c5⟩ := S10.out.at_
            dsimp only at c0 c1 c2 c3 c4 c5
            have f0 := (blk_facts S8.out).2 0
            have f1 := (blk_facts S8.out).2 1
            have f2 := (blk_facts S8.out).2 2
            have f3 := (blk_facts S8.out).2 3
            have f4 := (blk_facts S8.out).2 4
            have f5 := (blk_facts S8.out).2 5
            obtain ⟨z0, z1, z2, z3, z4, z5⟩ := zero_cells S8.out
            have hz10 := S10.out.lt
            have hz8 := S8.out.lt
            cases ok
            all_goals
              go_wp2_with fail
              obtain ⟨hfin, hbel⟩ := FIN.out
              unfold stored at hfin hbel
              first | exact val_ret2 (g := w.heap.size) (v := ⟨t, [], 0, v.text, u.name, u.desc⟩) (x := .bool false) rfl rfl rfl hfin ⟨by rw [EO.out, EV.out, EO2.out, EU.out]; rfl, hbel⟩ | exact val_ret2 (g := w.heap.size) (v := ⟨t, [], 0, v.text, u.name, u.desc⟩) (x := .bool ok2) rfl rfl rfl hfin ⟨by rw [EO.out, EV.out, EO2.out, EU.out]; rfl, hbel⟩
      · have u9 : (t == 9) = false := by simp; omega
        have u10 : (t == 10) = false := by simp; omega
        have u11 : (t == 11) = false := by simp; omega
        simp only [if_neg h9]
        clear h7 h12 h9 HAT HT
        go_enter Tryz.func64, Tryz.ntmps64
        go_upto_region 20 with fail
        generalize (w.alloc (.cells #[.int .i64 0, .string ⟨#[]⟩, .int .u64 0, .string ⟨#[]⟩, .string ⟨#[]⟩, .string ⟨#[]⟩] 36)).alloc (.cells #[.int .i64 t, .string ⟨#[]⟩, .int .u64 0, .string ⟨#[]⟩, .string ⟨#[]⟩, .string ⟨#[]⟩] 36) = W at *
        have hz10 := Q10.out.lt
        have f2 := (blk_facts Q10.out).2 2
        obtain ⟨g0, g1, g2, g3, g4, g5⟩ := Q10.out.at_
        dsimp only at g0 g1 g2 g3 g4 g5
        go_upto_region 21 with fail
        rw [u64_join]
        obtain ⟨q, hq⟩ : ∃ q, (x % 4294967296).toNat * 4294967296 + (y % 4294967296).toNat = q := ⟨_, rfl⟩
        rw [hq]
        have HQ := Lib.hid hq
        clear hq
        have k5 := (Below.refl (w.heap.size + 1) W).setCell (p := ⟨w.heap.size + 1, 2, none⟩) (Nat.le_refl _) (.int .u64 (q : Nat))
        have S10 := Lib.hid (show VBox (W.setCell ⟨w.heap.size + 1, 2, none⟩ (.int .u64 (q : Nat))) (w.heap.size + 1) ⟨t, [], q, [], [], []⟩ from tbox_set Q10.out _ rfl)
        have S8 := Lib.hid (Q8.out.keep k5 (Nat.lt_succ_self _))
        have K5 := Lib.hid (K0.out.trans (k5.mono (Nat.le_succ _)))
        clear k5 Q8 Q10 K0 g0 g1 g2 g3 g4 g5 f2
        generalize W.setCell ⟨w.heap.size + 1, 2, none⟩ (.int .u64 (q : Nat)) = W5 at *
        have FIN := Lib.hid (made_fin K5.out S8.out ⟨t, [], q, [], [], []⟩)
        obtain ⟨c0, c1, c2, c3, c4, c5⟩ := S10.out.at_
        dsimp only at c0 c1 c2 c3 c4 c5
        have f0 := (blk_facts S8.out).2 0
        have f1 := (blk_facts S8.out).2 1
        have f2 := (blk_facts S8.out).2 2
        have f3 := (blk_facts S8.out).2 3
        have f4 := (blk_facts S8.out).2 4
        have f5 := (blk_facts S8.out).2 5
        obtain ⟨z0, z1, z2, z3, z4, z5⟩ := zero_cells S8.out
        have hz11 := S10.out.lt
        have hz8 := S8.out.lt
        go_wp2_with fail
        obtain ⟨hfin, hbel⟩ := FIN.out
        unfold stored at hfin hbel
        exact val_ret2 (g := w.heap.size) (v := ⟨t, [], q, [], [], []⟩) (x := .bool true) rfl rfl rfl hfin ⟨by rw [HQ.out], hbel⟩
end Go.Proofs.YtkdamaomhppkgaaGreat

/- The walks of layer 28: which columns a tag has, the tags in order; rows of rows of numbers. -/
namespace Go.Proofs.YtkdamaomhppkgaaGreat
open Go.RowKit Go.Maps Pp

def firstT (t : Int) : Nat := if t = 3 ∨ t = 4 then 1 else 0
def lastT (t : Int) : Nat := if t = 7 ∨ t = 8 then 1 else 2
theorem tfirst_any (t : Int) (w : World) : Calls Tryz.prog 54 #[.int .i64 t] w fun e w' => e = .returned (.int .i64 (firstT t : Nat)) ∧ w' = w := by
  unfold firstT
  by_cases h : t = 3 ∨ t = 4
  · rw [if_pos h]
    rcases h with rfl | rfl
    all_goals
      go_enter Tryz.func54, Tryz.ntmps54
      go_wp2
      go_ret
      exact ⟨rfl, rfl⟩
  · rw [if_neg h]
    have u1 : (t == 3) = false := by simp; omega
    have u2 : (t == 4) = false := by simp; omega
    go_enter Tryz.func54, Tryz.ntmps54
    go_wp2
    go_ret
    exact ⟨rfl, rfl⟩
theorem tlast_any (t : Int) (w : World) : Calls Tryz.prog 55 #[.int .i64 t] w fun e w' => e = .returned (.int .i64 (lastT t : Nat)) ∧ w' = w := by
  unfold lastT
  by_cases h : t = 7 ∨ t = 8
  · rw [if_pos h]
    rcases h with rfl | rfl
    all_goals
      go_enter Tryz.func55, Tryz.ntmps55
      go_wp2
      go_ret
      exact ⟨rfl, rfl⟩
  · rw [if_neg h]
    have u1 : (t == 7) = false := by simp; omega
    have u2 : (t == 8) = false := by simp; omega
    go_enter Tryz.func55, Tryz.ntmps55
    go_wp2
    go_ret
    exact ⟨rfl, rfl⟩
theorem iblk (w : World) (xs : List Int) (t : TypeId) : Ints (w.alloc (.cells (ic xs).toArray t)) (some ⟨w.heap.size, 0, none⟩) xs.length xs :=
  ⟨Nat.le_refl _, fun _ => ⟨w.heap.size, 0, rfl, by simp, fun j x hx => by
    rw [Nat.zero_add, (blk_facts (heap_alloc_new w (.cells (ic xs).toArray t))).1 j]
    simp only [List.getElem?_toArray]
    exact ic_get hx⟩⟩
theorem torder_blk (w : World) : Calls Tryz.prog 29 #[] w fun e w' => e = .returned (.slice (some ⟨w.heap.size, 0, none⟩) 10 10) ∧ Ints w' (some ⟨w.heap.size, 0, none⟩) 10 tOrder ∧ Below w.heap.size w w' ∧ w'.heap[w.heap.size]? = some (.cells (ic tOrder).toArray 3 (0, 0)) := by
  have hI := Lib.hid (iblk w tOrder 3)
  have k := Lib.hid ((Below.refl w.heap.size w).alloc (Nat.le_refl _) (.cells (ic tOrder).toArray 3))
  have hn := Lib.hid (heap_alloc_new w (.cells (ic tOrder).toArray 3))
  go_enter Tryz.func29, Tryz.ntmps29
  go_wp2
  go_ret
  exact ⟨rfl, hI.out, k.out, hn.out⟩
theorem torder_any (w : World) : Calls Tryz.prog 29 #[] w fun e w' => e = .returned (.slice (some ⟨w.heap.size, 0, none⟩) 10 10) ∧ Ints w' (some ⟨w.heap.size, 0, none⟩) 10 tOrder ∧ Below w.heap.size w w' :=
  (torder_blk w).mono fun _ _ ⟨h1, h2, h3, _⟩ => ⟨h1, h2, h3⟩
theorem ints_of_blk {w : World} {g : Nat} {xs : List Int} {t : TypeId} {fr : Nat × Nat} (h : w.heap[g]? = some (.cells (ic xs).toArray t fr)) : Ints w (some ⟨g, 0, none⟩) xs.length xs :=
  ⟨Nat.le_refl _, fun _ => ⟨g, 0, rfl, (Array.getElem?_eq_some_iff.1 h).1, fun j x hx => by
    rw [Nat.zero_add]
    simp only [World.cell?, h, List.getElem?_toArray]
    exact ic_get hx⟩⟩
/-- Heads of rows of numbers, each the call's own. -/
def Heads (w : World) (base : Nat) (hs : List Value) (xss : List (List Int)) : Prop := hs.length = xss.length ∧ ∀ (j : Nat) h xs, hs[j]? = some h → xss[j]? = some xs → IRow w base h xs
theorem irow_blk {w : World} {base : Nat} {v : Value} {xs : List Int} (h : IRow w base v xs) {g : Nat} (hg : v.ownBlock = some g) : base ≤ g ∧ ∃ cur, w.heap[g]? = some (.cells cur 3 (0, 0)) := by
  rcases h.2 with ⟨h, _⟩ | ⟨g', cap, cur, h, h1, hg', _⟩
  · rw [h] at hg; simp [Value.ownBlock] at hg
  · rw [h] at hg
    simp [Value.ownBlock] at hg
    subst hg
    exact ⟨h1, cur, hg'⟩
theorem IRow.kept {w w1 : World} {base : Nat} {v : Value} {xs : List Int} {row : Option Nat} (h : IRow w base v xs) (g : w.grownBy w1 row) (hne : ∀ k, v.ownBlock = some k → row ≠ some k) : IRow w1 base v xs :=
  World.ownsRow.kept h g (by
    cases e : v.ownBlock with
    | none => exact .inl rfl
    | some k => exact .inr (fun e2 => hne k e e2.symm))
theorem IRow.lower {w : World} {base b' : Nat} {v : Value} {xs : List Int} (h : IRow w base v xs) (hb : b' ≤ base) : IRow w b' v xs := by
  refine ⟨h.1, ?_⟩
  rcases h.2 with h2 | ⟨g, cap, cur, h2, h3, h4⟩
  · exact .inl h2
  · exact .inr ⟨g, cap, cur, h2, Nat.le_trans hb h3, h4⟩
section
variable {w w1 : World} {base b' : Nat} {hs hs2 : List Value} {xss yss : List (List Int)}
theorem Heads.nil (w : World) (base : Nat) : Heads w base [] [] := ⟨rfl, fun j h xs hh => by simp at hh⟩
theorem Heads.one {v : Value} {xs : List Int} (h : IRow w base v xs) : Heads w base [v] [xs] := ⟨rfl, fun j u x hu hx => by
  cases j with
  | zero => simp at hu hx; subst hu hx; exact h
  | succ j => simp at hu⟩
theorem Heads.app (h : Heads w base hs xss) (k : Heads w base hs2 yss) : Heads w base (hs ++ hs2) (xss ++ yss) := by
  refine ⟨by rw [List.length_append, List.length_append, h.1, k.1], fun j u x hu hx => ?_⟩
  by_cases hj : j < hs.length
  · rw [List.getElem?_append_left hj] at hu
    rw [List.getElem?_append_left (h.1 ▸ hj)] at hx
    exact h.2 j u x hu hx
  · rw [List.getElem?_append_right (by omega)] at hu
    rw [List.getElem?_append_right (by have := h.1; omega), ← h.1] at hx
    exact k.2 _ u x hu hx
theorem Heads.grow (h : Heads w base hs xss) (k : Below w.heap.size w w1) : Heads w1 base hs xss := ⟨h.1, fun j u x hu hx => (h.2 j u x hu hx).grow k⟩
theorem Heads.lower (h : Heads w base hs xss) (hb : b' ≤ base) : Heads w b' hs xss := ⟨h.1, fun j u x hu hx => (h.2 j u x hu hx).lower hb⟩
/-- A block that holds no numbers turns. -/
theorem Heads.kept (h : Heads w base hs xss) {o : Option Nat} (k : w.grownBy w1 o) (ho : ∀ g cur, o = some g → w.heap[g]? ≠ some (.cells cur 3 (0, 0))) : Heads w1 base hs xss :=
  ⟨h.1, fun j u x hu hx => (h.2 j u x hu hx).kept k (fun g hg e => by
    obtain ⟨_, cur, hc⟩ := irow_blk (h.2 j u x hu hx) hg
    exact ho g cur e hc)⟩
theorem Heads.one_cell (h : Heads w base hs xss) : ∀ u ∈ hs, u.oneCell' = true := fun u hu => by
  obtain ⟨j, hj, rfl⟩ := List.getElem_of_mem hu
  obtain ⟨x, hx⟩ : ∃ x, xss[j]? = some x := ⟨_, List.getElem?_eq_getElem (by rw [← h.1]; exact hj)⟩
  obtain ⟨A, c, e, _⟩ := (h.2 j _ x (List.getElem?_eq_getElem hj) hx).reads
  rw [e]
  rfl
end
theorem infoIs : (Tryz.prog.info? 72).map (fun i => (i.zero, i.size, i.bytes)) = some (some (.slice none 0 0), 1, 24) := by kernel_rfl
/-- A row of heads. -/
def HRow (w : World) (base : Nat) (v : Value) (hs : List Value) : Prop := w.ownsRow base 72 1 v hs.length hs
theorem HRow.app {w : World} {base n : Nat} {v : Value} {xs ys : List Value} (h : w.ownsRow base 72 1 v n (xs ++ ys)) (hn : n = xs.length + ys.length) : HRow w base v (xs ++ ys) := by
  unfold HRow
  rw [List.length_append, ← hn]
  exact h
theorem HRow.kept {w w1 : World} {base : Nat} {v : Value} {hs : List Value} {row : Option Nat} (h : HRow w base v hs) (g : w.grownBy w1 row) (hne : ∀ k, v.ownBlock = some k → row ≠ some k) : HRow w1 base v hs :=
  World.ownsRow.kept h g (by
    cases e : v.ownBlock with
    | none => exact .inl rfl
    | some k => exact .inr (fun e2 => hne k e e2.symm))
theorem HRow.grow {w w1 : World} {base : Nat} {v : Value} {hs : List Value} (h : HRow w base v hs) (k : Below w.heap.size w w1) : HRow w1 base v hs := own_below h k
theorem HRow.blk {w : World} {base : Nat} {v : Value} {hs : List Value} (h : HRow w base v hs) {g : Nat} (hg : v.ownBlock = some g) : base ≤ g ∧ ∃ cur, w.heap[g]? = some (.cells cur 72 (0, 0)) := by
  rcases h.2 with ⟨h, _⟩ | ⟨g', cap, cur, h, h1, hg', _⟩
  · rw [h] at hg; simp [Value.ownBlock] at hg
  · rw [h] at hg
    simp [Value.ownBlock] at hg
    subst hg
    exact ⟨h1, cur, hg'⟩
theorem HRow.one {w : World} {base B : Nat} {u : Value} (h : w.heap[B]? = some (.cells #[u] 72 (0, 0))) (hb : base ≤ B) : HRow w base (.slice (some ⟨B, 0, none⟩) 1 1) [u] :=
  ⟨rfl, .inr ⟨B, 1, #[u], rfl, hb, h, Nat.le_refl _, by unfold maxLen; omega, rfl, rfl⟩⟩
theorem HRow.reads {w : World} {base : Nat} {v : Value} {hs : List Value} (h : HRow w base v hs) : ∃ A c, v = .slice A hs.length c ∧ ∀ (j : Nat) u, hs[j]? = some u → ∃ g, A = some ⟨g, 0, none⟩ ∧ g < w.heap.size ∧ w.cell? ⟨g, j, none⟩ = some u := by
  have hc := fun (g : Nat) (hg : v.ownBlock = some g) => World.ownsRow.cells h hg
  rcases h.2 with ⟨rfl, hn⟩ | ⟨g, cap, cur, rfl, h1, h2, h3, _⟩
  · obtain rfl : hs = [] := List.eq_nil_of_length_eq_zero hn
    exact ⟨none, 0, rfl, fun j u hu => by simp at hu⟩
  · refine ⟨_, cap, rfl, fun j u hu => ⟨g, rfl, (Array.getElem?_eq_some_iff.1 h2).1, ?_⟩⟩
    have := hc g rfl j _ hu
    have e : Addr.add ⟨g, 0, none⟩ j = ⟨g, j, none⟩ := by unfold Addr.add; split <;> simp_all
    rwa [e] at this
theorem HRow.cell {w : World} {base n c : Nat} {A : Option Addr} {hs : List Value} (h : HRow w base (.slice A n c) hs) {j : Nat} {u : Value} (hu : hs[j]? = some u) : ∃ g, A = some ⟨g, 0, none⟩ ∧ g < w.heap.size ∧ w.cell? ⟨g, j, none⟩ = some u := by
  obtain ⟨A', c', e, hc⟩ := h.reads
  cases e
  exact hc j u hu
theorem wpList_appH {w : World} {ops : Array Oper} {rest : List Oper} {o : Oper} {a : Act} {Q : Exit → Act → World → Prop} (hgd : o.guard = none) (s x : Operand)
    (ho : o.op = .call { callee := .builtin .append, args := #[s, x], argTypes := #[74, 74] })
    (base : Nat) (v : Value) (xs : List Value) (hv : a.eval s = v) (hown : HRow w base v xs) (X : Value) (ys : List Value) (hX : a.eval x = X)
    (hs : Src Tryz.prog 1 74 X ys.length ys w) (hn : xs.length + ys.length ≤ 1000000000000) (hbase : base ≤ w.heap.size)
    (h : ∀ v' w', HRow w' base v' (xs ++ ys) → Hop w w' v.ownBlock v'.ownBlock → wpList Tryz.prog ops Q rest (a.put o.dst v') w') : wpList Tryz.prog ops Q (o :: rest) a w := by
  obtain ⟨i0, hi, hz0, hz1, hz2⟩ := info_parts infoIs
  refine wpList_append_row hgd s x 74 74 ho base 72 i0 _ 1 24 Tryz.underlying74 hi hz0 hz1 hz2 rfl v _ _ hv hown X ys.length ys hX (fun v' w' h1 h2 => h v' w' (HRow.app h1 rfl) h2) hs ?_ ?_ hbase
  · unfold maxLen; omega
  · omega
theorem wpList_appIs {w : World} {ops : Array Oper} {rest : List Oper} {o : Oper} {a : Act} {Q : Exit → Act → World → Prop} (hgd : o.guard = none) (s x : Operand)
    (ho : o.op = .call { callee := .builtin .append, args := #[s, x], argTypes := #[72, 72] })
    (base : Nat) (v : Value) (xs : List Int) (hv : a.eval s = v) (hown : IRow w base v xs) (X : Value) (ys : List Int) (hX : a.eval x = X)
    (hs : Src Tryz.prog 1 72 X ys.length (ic ys) w) (hn : xs.length + ys.length ≤ 1000000000000) (hbase : base ≤ w.heap.size)
    (h : ∀ v' w', IRow w' base v' (xs ++ ys) → Hop w w' v.ownBlock v'.ownBlock → wpList Tryz.prog ops Q rest (a.put o.dst v') w') : wpList Tryz.prog ops Q (o :: rest) a w := by
  obtain ⟨i0, hi, hz0, hz1, hz2⟩ := info_parts infoInt
  refine wpList_append_row hgd s x 72 72 ho base 3 i0 _ 1 8 Tryz.underlying72 hi hz0 hz1 hz2 rfl v _ _ hv hown X ys.length (ic ys) hX (fun v' w' h1 h2 => h v' w' (IRow.app h1 rfl) h2) hs ?_ ?_ hbase
  · unfold maxLen; omega
  · omega
theorem step_appIs {w : World} {ops : Array Oper} {o : Oper} {a : Act} {K : Act → World → Prop} {Q : Exit → Act → World → Prop} {E : Prop} (hgd : o.guard = none) (s x : Operand)
    (ho : o.op = .call { callee := .builtin .append, args := #[s, x], argTypes := #[72, 72] })
    (base : Nat) (v : Value) (xs : List Int) (hv : a.eval s = v) (hown : IRow w base v xs) (X : Value) (ys : List Int) (hX : a.eval x = X)
    (hs : Src Tryz.prog 1 72 X ys.length (ic ys) w) (hn : xs.length + ys.length ≤ 1000000000000) (hbase : base ≤ w.heap.size)
    (h : ∀ v' w', IRow w' base v' (xs ++ ys) → Hop w w' v.ownBlock v'.ownBlock → K (a.put o.dst v') w') :
    if Region.wanted o (yielded ops a.tmps) = true then Oper.wp Tryz.prog o a w K Q else E := by
  obtain ⟨i0, hi, hz0, hz1, hz2⟩ := info_parts infoInt
  refine step_append_row hgd s x 72 72 ho base 3 i0 _ 1 8 Tryz.underlying72 hi hz0 hz1 hz2 rfl v _ _ hv hown X ys.length (ic ys) hX (fun v' w' h1 h2 => h v' w' (IRow.app h1 rfl) h2) hs ?_ ?_ hbase
  · unfold maxLen; omega
  · omega
/-- One number in a block of its own, to append. -/
theorem isrc_one {w : World} {B : Nat} {x : Int} (hb : w.heap[B]? = some (.cells #[.int .i64 x] 3 (0, 0))) : Src Tryz.prog 1 72 (.slice (some ⟨B, 0, none⟩) 1 1) [x].length (ic [x]) w :=
  Src.ofSlice w Tryz.underlying72 ⟨B, 0, none⟩ 1 1 _ rfl (fun j u hu => by
    cases j with
    | zero =>
      simp [ic] at hu
      subst hu
      exact (blk_facts hb).1 0
    | succ j => simp [ic] at hu) (fun u hu => by simp [ic] at hu; subst hu; rfl)
end Go.Proofs.YtkdamaomhppkgaaGreat

/- Layer 26 plain: how long a band is; the law's reading is the program's. No program. -/
namespace Go.Proofs.YtkdamaomhppkgaaGreat
open Pp

theorem putU_le (h : Nat) : ∀ (k u : Nat), (putU h k u).length ≤ k + 1
  | 0, u => by simp [putU]
  | k + 1, u => by
    have := putU_le h k ((u - (256 - h)) / h)
    unfold putU
    split
    · simp
    · simp only [List.length_cons]; omega
theorem row_le (c : Cod) (hc : 1 ≤ c.b) : ∀ (l : List Int) (last : Int) (b : List UInt8), c.row last l = some b → b.length ≤ c.b * l.length
  | [], last, b, h => by
    simp only [Cod.row, Option.some.injEq] at h
    subst h
    simp
  | v :: l, last, b, h => by
    unfold Cod.row at h
    split at h
    · cases hr : c.row v l with
      | none => rw [hr] at h; cases h
      | some b' =>
        rw [hr] at h
        simp only [Option.map_some, Option.some.injEq] at h
        subst h
        have h1 := row_le c hc l v b' hr
        have h2 := putU_le c.h (c.b - 1) (plainI c.s (c.diff last v)).toNat
        rw [List.length_append, List.length_cons, Nat.mul_add, Nat.mul_one]
        omega
    · cases h
/-- A row in bounds is written by one of the first two codings. -/
theorem row_first {l : List Int} (hb : boundsI l = true) : ∃ (i : Nat) (c : Cod) (b : List UInt8), cods[i]? = some c ∧ c.b = 5 ∧ c.row 0 l = some b := by
  unfold boundsI at hb
  rw [Bool.or_eq_true, List.all_eq_true, List.all_eq_true] at hb
  rcases hb with hb | hb
  · obtain ⟨b, hr⟩ := row_some ⟨5, 64, 0, 0⟩ rfl (fun v hv => by
      unfold boundI at hv
      simp only [if_true] at hv
      have := of_decide_eq_true hv
      unfold Cod.fits plainI Cod.reach
      rw [show min (reachU 64 (5 - 1)) 4294967296 = 4294967296 from by decide]
      exact decide_eq_true (by simp only [if_true]; omega)) l 0 hb
    exact ⟨0, _, b, rfl, rfl, hr⟩
  · obtain ⟨b, hr⟩ := row_some ⟨5, 64, 1, 0⟩ rfl (fun v hv => by
      unfold boundI at hv
      simp only [show ¬ (1 : Nat) = 0 from by decide, if_false] at hv
      have := of_decide_eq_true hv
      unfold Cod.fits plainI Cod.reach
      rw [show min (reachU 64 (5 - 1)) 4294967296 = 4294967296 from by decide]
      simp only [show ¬ (1 : Nat) = 0 from by decide, if_false, show (2 : Int) ^ 1 = 2 from rfl]
      refine decide_eq_true ?_
      by_cases hv0 : v < 0
      · simp only [hv0, if_true]; omega
      · simp only [hv0, if_false]; omega) l 0 hb
    exact ⟨1, _, b, rfl, rfl, hr⟩
theorem bandW_len {l : List Int} {x : List UInt8} (h : bandW l = some x) : x.length ≤ 5 * l.length + 1 := by
  have hb : boundsI l = true := by
    rw [← bandW_some, h]
    rfl
  obtain ⟨i, c, b, h1, h2, h3⟩ := row_first hb
  have h4 := band_short h h1 h3
  have h5 := row_le c (by omega) l 0 b h3
  rw [h2] at h5
  omega
/-- What is read is no more than its bytes. -/
theorem read_len (c : Cod) : ∀ (n : Nat) (last : Int) (r : List UInt8) (q : List Int × List UInt8), c.read n last r = .ok q → q.1.length = n
  | 0, last, r, q, h => by
    simp only [Cod.read, Except.ok.injEq] at h
    subst h
    rfl
  | n + 1, last, r, q, h => by
    unfold Cod.read at h
    cases hg : c.get r with
    | error e => rw [hg] at h; cases h
    | ok p =>
      obtain ⟨v, r1⟩ := p
      rw [hg] at h
      dsimp only at h
      split at h
      · cases hr : c.read n (c.sum last v) r1 with
        | error e => rw [hr] at h; cases h
        | ok p =>
          obtain ⟨vs, r2⟩ := p
          rw [hr] at h
          simp only [Except.ok.injEq] at h
          subst h
          have := read_len c n _ _ _ hr
          simp only [List.length_cons]
          dsimp only at this
          omega
      · cases h
end Go.Proofs.YtkdamaomhppkgaaGreat

/- Plain laws on masks of int and of uint16; no program. -/
namespace Go.Proofs.YtkdamaomhppkgaaGreat
open Go.RowKit

theorem i64_mask (k : Nat) (hk : k ≤ 62) (n : Int) : bits .and .i64 n ((2 ^ k - 1 : Nat) : Int) = n % ((2 ^ k : Nat) : Int) := by
  have hp : 0 < 2 ^ k := Nat.two_pow_pos k
  have hb : (2 ^ k : Nat) ≤ 2 ^ 62 := Nat.pow_le_pow_right (by decide) hk
  have h1 : (BitVec.ofInt 64 ((2 ^ k - 1 : Nat) : Int)).toNat = 2 ^ k - 1 := by
    rw [BitVec.ofInt_natCast, BitVec.toNat_ofNat]; apply Nat.mod_eq_of_lt; have : (2:Nat) ^ 62 < 2 ^ 64 := by decide
    omega
  have key : (BitVec.ofInt 64 n &&& BitVec.ofInt 64 ((2 ^ k - 1 : Nat) : Int)).toNat = (n % ((2 ^ 64 : Nat) : Int)).toNat % 2 ^ k := by
    rw [BitVec.toNat_and, BitVec.toNat_ofInt, h1, Nat.and_two_pow_sub_one_eq_mod]
  show IntKind.i64.wrap ((BitVec.ofInt 64 n &&& BitVec.ofInt 64 ((2 ^ k - 1 : Nat) : Int)).toNat : Nat) = _
  rw [key, IntKind.wrap_i64]
  have hd : (2 ^ k : Nat) ∣ 2 ^ 64 := Nat.pow_dvd_pow 2 (by omega)
  have hnn : 0 ≤ n % ((2 ^ 64 : Nat) : Int) := Int.emod_nonneg _ (by decide)
  have e1 : (((n % ((2 ^ 64 : Nat) : Int)).toNat % 2 ^ k : Nat) : Int) = n % ((2 ^ k : Nat) : Int) := by
    rw [Int.natCast_emod, Int.toNat_of_nonneg hnn]
    exact Int.emod_emod_of_dvd n (by exact_mod_cast hd)
  rw [e1]
  have l1 : 0 ≤ n % ((2 ^ k : Nat) : Int) := Int.emod_nonneg _ (by omega)
  have l2 : n % ((2 ^ k : Nat) : Int) < ((2 ^ k : Nat) : Int) := Int.emod_lt_of_pos _ (by omega)
  have l3 : ((2 ^ k : Nat) : Int) ≤ 4611686018427387904 := by
    have : ((2 ^ k : Nat) : Int) ≤ ((2 ^ 62 : Nat) : Int) := by exact_mod_cast hb
    simpa using this
  generalize n % ((2 ^ k : Nat) : Int) = r at *
  generalize ((2 ^ k : Nat) : Int) = q at *
  omega
theorem i64_and1 (n : Int) : bits .and .i64 n 1 = n % 2 := i64_mask 1 (by decide) n
theorem i64_and3 (n : Int) : bits .and .i64 n 3 = n % 4 := i64_mask 2 (by decide) n
theorem i64_and7 (n : Int) : bits .and .i64 n 7 = n % 8 := i64_mask 3 (by decide) n
theorem i64_and255 (n : Int) : bits .and .i64 n 255 = n % 256 := i64_mask 8 (by decide) n

theorem wraps_u16 (n : Int) (h₀ : 0 ≤ n) (h₁ : n < 2 ^ 16) : IntKind.u16.wrap n = n := by rw [IntKind.wrap_u16]; omega
theorem u16_and15 (x : Int) (h₀ : 0 ≤ x) (h₁ : x < 65536) : bits .and .u16 x 15 = x % 16 := bits_mask .u16 16 (by decide) wraps_u16 4 (by decide) x h₀ h₁
theorem u16_and31 (x : Int) (h₀ : 0 ≤ x) (h₁ : x < 65536) : bits .and .u16 x 31 = x % 32 := bits_mask .u16 16 (by decide) wraps_u16 5 (by decide) x h₀ h₁
theorem u16_and63 (x : Int) (h₀ : 0 ≤ x) (h₁ : x < 65536) : bits .and .u16 x 63 = x % 64 := bits_mask .u16 16 (by decide) wraps_u16 6 (by decide) x h₀ h₁
theorem wraps_i64 (n : Int) (h₀ : 0 ≤ n) (h₁ : n < 2 ^ 62) : IntKind.i64.wrap n = n := by rw [IntKind.wrap_i64]; omega
/-- 'x | y' where x is a multiple of 2^i and y below it. -/
theorem i64_or (i : Nat) (x y : Int) (hx₀ : 0 ≤ x) (hx : x % 2 ^ i = 0) (hx₁ : x < 2 ^ 62) (hy₀ : 0 ≤ y) (hy : y < 2 ^ i) (hy₁ : y < 2 ^ 62) : bits .or .i64 x y = x + y :=
  bits_join .i64 62 (by decide) wraps_i64 i x y hx₀ hx hx₁ hy₀ hy hy₁
end Go.Proofs.YtkdamaomhppkgaaGreat

/- The walks of layer 24: whether a coding may be, its reach, a number's plain one and a plain one's number. -/
namespace Go.Proofs.YtkdamaomhppkgaaGreat
open Go.RowKit

/-- A coding's value. -/
def Cod.val (c : Cod) : Value := .agg #[.int .i64 c.b, .int .i64 c.h, .int .i64 c.s, .int .i64 c.d]
set_option maxRecDepth 100000 in
theorem right_any (c : Cod) (hc : c.ok) (w : World) : Calls Tryz.prog 96 #[c.val] w fun ex y => ex = .returned (.bool true) ∧ Below w.heap.size w y := by
  obtain ⟨h1, h2, h3, h4, h5, h6, h7, h8⟩ := hc
  obtain ⟨B, H, S, D⟩ := c
  dsimp only at *
  unfold Cod.val
  have p1 : decide ((B : Int) < 1) = false := decide_eq_false (by omega)
  have p2 : decide ((5 : Int) < (B : Int)) = false := decide_eq_false (by omega)
  have p3 : decide ((H : Int) < 2) = false := decide_eq_false (by omega)
  have p4 : decide ((256 : Int) < (H : Int)) = false := decide_eq_false (by omega)
  have p5 : decide ((S : Int) < 0) = false := decide_eq_false (by omega)
  have p6 : decide ((2 : Int) < (S : Int)) = false := decide_eq_false (by omega)
  obtain rfl | rfl : D = 0 ∨ D = 1 := by omega
  all_goals
    by_cases q1 : 1 < B
    · have r1 : decide ((1 : Int) < (B : Int)) = true := decide_eq_true (by omega)
      by_cases q2 : B < 5
      · have r2 : decide ((B : Int) < 5) = true := decide_eq_true (by omega)
        clear h7 h8
        go_enter Tryz.func96, Tryz.ntmps96
        go_wp2
        go_ret
        exact ⟨rfl, by first | exact Below.refl _ _ | exact (Below.refl _ _).alloc (Nat.le_refl _) _⟩
      · have r2 : decide ((B : Int) < 5) = false := decide_eq_false (by omega)
        have r3 : decide ((H : Int) < 256) = true := decide_eq_true (by omega)
        clear h7 h8
        go_enter Tryz.func96, Tryz.ntmps96
        go_wp2
        go_ret
        exact ⟨rfl, by first | exact Below.refl _ _ | exact (Below.refl _ _).alloc (Nat.le_refl _) _⟩
    · obtain rfl : H = 256 := by omega
      obtain rfl : B = 1 := by omega
      clear h7 h8
      go_enter Tryz.func96, Tryz.ntmps96
      go_wp2
      go_ret
      exact ⟨rfl, by first | exact Below.refl _ _ | exact (Below.refl _ _).alloc (Nat.le_refl _) _⟩
theorem reachU_pos (h : Nat) : ∀ k, h ≤ 256 → 1 ≤ reachU h k
  | 0, _ => by simp [reachU]
  | k + 1, hh => by
    have := reachU_pos h k hh
    have h2 : h * 1 ≤ h * reachU h k := Nat.mul_le_mul_left _ this
    unfold reachU
    omega
theorem reachU_le (h : Nat) (hh : h ≤ 256) : ∀ k, reachU h k ≤ 256 ^ (k + 1)
  | 0 => by simp [reachU]
  | k + 1 => by
    have h1 := reachU_pos h k hh
    have h2 := reachU_le h hh k
    have h3 : h * (reachU h k - 1) ≤ 256 * (reachU h k - 1) := Nat.mul_le_mul_right _ hh
    have h4 : h * (reachU h k - 1) = h * reachU h k - h := by rw [Nat.mul_sub, Nat.mul_one]
    have h5 : h * 1 ≤ h * reachU h k := Nat.mul_le_mul_left _ h1
    unfold reachU
    rw [Nat.pow_succ]
    omega
set_option maxRecDepth 100000 in
theorem reach_any (c : Cod) (hc : c.ok) (w : World) : Calls Tryz.prog 115 #[c.val] w fun ex y => ex = .returned (.int .i64 (c.reach : Int)) ∧ Below w.heap.size w y := by
  have HR := Lib.hid (fun w => right_any c hc w)
  have hh : c.h ≤ 256 := hc.2.2.2.1
  have h1 : 1 ≤ c.b := hc.1
  have h5 : c.b ≤ 5 := hc.2.1
  have hb := Lib.hid (fun k (hk : k ≤ 4) => Nat.le_trans (reachU_le c.h hh k) (Nat.pow_le_pow_right (by decide : 0 < 256) (by omega : k + 1 ≤ 5)))
  have hfin := Lib.hid (show c.reach = min (reachU c.h (c.b - 1)) 4294967296 from rfl)
  unfold Cod.val at *
  generalize c.b = B at *
  generalize c.h = H at *
  generalize c.s = S at *
  generalize c.d = D at *
  generalize c.reach = R at *
  clear hc c
  go_enter Tryz.func115, Tryz.ntmps115
  go_wp2_with fail
  refine (HR.out _).mono ?_
  rintro ex y ⟨rfl, hb1⟩
  have e1 := (blk_facts (hb1.block w.heap.size (by simp) |>.trans (heap_alloc_new w _))).1
  have c0 := e1 0
  have c1 := e1 1
  have hz : w.heap.size < y.heap.size := Nat.lt_of_lt_of_le (by simp) hb1.size
  have HB := Lib.hid (Below.after' ((Below.refl w.heap.size w).alloc (Nat.le_refl _) _) hb1 (by simp))
  clear hb1 e1 HR
  go_wp2_with fail
  go_loop [3, 10] (fun u t => ∃ i : Nat, i ≤ B - 1 ∧ t = .int .i64 i ∧ u = .int .i64 (reachU H i : Int)) (fun _ t => B - (intOf t).toNat)
  case atStart => exact ⟨0, Nat.zero_le _, rfl, rfl⟩
  case round =>
    obtain ⟨i, hi, rfl, rfl⟩ := hrel
    have hb0 := hb.out i (by omega)
    have eB : ((B : Int) - 1) = ((B - 1 : Nat) : Int) := by omega
    by_cases h2 : i < B - 1
    · have p1 : decide (i < B - 1) = true := decide_eq_true h2
      have hb2 := hb.out (i + 1) (by omega)
      have hm := Lib.hid (show (256 - (H : Int)) + (H : Int) * (reachU H i : Int) = (reachU H (i + 1) : Int) by
        rw [show reachU H (i + 1) = 256 - H + H * reachU H i from rfl, Int.natCast_add, Int.natCast_mul, Int.ofNat_sub hh]; rfl)
      have hp0 : 0 ≤ (H : Int) * (reachU H i : Int) := Int.mul_nonneg (by omega) (by omega)
      have hp1 : (H : Int) * (reachU H i : Int) ≤ 2000000000000 := by have := hm.out; omega
      have q1 : decide ((i : Int) < (B : Int) - 1) = true := decide_eq_true (by omega)
      have hq := Lib.hid hb2
      clear hb2 eB
      generalize hr2 : reachU H (i + 1) = r2 at *
      have HR2 := Lib.hid hr2
      clear hr2
      go_wp2_with fail
      go_round
      case rel => exact ⟨i + 1, by omega, by go_num, by rw [hm.out, HR2.out]⟩
      case measure => simp [intOf]; omega
    · obtain rfl : i = B - 1 := by omega
      have q1 : decide (((B - 1 : Nat) : Int) < (B : Int) - 1) = false := decide_eq_false (by omega)
      clear eB h2 hi
      have hm := hfin.out
      go_wp2_with fail
      all_goals go_ret
      all_goals exact ⟨ret_int (by omega), HB.out⟩
end Go.Proofs.YtkdamaomhppkgaaGreat

/- Layer 24 plain: a number's plain one as it is reckoned; reading told from behind. No program. -/
namespace Go.Proofs.YtkdamaomhppkgaaGreat

/-- A number's plain one, -1 far out of reach. -/
def plainP (s : Nat) (v : Int) : Int := if v < -8589934592 ∨ 8589934592 < v then -1 else plainI s v
theorem plainP_fits (c : Cod) (hs : c.s ≤ 2) (v : Int) : c.fits (plainP c.s v) = c.fits (plainI c.s v) := by
  unfold plainP
  split
  · rename_i h
    have hr : (c.reach : Int) ≤ 4294967296 := by unfold Cod.reach; omega
    unfold Cod.fits
    rw [decide_eq_false (by omega)]
    symm
    apply decide_eq_false
    unfold plainI
    obtain h0 | h1 | h2 : c.s = 0 ∨ c.s = 1 ∨ c.s = 2 := by omega
    · rw [if_pos h0]; omega
    · simp only [h1, show ¬ (1 : Nat) = 0 from by decide, if_false, show (2 : Int) ^ 1 = 2 from rfl]
      split <;> omega
    · simp only [h2, show ¬ (2 : Nat) = 0 from by decide, if_false, show (2 : Int) ^ 2 = 4 from rfl]
      split <;> omega
  · rfl
theorem plainP_eq {s : Nat} {v : Int} (h1 : -8589934592 ≤ v) (h2 : v ≤ 8589934592) : plainP s v = plainI s v := by
  unfold plainP
  rw [if_neg (by omega)]
theorem boundI_in {s : Nat} {v : Int} (h : boundI s v = true) : -2147483648 ≤ v ∧ v < 4294967296 := by
  unfold boundI at h
  split at h
  · have := of_decide_eq_true h; omega
  · have := of_decide_eq_true h; omega
theorem roundI_in (s : Nat) (v : Int) : -2147483648 ≤ roundI s v ∧ roundI s v < 4294967296 := boundI_in (round_bound s v)
theorem plainI_in {s : Nat} (hs : s ≤ 2) {v : Int} (h1 : -8589934592 ≤ v) (h2 : v ≤ 8589934592) : -8589934592 ≤ plainI s v ∧ plainI s v ≤ 68719476736 := by
  unfold plainI
  obtain rfl | rfl | rfl : s = 0 ∨ s = 1 ∨ s = 2 := by omega
  · simp only [if_true]; omega
  · simp only [show ¬ (1 : Nat) = 0 from by decide, if_false, show (2 : Int) ^ 1 = 2 from rfl]
    split <;> omega
  · simp only [show ¬ (2 : Nat) = 0 from by decide, if_false, show (2 : Int) ^ 2 = 4 from rfl]
    split <;> omega
theorem plainP_in {s : Nat} (hs : s ≤ 2) (v : Int) : -8589934592 ≤ plainP s v ∧ plainP s v ≤ 68719476736 := by
  unfold plainP
  split
  · omega
  · exact plainI_in hs (by omega) (by omega)
/-- What is read, behind what was. -/
def pre (vs : List Int) : Except Int (List Int × List UInt8) → Except Int (List Int × List UInt8)
  | .error e => .error e
  | .ok p => .ok (vs ++ p.1, p.2)
theorem pre_nil (x : Except Int (List Int × List UInt8)) : pre [] x = x := by cases x <;> rfl
theorem pre_pre (a b : List Int) (x : Except Int (List Int × List UInt8)) : pre a (pre b x) = pre (a ++ b) x := by
  cases x with
  | error e => rfl
  | ok p => simp [pre]
theorem Cod.read_succ (c : Cod) (n : Nat) (last : Int) (l : List UInt8) : c.read (n + 1) last l = match c.get l with
    | .error e => .error e
    | .ok p => if boundI c.s p.1 = true then pre [c.sum last p.1] (c.read n (c.sum last p.1) p.2) else .error 5 := by
  conv => lhs; unfold Cod.read
  cases c.get l with
  | error e => rfl
  | ok p =>
    obtain ⟨v, r⟩ := p
    dsimp only
    split
    · cases c.read n (c.sum last v) r with
      | error e => rfl
      | ok q => rfl
    · rfl
theorem Cod.read_bad (c : Cod) (n : Nat) (last : Int) {l : List UInt8} {e : Int} (h : c.get l = .error e) : c.read (n + 1) last l = .error e := by
  rw [Cod.read_succ, h]
theorem Cod.read_out (c : Cod) (n : Nat) (last : Int) {l : List UInt8} {v : Int} {r : List UInt8} (h : c.get l = .ok (v, r)) (hb : boundI c.s v = false) : c.read (n + 1) last l = .error 5 := by
  rw [Cod.read_succ, h]
  dsimp only
  rw [if_neg (by rw [hb]; decide)]
theorem Cod.read_ok (c : Cod) (n : Nat) (last : Int) {l : List UInt8} {v : Int} {r : List UInt8} (h : c.get l = .ok (v, r)) (hb : boundI c.s v = true) : c.read (n + 1) last l = pre [c.sum last v] (c.read n (c.sum last v) r) := by
  rw [Cod.read_succ, h]
  dsimp only
  rw [if_pos hb]
/-- A row's bytes, behind what was. -/
def preB (b : List UInt8) : Option (List UInt8) → Option (List UInt8)
  | none => none
  | some x => some (b ++ x)
theorem preB_nil (x : Option (List UInt8)) : preB [] x = x := by cases x <;> rfl
theorem preB_pre (a b : List UInt8) (x : Option (List UInt8)) : preB a (preB b x) = preB (a ++ b) x := by
  cases x with
  | none => rfl
  | some p => simp [preB]
theorem Cod.row_ok (c : Cod) (last v : Int) (l : List Int) (hb : boundI c.s v = true) (hf : c.fits (plainI c.s (c.diff last v)) = true) : c.row last (v :: l) = preB (putU c.h (c.b - 1) (plainI c.s (c.diff last v)).toNat) (c.row v l) := by
  conv => lhs; unfold Cod.row
  rw [if_pos ⟨hb, hf⟩]
  cases c.row v l <;> rfl
theorem Cod.row_out (c : Cod) (last v : Int) (l : List Int) (h : ¬ (boundI c.s v = true ∧ c.fits (plainI c.s (c.diff last v)) = true)) : c.row last (v :: l) = none := by
  conv => lhs; unfold Cod.row
  rw [if_neg h]
/-- Of what is read: it may be as great as a row's numbers are. -/
theorem Cod.get_in (c : Cod) (hc : c.ok) {l : List UInt8} {p : Int × List UInt8} (h : c.get l = .ok p) : -8589934592 ≤ p.1 ∧ p.1 ≤ 8589934592 := by
  unfold Cod.get at h
  cases hg : getU c.h (c.b - 1) l with
  | none => rw [hg] at h; cases h
  | some q =>
    obtain ⟨u, r⟩ := q
    rw [hg] at h
    dsimp only at h
    split at h
    · cases h
    · cases h
      dsimp only
      unfold numI
      obtain ⟨_, _, _, _, hs, _⟩ := hc
      obtain h0 | h1 | h2 : c.s = 0 ∨ c.s = 1 ∨ c.s = 2 := by omega
      · rw [if_pos h0]; omega
      · simp only [h1, show ¬ (1 : Nat) = 0 from by decide, if_false, show (2 : Int) ^ 1 = 2 from rfl]
        split <;> omega
      · simp only [h2, show ¬ (2 : Nat) = 0 from by decide, if_false, show (2 : Int) ^ 2 = 4 from rfl]
        split <;> omega
theorem Cod.sum_in (c : Cod) (last : Int) {v : Int} (h : boundI c.s v = true) : -2147483648 ≤ c.sum last v ∧ c.sum last v < 4294967296 := by
  unfold Cod.sum
  split
  · exact roundI_in _ _
  · exact boundI_in h
theorem get_rest {h : Nat} : ∀ (k : Nat) (l : List UInt8) (p : Nat × List UInt8), getU h k l = some p → ∃ n, 1 ≤ n ∧ n ≤ l.length ∧ n ≤ k + 1 ∧ p.2 = l.drop n
  | k, [], p, e => by cases k <;> simp [getU] at e
  | 0, x :: l, p, e => by
    simp only [getU, Option.some.injEq] at e
    rw [← e]
    exact ⟨1, Nat.le_refl _, by simp, Nat.le_refl _, rfl⟩
  | k + 1, x :: l, p, e => by
    simp only [getU] at e
    split at e
    · simp only [Option.some.injEq] at e
      rw [← e]
      exact ⟨1, Nat.le_refl _, by simp, by omega, rfl⟩
    · cases hg : getU h k l with
      | none => rw [hg] at e; cases e
      | some q =>
        rw [hg] at e
        simp only [Option.map_some, Option.some.injEq] at e
        obtain ⟨n, h1, h2, h3, h4⟩ := get_rest k l q hg
        rw [← e]
        exact ⟨n + 1, by omega, by simp only [List.length_cons]; omega, by omega, by dsimp only; rw [h4, List.drop_succ_cons]⟩
end Go.Proofs.YtkdamaomhppkgaaGreat

/- The walks of layer 24: a number's plain one and a plain one's number, bounds, and going round into them. -/
namespace Go.Proofs.YtkdamaomhppkgaaGreat
open Go.RowKit

theorem i64_not (x : Int) (h : I64 x) : bits .xor .i64 (-1) x = -1 - x := by
  show IntKind.i64.wrap ((BitVec.ofInt 64 (-1) ^^^ BitVec.ofInt 64 x).toNat : Nat) = _
  unfold I64 at h
  have e : BitVec.ofInt 64 (-1) = BitVec.allOnes 64 := by decide
  rw [e, BitVec.allOnes_xor, BitVec.toNat_not, BitVec.toNat_ofInt, IntKind.wrap_i64]
  omega
theorem small_s {c : Cod} (hc : c.ok) : c.s = 0 ∨ c.s = 1 ∨ c.s = 2 := by have := hc.2.2.2.2.1; omega
set_option maxRecDepth 100000 in
theorem bound_any (c : Cod) (hc : c.ok) (v : Int) (hv : I64 v) (w : World) : Calls Tryz.prog 97 #[c.val, .int .i64 v] w fun ex y => ex = .returned (.bool (boundI c.s v)) ∧ Below w.heap.size w y := by
  have h := small_s hc
  unfold I64 at hv
  unfold Cod.val boundI
  generalize c.b = B
  generalize c.h = H
  generalize c.d = D
  generalize c.s = S at *
  clear hc c
  rcases h with rfl | rfl | rfl
  all_goals
    go_enter Tryz.func97, Tryz.ntmps97
    go_wp2_with fail
    go_ret
    refine ⟨ret_bool ?_, (Below.refl _ _).alloc (Nat.le_refl _) _⟩
    rw [Bool.eq_iff_iff]
    try unfold wrap64 wrap32
    simp
    omega
set_option maxRecDepth 100000 in
theorem round_any (c : Cod) (hc : c.ok) (v : Int) (_hv : I64 v) (w : World) : Calls Tryz.prog 99 #[c.val, .int .i64 v] w fun ex y => ex = .returned (.int .i64 (roundI c.s v)) ∧ Below w.heap.size w y := by
  have h := small_s hc
  unfold I64 at _hv
  unfold Cod.val roundI
  generalize c.b = B
  generalize c.h = H
  generalize c.d = D
  generalize c.s = S at *
  clear hc c
  rcases h with rfl | rfl | rfl
  all_goals
    go_enter Tryz.func99, Tryz.ntmps99
    go_wp2_with fail
    go_ret
    refine ⟨ret_int ?_, (Below.refl _ _).alloc (Nat.le_refl _) _⟩
    try simp
    try unfold wrap64 wrap32
    try omega
set_option maxRecDepth 100000 in
theorem plain_any (c : Cod) (hc : c.ok) (v : Int) (hv : I64 v) (w : World) : Calls Tryz.prog 98 #[c.val, .int .i64 v] w fun ex y => ex = .returned (.int .i64 (plainP c.s v)) ∧ Below w.heap.size w y := by
  have h := small_s hc
  unfold I64 at hv
  unfold Cod.val plainP
  generalize c.b = B
  generalize c.h = H
  generalize c.d = D
  generalize c.s = S at *
  clear hc c
  by_cases h1 : v < -8589934592
  · have p1 : decide (v < -8589934592) = true := decide_eq_true h1
    rw [if_pos (.inl h1)]
    go_enter Tryz.func98, Tryz.ntmps98
    go_wp2_with fail
    go_ret
    exact ⟨rfl, (Below.refl _ _).alloc (Nat.le_refl _) _⟩
  · have p1 : decide (v < -8589934592) = false := decide_eq_false h1
    by_cases h2 : 8589934592 < v
    · have p2 : decide (8589934592 < v) = true := decide_eq_true h2
      rw [if_pos (.inr h2)]
      go_enter Tryz.func98, Tryz.ntmps98
      go_wp2_with fail
      go_ret
      exact ⟨rfl, (Below.refl _ _).alloc (Nat.le_refl _) _⟩
    · have p2 : decide (8589934592 < v) = false := decide_eq_false h2
      rw [if_neg (by omega)]
      unfold plainI
      by_cases h3 : v < 0
      · have p3 : decide (v < 0) = true := decide_eq_true h3
        have hn := i64_not v hv
        rcases h with rfl | rfl | rfl
        · go_enter Tryz.func98, Tryz.ntmps98
          go_wp2_with fail
          go_ret
          exact ⟨rfl, (Below.refl _ _).alloc (Nat.le_refl _) _⟩
        · go_enter Tryz.func98, Tryz.ntmps98
          go_wp2_with fail
          go_ret
          refine ⟨ret_int ?_, (Below.refl _ _).alloc (Nat.le_refl _) _⟩
          rw [show wrap64 ((-1 - v) * 2) = (-1 - v) * 2 from by unfold wrap64; omega, i64_or 1 _ _ (by omega) (by omega) (by omega) (by omega) (by omega) (by omega)]
        · go_enter Tryz.func98, Tryz.ntmps98
          go_wp2_with fail
          go_ret
          refine ⟨ret_int ?_, (Below.refl _ _).alloc (Nat.le_refl _) _⟩
          rw [show wrap64 ((-1 - v) * 4) = (-1 - v) * 4 from by unfold wrap64; omega, i64_or 2 _ _ (by omega) (by omega) (by omega) (by omega) (by omega) (by omega)]
      · have p3 : decide (v < 0) = false := decide_eq_false h3
        rcases h with rfl | rfl | rfl
        all_goals
          go_enter Tryz.func98, Tryz.ntmps98
          go_wp2_with fail
          go_ret
          refine ⟨ret_int ?_, (Below.refl _ _).alloc (Nat.le_refl _) _⟩
          simp
          try omega
set_option maxRecDepth 100000 in
theorem bhnumber_any (c : Cod) (hc : c.ok) (u : Int) (h0 : 0 ≤ u) (hu : u ≤ 2000000000000) (w : World) : Calls Tryz.prog 121 #[c.val, .int .i64 u] w fun ex y => ex = .returned (.int .i64 (numI c.s u)) ∧ Below w.heap.size w y := by
  have h := small_s hc
  unfold Cod.val numI
  generalize c.b = B
  generalize c.h = H
  generalize c.d = D
  generalize c.s = S at *
  clear hc c
  have n2 := i64_not (u / 2) (by unfold I64; omega)
  have n4 := i64_not (u / 4) (by unfold I64; omega)
  rcases h with rfl | rfl | rfl
  · go_enter Tryz.func121, Tryz.ntmps121
    go_wp2_with fail
    go_ret
    exact ⟨rfl, (Below.refl _ _).alloc (Nat.le_refl _) _⟩
  · by_cases h1 : u % 2 = 1
    · have q : (bits .and .i64 u 1 == 1) = true := by rw [i64_and1, h1]; rfl
      go_enter Tryz.func121, Tryz.ntmps121
      go_wp2_with fail
      go_ret
      refine ⟨ret_int ?_, (Below.refl _ _).alloc (Nat.le_refl _) _⟩
      simp
      try omega
    · have q : (bits .and .i64 u 1 == 1) = false := by rw [i64_and1]; simpa using h1
      go_enter Tryz.func121, Tryz.ntmps121
      go_wp2_with fail
      go_ret
      refine ⟨ret_int ?_, (Below.refl _ _).alloc (Nat.le_refl _) _⟩
      simp
  · by_cases h1 : u % 4 = 3
    · have q : (bits .and .i64 u 3 == 3) = true := by rw [i64_and3, h1]; rfl
      go_enter Tryz.func121, Tryz.ntmps121
      go_wp2_with fail
      go_ret
      refine ⟨ret_int ?_, (Below.refl _ _).alloc (Nat.le_refl _) _⟩
      simp
      try omega
    · have q : (bits .and .i64 u 3 == 3) = false := by rw [i64_and3]; simpa using h1
      go_enter Tryz.func121, Tryz.ntmps121
      go_wp2_with fail
      go_ret
      refine ⟨ret_int ?_, (Below.refl _ _).alloc (Nat.le_refl _) _⟩
      simp
set_option maxRecDepth 100000 in
theorem fits_any (c : Cod) (hc : c.ok) (u : Int) (w : World) : Calls Tryz.prog 100 #[c.val, .int .i64 u] w fun ex y => ex = .returned (.bool (c.fits u)) ∧ Below w.heap.size w y := by
  have HR := Lib.hid (fun w => reach_any c hc w)
  have hfin := Lib.hid (show c.fits u = (decide (0 ≤ u) && decide (u < (c.reach : Int))) by unfold Cod.fits; rw [Bool.decide_and])
  unfold Cod.val at *
  generalize c.fits u = F at *
  generalize c.reach = R at *
  generalize c.b = B at *
  generalize c.h = H at *
  generalize c.d = D at *
  generalize c.s = S at *
  clear hc c
  by_cases h0 : 0 ≤ u
  · have p0 : decide (0 ≤ u) = true := decide_eq_true h0
    go_enter Tryz.func100, Tryz.ntmps100
    go_wp2_with fail
    refine (HR.out _).mono ?_
    rintro ex y ⟨rfl, hb1⟩
    have HB := Lib.hid (Below.after' ((Below.refl w.heap.size w).alloc (Nat.le_refl _) _) hb1 (by simp))
    clear hb1 HR
    go_wp2_with fail
    go_ret
    exact ⟨by rw [hfin.out, p0]; rfl, HB.out⟩
  · have p0 : decide (0 ≤ u) = false := decide_eq_false h0
    go_enter Tryz.func100, Tryz.ntmps100
    go_wp2_with fail
    go_ret
    exact ⟨by rw [hfin.out, p0]; rfl, (Below.refl _ _).alloc (Nat.le_refl _) _⟩
end Go.Proofs.YtkdamaomhppkgaaGreat
