/- Joined texts: PortE, PortF, PortG, OrdW. -/
import Derived.Test.YtdmiljaiglaacaaPk3
import Derived.Test.YtdmiljaiglaacaaPk7
import Derived.Test.YtdmiljaiglaacaaPk1
import Derived.Test.YtdmiljaiglaacaaPk5
import Derived.Test.YtdmiljaiglaacaaPk2
/- The walks of layer 29: a value goes through. -/
namespace Go.Proofs.Ytdmiljaiglaacaa
open Go.RowKit Go.Maps

theorem setCell_turned (w : World) (g o : Nat) (v : Value) : w.grownBy (w.setCell ⟨g, o, none⟩ v) (some g) := by
  refine ⟨rfl, rfl, rfl, by simp [World.setCell], fun k _ hne => ?_⟩
  simp [World.setCell, Array.getElem?_modify]
  intro e
  exact absurd (by rw [e]) hne
theorem grown_same {w w1 w2 : World} {g : Nat} (h : w.grownBy w1 (some g)) (k : w1.grownBy w2 (some g)) : w.grownBy w2 (some g) := grownBy_trans h k (.inl rfl)
theorem stored_turned (w : World) (g : Nat) (v : Pv) : w.grownBy (stored w g v) (some g) :=
  grown_same (grown_same (grown_same (grown_same (grown_same (setCell_turned w g 0 _) (setCell_turned _ g 1 _)) (setCell_turned _ g 2 _)) (setCell_turned _ g 3 _)) (setCell_turned _ g 4 _)) (setCell_turned _ g 5 _)
/-- The cells of a value. -/
def vcells (v : Pv) : Obj := .cells #[.int .i64 v.tag, .string (bs v.text), .int .u64 v.bits, .string (bs v.cls), .string (bs v.name), .string (bs v.desc)] 28
/-- The two boxes at its head. -/
def thrW (x : World) (v : Pv) : World := (x.alloc (vcells v)).alloc (vcells Pv.zero)
section
variable {x : World} {base b : Nat} {tp : Value} {us : Nat → Value} {R : Nat → List Int} {rd : Bool} {e : Int}
theorem thrW_below (x : World) (v : Pv) : Below x.heap.size x (thrW x v) := ((Below.refl _ _).alloc (Nat.le_refl _) _).alloc (by simp) _
theorem thrW_a (x : World) (v : Pv) : VBox (thrW x v) x.heap.size v :=
  VBox.keep (w := x.alloc (vcells v)) (heap_alloc_new x (vcells v)) ((Below.refl _ _).alloc (Nat.le_refl _) (vcells Pv.zero)) (by simp)
theorem thrW_b (x : World) (v : Pv) : VBox (thrW x v) (x.heap.size + 1) Pv.zero := by
  have := heap_alloc_new (x.alloc (vcells v)) (vcells Pv.zero)
  rw [show (x.alloc (vcells v)).heap.size = x.heap.size + 1 by simp] at this
  exact this
/-- What comes of a value's way. -/
def ThrOk (x : World) (base b : Nat) (tp : Value) (us : Nat → Value) (R : Nat → List Int) (rd : Bool) (e : Int) (v : Pv) (ok : Bool) (ex : Ending) (y : World) : Prop :=
  ex = .returned (.tuple #[vv v, .bool ok]) ∧ PortTo x base b tp us R rd e none y
/-- The result's box is stored. -/
theorem thr_fin {y : World} {us' : Nat → Value} {W : World} (hW : Below x.heap.size x W) (hWs : x.heap.size + 1 < W.heap.size) (hbx : base ≤ x.heap.size) (h0 : PortS x base b tp us R rd e) {R' : Nat → List Int} {e' : Int} (h : PortS y base b tp us' R' rd e') (f : Frm W y base b us us' none) (q : VBox y (x.heap.size + 1) Pv.zero) (v : Pv) :
    VBox (stored y (x.heap.size + 1) v) (x.heap.size + 1) v ∧ PortTo x base b tp us R' rd e' none (stored y (x.heap.size + 1) v) := by
  have ho : Off us' b (x.heap.size + 1) := f.off _ hWs (h0.off (Nat.le_succ _))
  refine ⟨vbox_store q v, us', h.kept ho (stored_turned y _ v), us, rfl, ?_⟩
  have f1 : Frm x y base b us us' none := (Frm.grow hbx hW).trans f
  refine ⟨f1.below.grown (stored_turned y _ v) (Nat.le_trans hbx f1.below.size) (fun j hj => by cases hj; omega), fun g hg hg2 => f1.off g hg hg2, fun g hg hg2 hne => ?_⟩
  exact ((stored_turned y _ v).block g (Nat.lt_of_lt_of_le hg f1.below.size) (fun e => by cases e; omega)).trans (f1.same g hg hg2 hne)
end
section
variable {x : World} {base b : Nat} {us : Nat → Value} {R : Nat → List Int} {e : Int} {tbase tb m n : Nat} {utab : Nat → Value} {O : List Pv}
set_option maxRecDepth 100000 in
set_option maxHeartbeats 4000000 in
theorem thr_write (t : Nat) (ht : t < 64) (v : Pv) (more : Int) (there : Bool) (h : PortS x base b (.pointer (some ⟨tb, 0, none⟩)) us R false 0) (hT : ∀ y, Below base x y → TabOf y tbase tb m n utab O) (hv : v.fitsK) (hl : (R t).length ≤ 1000000)
    (R' : Nat → List Int) (e' : Int) (hc : (there = false ∧ R' = upd R t (R t ++ [0]) ∧ e' = 0) ∨ (there = true ∧ decide (v ∈ O) = false ∧ R' = R ∧ e' = 8) ∨ (there = true ∧ decide (v ∈ O) = true ∧ R' = upd R t (R t ++ [wrap64 (Pv.nums O O.length v + more)]) ∧ e' = 0)) :
    Calls Try.prog 53 #[.pointer (some ⟨b, 0, none⟩), .int .i64 t, vv v, .int .i64 more, .bool there] x (ThrOk x base b (.pointer (some ⟨tb, 0, none⟩)) us R' false e' v false) := by
  have H := Lib.hid h
  have HB := Lib.hid h.ble
  have kW := Lib.hid (thrW_below x v)
  have qa := Lib.hid (thrW_a x v)
  have qb := Lib.hid (thrW_b x v)
  have HW := Lib.hid (h.grow (thrW_below x v))
  have HNUM := Lib.hid (fun (g : Gr (thrW x v)) => tnumber_any tbase tb m n utab O v g.1 (hT g.1 (((thrW_below x v).trans (g.2.mono (thrW_below x v).size)).mono h.ble)) hv)
  have c1 := HW.out.box.isr
  have c2 := HW.out.box.tab
  have z1 := HW.out.box.lt
  obtain ⟨d0, d1, d2, d3, d4, d5⟩ := qa.out.at_
  have z2 := qa.out.lt
  have HC := Lib.hid hc
  clear h hT hc
  unfold vv at HNUM ⊢
  go_enter Try.func53, Try.ntmps53
  go_upto_region 1 with fail
  rw [show ((x.alloc (.cells #[.int .i64 v.tag, .string (bs v.text), .int .u64 v.bits, .string (bs v.cls), .string (bs v.name), .string (bs v.desc)] 28)).alloc (.cells #[.int .i64 0, .string ⟨#[]⟩, .int .u64 0, .string ⟨#[]⟩, .string ⟨#[]⟩, .string ⟨#[]⟩] 28)) = thrW x v from rfl]
  have z3 := qb.out.lt
  generalize thrW x v = W at *
  go_wp2_with fail
  refine wp_region_grow (by kernel_rfl) (by kernel_rfl) ?_
  repeat (go_big_quiet_step ((go_at_call 64; exact Gr.call (HNUM.out _))))
  refine wpQuiet_nil ?_
  intro g1
  obtain ⟨w1, hb1⟩ := g1
  show Exit.then _ _ _ _ w1
  have K1 := Lib.hid hb1
  have H1 := Lib.hid (HW.out.grow hb1)
  have A1 := Lib.hid (qa.out.keep hb1 qa.out.lt)
  have B1 := Lib.hid (qb.out.keep hb1 qb.out.lt)
  have F1 := Lib.hid (Frm.grow (us := us) (b := b) (o := none) HW.out.ble hb1)
  have hWz := qb.out.lt
  have hwz := hb1.size
  have HOA := Lib.hid (H.out.off (Nat.le_refl x.heap.size))
  have HOB := Lib.hid (H.out.off (Nat.le_succ x.heap.size))
  clear hb1 c1 c2 z1 d0 d1 d2 d3 d4 d5 z2 z3 HNUM
  rcases HC.out with ⟨rfl, rfl, rfl⟩ | ⟨rfl, hm, rfl, rfl⟩ | ⟨rfl, hm, rfl, rfl⟩
  · clear HC
    go_wp2_with fail
    refine (put_any t 0 ht H1.out hl).mono ?_
    rintro e w3 ⟨rfl, us', h3, us0, rfl, f3⟩
    have H3 := Lib.hid h3
    have F3 := Lib.hid (F1.out.trans f3)
    have A3 := Lib.hid (show VBox w3 x.heap.size v from (f3.same _ (by omega) HOA.out (by simp)).trans A1.out)
    have Q3 := Lib.hid (show VBox w3 (x.heap.size + 1) Pv.zero from (f3.same _ (by omega) HOB.out (by simp)).trans B1.out)
    clear h3 f3 H1 A1 B1 F1
    have hfin := thr_fin kW.out hWz HB.out H.out H3.out F3.out Q3.out v
    have q3 := A3.out.at_
    obtain ⟨d0, d1, d2, d3, d4, d5⟩ := q3
    obtain ⟨z0, z1, z2, z3, z4, z5⟩ := zero_cells Q3.out
    have f0 := (blk_facts Q3.out).2 0
    have f1 := (blk_facts Q3.out).2 1
    have f2 := (blk_facts Q3.out).2 2
    have f3 := (blk_facts Q3.out).2 3
    have f4 := (blk_facts Q3.out).2 4
    have f5 := (blk_facts Q3.out).2 5
    have y1 := A3.out.lt
    have y2 := Q3.out.lt
    go_wp2_with fail
    unfold stored at hfin
    exact val_ret2 (g := x.heap.size + 1) (v := v) (x := .bool false) rfl rfl rfl hfin.1 ⟨rfl, hfin.2⟩
  · rw [hm]
    clear HC hm
    go_wp2_with fail
    refine (fail_any 8 H1.out).mono ?_
    rintro e w3 ⟨rfl, h3, g3⟩
    have f3 := Frm.box (us := us) (o := none) H1.out.hb H1.out.ble g3
    have H3 := Lib.hid h3
    have F3 := Lib.hid (F1.out.trans f3)
    have A3 := Lib.hid (show VBox w3 x.heap.size v from (f3.same _ (by omega) HOA.out (by simp)).trans A1.out)
    have Q3 := Lib.hid (show VBox w3 (x.heap.size + 1) Pv.zero from (f3.same _ (by omega) HOB.out (by simp)).trans B1.out)
    clear h3 f3 g3 H1 A1 B1 F1
    have hfin := thr_fin kW.out hWz HB.out H.out H3.out F3.out Q3.out v
    have q3 := A3.out.at_
    obtain ⟨d0, d1, d2, d3, d4, d5⟩ := q3
    obtain ⟨z0, z1, z2, z3, z4, z5⟩ := zero_cells Q3.out
    have f0 := (blk_facts Q3.out).2 0
    have f1 := (blk_facts Q3.out).2 1
    have f2 := (blk_facts Q3.out).2 2
    have f3 := (blk_facts Q3.out).2 3
    have f4 := (blk_facts Q3.out).2 4
    have f5 := (blk_facts Q3.out).2 5
    have y1 := A3.out.lt
    have y2 := Q3.out.lt
    go_wp2_with fail
    unfold stored at hfin
    exact val_ret2 (g := x.heap.size + 1) (v := v) (x := .bool false) rfl rfl rfl hfin.1 ⟨rfl, hfin.2⟩
  · rw [hm]
    clear HC hm
    go_wp2_with fail
    refine (put_any t _ ht H1.out hl).mono ?_
    rintro e w3 ⟨rfl, us', h3, us0, rfl, f3⟩
    have H3 := Lib.hid h3
    have F3 := Lib.hid (F1.out.trans f3)
    have A3 := Lib.hid (show VBox w3 x.heap.size v from (f3.same _ (by omega) HOA.out (by simp)).trans A1.out)
    have Q3 := Lib.hid (show VBox w3 (x.heap.size + 1) Pv.zero from (f3.same _ (by omega) HOB.out (by simp)).trans B1.out)
    clear h3 f3 H1 A1 B1 F1
    have hfin := thr_fin kW.out hWz HB.out H.out H3.out F3.out Q3.out v
    have q3 := A3.out.at_
    obtain ⟨d0, d1, d2, d3, d4, d5⟩ := q3
    obtain ⟨z0, z1, z2, z3, z4, z5⟩ := zero_cells Q3.out
    have f0 := (blk_facts Q3.out).2 0
    have f1 := (blk_facts Q3.out).2 1
    have f2 := (blk_facts Q3.out).2 2
    have f3 := (blk_facts Q3.out).2 3
    have f4 := (blk_facts Q3.out).2 4
    have f5 := (blk_facts Q3.out).2 5
    have y1 := A3.out.lt
    have y2 := Q3.out.lt
    go_wp2_with fail
    unfold stored at hfin
    exact val_ret2 (g := x.heap.size + 1) (v := v) (x := .bool false) rfl rfl rfl hfin.1 ⟨rfl, hfin.2⟩

set_option maxRecDepth 100000 in
set_option maxHeartbeats 4000000 in
theorem thr_end (t : Nat) (ht : t < 64) (v : Pv) (more : Int) (there : Bool)  (h : PortS x base b (.pointer (some ⟨tb, 0, none⟩)) us R true 0) (hT : ∀ y, Below base x y → TabOf y tbase tb m n utab O)
    (hR : R t = []) : Calls Try.prog 53 #[.pointer (some ⟨b, 0, none⟩), .int .i64 t, vv v, .int .i64 more, .bool there] x (ThrOk x base b (.pointer (some ⟨tb, 0, none⟩)) us R true 6 v false) := by
  have H := Lib.hid h
  have HB := Lib.hid h.ble
  have kW := Lib.hid (thrW_below x v)
  have qa := Lib.hid (thrW_a x v)
  have qb := Lib.hid (thrW_b x v)
  have HW := Lib.hid (h.grow (thrW_below x v))
  have HT := Lib.hid hT
  have HRW := Lib.hid hR
  have c1 := HW.out.box.isr
  have z1 := HW.out.box.lt
  have HOA := Lib.hid (H.out.off (Nat.le_refl x.heap.size))
  have HOB := Lib.hid (H.out.off (Nat.le_succ x.heap.size))
  clear h hT hR
  unfold vv
  go_enter Try.func53, Try.ntmps53
  go_upto_region 1 with fail
  rw [show ((x.alloc (.cells #[.int .i64 v.tag, .string (bs v.text), .int .u64 v.bits, .string (bs v.cls), .string (bs v.name), .string (bs v.desc)] 28)).alloc (.cells #[.int .i64 0, .string ⟨#[]⟩, .int .u64 0, .string ⟨#[]⟩, .string ⟨#[]⟩, .string ⟨#[]⟩] 28)) = thrW x v from rfl]
  have hWz := qb.out.lt
  have kWs := kW.out.size
  generalize thrW x v = W at *
  go_wp2_with fail
  refine (next_end t ht HW.out HRW.out).mono ?_
  rintro e w3 ⟨rfl, us', h3, us0, rfl, f3⟩
  have H3 := Lib.hid h3
  have F3 := Lib.hid f3
  have A3 := Lib.hid (show VBox w3 x.heap.size v from (f3.same _ (by omega) HOA.out (by simp)).trans qa.out)
  have Q3 := Lib.hid (show VBox w3 (x.heap.size + 1) Pv.zero from (f3.same _ (by omega) HOB.out (by simp)).trans qb.out)
  clear h3 f3 c1 z1
  have hfin := thr_fin kW.out hWz HB.out H.out H3.out F3.out Q3.out v
  obtain ⟨d0, d1, d2, d3, d4, d5⟩ := A3.out.at_
  obtain ⟨z0, z1, z2, z3, z4, z5⟩ := zero_cells Q3.out
  have f0 := (blk_facts Q3.out).2 0
  have f1 := (blk_facts Q3.out).2 1
  have f2 := (blk_facts Q3.out).2 2
  have f3 := (blk_facts Q3.out).2 3
  have f4 := (blk_facts Q3.out).2 4
  have f5 := (blk_facts Q3.out).2 5
  have y1 := A3.out.lt
  have y2 := Q3.out.lt
  go_wp2_with fail
  unfold stored at hfin
  exact val_ret2 (g := x.heap.size + 1) (v := v) (x := .bool false) rfl rfl rfl hfin.1 ⟨rfl, hfin.2⟩
set_option maxRecDepth 100000 in
set_option maxHeartbeats 4000000 in
theorem thr_zero (t : Nat) (ht : t < 64) (v : Pv) (more : Int) (there : Bool) (zs : List Int) (hm : more = 1) (hl : zs.length ≤ 1000000) (h : PortS x base b (.pointer (some ⟨tb, 0, none⟩)) us R true 0) (hT : ∀ y, Below base x y → TabOf y tbase tb m n utab O)
    (hR : R t = 0 :: zs) : Calls Try.prog 53 #[.pointer (some ⟨b, 0, none⟩), .int .i64 t, vv v, .int .i64 more, .bool there] x (ThrOk x base b (.pointer (some ⟨tb, 0, none⟩)) us (upd R t zs) true 0 Pv.zero true) := by
  subst hm
  have H := Lib.hid h
  have HB := Lib.hid h.ble
  have kW := Lib.hid (thrW_below x v)
  have qa := Lib.hid (thrW_a x v)
  have qb := Lib.hid (thrW_b x v)
  have HW := Lib.hid (h.grow (thrW_below x v))
  have HT := Lib.hid hT
  have HRW := Lib.hid hR
  have c1 := HW.out.box.isr
  have z1 := HW.out.box.lt
  have HOA := Lib.hid (H.out.off (Nat.le_refl x.heap.size))
  have HOB := Lib.hid (H.out.off (Nat.le_succ x.heap.size))
  clear h hT hR
  unfold vv
  go_enter Try.func53, Try.ntmps53
  go_upto_region 1 with fail
  rw [show ((x.alloc (.cells #[.int .i64 v.tag, .string (bs v.text), .int .u64 v.bits, .string (bs v.cls), .string (bs v.name), .string (bs v.desc)] 28)).alloc (.cells #[.int .i64 0, .string ⟨#[]⟩, .int .u64 0, .string ⟨#[]⟩, .string ⟨#[]⟩, .string ⟨#[]⟩] 28)) = thrW x v from rfl]
  have hWz := qb.out.lt
  have kWs := kW.out.size
  generalize thrW x v = W at *
  go_wp2_with fail
  refine (next_any t 0 zs ht HW.out HRW.out hl).mono ?_
  rintro e w3 ⟨rfl, us', h3, us0, rfl, f3⟩
  have H3 := Lib.hid h3
  have F3 := Lib.hid f3
  have A3 := Lib.hid (show VBox w3 x.heap.size v from (f3.same _ (by omega) HOA.out (by simp)).trans qa.out)
  have Q3 := Lib.hid (show VBox w3 (x.heap.size + 1) Pv.zero from (f3.same _ (by omega) HOB.out (by simp)).trans qb.out)
  clear h3 f3 c1 z1
  have hfin := thr_fin kW.out hWz HB.out H.out H3.out F3.out Q3.out Pv.zero
  obtain ⟨d0, d1, d2, d3, d4, d5⟩ := A3.out.at_
  obtain ⟨z0, z1, z2, z3, z4, z5⟩ := zero_cells Q3.out
  have f0 := (blk_facts Q3.out).2 0
  have f1 := (blk_facts Q3.out).2 1
  have f2 := (blk_facts Q3.out).2 2
  have f3 := (blk_facts Q3.out).2 3
  have f4 := (blk_facts Q3.out).2 4
  have f5 := (blk_facts Q3.out).2 5
  have y1 := A3.out.lt
  have y2 := Q3.out.lt
  go_wp2_with fail
  unfold stored at hfin
  exact val_ret2 (g := x.heap.size + 1) (v := Pv.zero) (x := .bool true) rfl rfl rfl hfin.1 ⟨rfl, hfin.2⟩
end
end Go.Proofs.Ytdmiljaiglaacaa

/- The walks of layer 29: a value goes through a reader, by its number. -/
namespace Go.Proofs.Ytdmiljaiglaacaa
open Go.RowKit Go.Maps
section
variable {x : World} {base b : Nat} {us : Nat → Value} {R : Nat → List Int} {e : Int} {tbase tb m n : Nat} {utab : Nat → Value} {O : List Pv}
set_option maxRecDepth 100000 in
set_option maxHeartbeats 4000000 in
theorem thr_at (t : Nat) (ht : t < 64) (v : Pv) (more : Int) (there : Bool) (z : Int) (zs : List Int) (i : Nat) (u : Pv) (hnz : ¬ (more = 1 ∧ z = 0)) (hl : zs.length ≤ 1000000) (hi : wrap64 (z - more) = (i : Int)) (hu : (Pv.row O v.tag)[i]? = some u) (hok : ∀ v ∈ O, v.chk 0 9 5 = 0) (h : PortS x base b (.pointer (some ⟨tb, 0, none⟩)) us R true 0) (hT : ∀ y, Below base x y → TabOf y tbase tb m n utab O)
    (hR : R t = z :: zs) : Calls Try.prog 53 #[.pointer (some ⟨b, 0, none⟩), .int .i64 t, vv v, .int .i64 more, .bool there] x (ThrOk x base b (.pointer (some ⟨tb, 0, none⟩)) us (upd R t zs) true 0 u true) := by
  have HNZ := Lib.hid hnz
  clear hnz
  have H := Lib.hid h
  have HB := Lib.hid h.ble
  have kW := Lib.hid (thrW_below x v)
  have qa := Lib.hid (thrW_a x v)
  have qb := Lib.hid (thrW_b x v)
  have HW := Lib.hid (h.grow (thrW_below x v))
  have HT := Lib.hid hT
  have HRW := Lib.hid hR
  have c1 := HW.out.box.isr
  have z1 := HW.out.box.lt
  have HOA := Lib.hid (H.out.off (Nat.le_refl x.heap.size))
  have HOB := Lib.hid (H.out.off (Nat.le_succ x.heap.size))
  clear h hT hR
  unfold vv
  go_enter Try.func53, Try.ntmps53
  go_upto_region 1 with fail
  rw [show ((x.alloc (.cells #[.int .i64 v.tag, .string (bs v.text), .int .u64 v.bits, .string (bs v.cls), .string (bs v.name), .string (bs v.desc)] 28)).alloc (.cells #[.int .i64 0, .string ⟨#[]⟩, .int .u64 0, .string ⟨#[]⟩, .string ⟨#[]⟩, .string ⟨#[]⟩] 28)) = thrW x v from rfl]
  have hWz := qb.out.lt
  have kWs := kW.out.size
  generalize thrW x v = W at *
  go_wp2_with fail
  refine (next_any t z zs ht HW.out HRW.out hl).mono ?_
  rintro e w3 ⟨rfl, us', h3, us0, rfl, f3⟩
  have H3 := Lib.hid h3
  have F3 := Lib.hid f3
  have A3 := Lib.hid (show VBox w3 x.heap.size v from (f3.same _ (by omega) HOA.out (by simp)).trans qa.out)
  have Q3 := Lib.hid (show VBox w3 (x.heap.size + 1) Pv.zero from (f3.same _ (by omega) HOB.out (by simp)).trans qb.out)
  clear h3 f3 c1 z1
  have HAT := Lib.hid (fun (y : World) (hy : Below w3.drew.heap.size w3.drew y) => at_in tbase tb m n utab O v.tag i u y (HT.out y (((Frm.grow HB.out kW.out).trans F3.out).below.trans (((Below.refl _ _).drew.trans hy).mono H3.out.ble))) hok hu)
  unfold vv at HAT
  obtain ⟨d0, d1, d2, d3, d4, d5⟩ := A3.out.at_
  have y1 := A3.out.lt
  have c2 := H3.out.box.tab
  have z2 := H3.out.box.lt
  have hcs : (more = 1 ∧ (z == 0) = false) ∨ (more == 1) = false := by
    by_cases hm : more = 1
    · exact .inl ⟨hm, by simpa using fun h => HNZ.out ⟨hm, h⟩⟩
    · exact .inr (by simpa using hm)
  have HI := Lib.hid hi
  clear HNZ hi
  rcases hcs with ⟨rfl, p⟩ | p
  all_goals
    go_wp2_with fail
    have y1d : x.heap.size < w3.drew.heap.size := y1
    have z2d : b < w3.drew.heap.size := z2
    refine wp_region_ord 14 (by kernel_rfl) (by kernel_rfl) (fun _ _ d _ _ h => by cases d <;> exact h) ?_
    simp only [List.take_succ_cons, List.take_zero, List.drop_succ_cons, List.drop_zero]
    repeat (first | (refine wpLex_skip rfl ?_; simp only [Act.put, List.setIfInBounds_toArray, List.set_cons_zero, List.set_cons_succ]) | (refine wpLex_fix rfl ?_; intro F hF R hR hne K hK; go_big_quiet_op; first | (go_big_quiet_on; clear hne hR R hF F) | (apply Exists.intro; refine ⟨fun g => ?_, ?_⟩; (((first | (go_at_call 65; rw [HI.out]; exact GrE.call hR (HAT.out _ (GrE.below g))) | (rw [GrE.cell g _ _ y1d]; go_simp; first | exact ⟨rfl, rfl⟩ | rfl) | (rw [GrE.cell g _ _ z2d]; go_simp; first | exact ⟨rfl, rfl⟩ | rfl)))); go_big_quiet_on; clear hne hR R hF F)) | (apply wpLex_blk rfl; (focus (intro x hx; go_simp; exact ⟨rfl, rfl⟩)); intro B hB; simp only [Act.put, blkVal, List.setIfInBounds_toArray, List.set_cons_zero, List.set_cons_succ]))
    refine wpLex_nil ?_
    intro w1 hw1
    have F1 := hw1.fact 16 B _ (.inr ⟨rfl, rfl, rfl⟩)
    have k3 : Below w3.heap.size w3 w1 := (Below.refl _ _).drew.trans hw1.below
    have hBz : w3.heap.size ≤ B := F1.1
    have qB : VBox w1 B Pv.zero := F1.2
    obtain ⟨z0, z1, z2', z3, z4, z5⟩ := zero_cells qB
    have f0 := (blk_facts qB).2 0
    have f1 := (blk_facts qB).2 1
    have f2 := (blk_facts qB).2 2
    have f3 := (blk_facts qB).2 3
    have f4 := (blk_facts qB).2 4
    have f5 := (blk_facts qB).2 5
    have hBl := qB.lt
    have k4 : Below w3.heap.size w3 (stored w1 B u) := below_store k3 hBz u
    have QB := Lib.hid (vbox_store qB u)
    have H4 := Lib.hid (H3.out.grow k4)
    have F4 := Lib.hid (F3.out.trans (Frm.grow H3.out.ble k4))
    have A4 := Lib.hid (A3.out.keep k4 A3.out.lt)
    have Q4 := Lib.hid (Q3.out.keep k4 Q3.out.lt)
    clear hw1 F1 k3 k4 HAT
    go_upto_region 15 with fail
    clear qB hBl f0 f1 f2 f3 f4 f5 z0 z1 z2' z3 z4 z5 y1 z2 y1d z2d c2 d0 d1 d2 d3 d4 d5
    unfold stored at QB H4 F4 A4 Q4
    generalize (((((w1.setCell ⟨B, 0, none⟩ (.int .i64 u.tag)).setCell ⟨B, 1, none⟩ (.string (bs u.text))).setCell ⟨B, 2, none⟩ (.int .u64 u.bits)).setCell ⟨B, 3, none⟩ (.string (bs u.cls))).setCell ⟨B, 4, none⟩ (.string (bs u.name))).setCell ⟨B, 5, none⟩ (.string (bs u.desc)) = w4 at *
    have hfin := thr_fin kW.out hWz HB.out H.out H4.out F4.out Q4.out u
    obtain ⟨d0, d1, d2, d3, d4, d5⟩ := QB.out.at_
    obtain ⟨z0, z1, z2, z3, z4, z5⟩ := zero_cells Q4.out
    have f0 := (blk_facts Q4.out).2 0
    have f1 := (blk_facts Q4.out).2 1
    have f2 := (blk_facts Q4.out).2 2
    have f3 := (blk_facts Q4.out).2 3
    have f4 := (blk_facts Q4.out).2 4
    have f5 := (blk_facts Q4.out).2 5
    have y1 := QB.out.lt
    have y2 := Q4.out.lt
    go_wp2_with fail
    unfold stored at hfin
    exact val_ret2 (g := x.heap.size + 1) (v := u) (x := .bool true) rfl rfl rfl hfin.1 ⟨rfl, hfin.2⟩
end
end Go.Proofs.Ytdmiljaiglaacaa

/- The walks of layer 29: a value goes through a reader, a number that the table lacks. -/
namespace Go.Proofs.Ytdmiljaiglaacaa
open Go.RowKit Go.Maps
section
variable {x : World} {base b : Nat} {us : Nat → Value} {R : Nat → List Int} {e : Int} {tbase tb m n : Nat} {utab : Nat → Value} {O : List Pv}
set_option maxRecDepth 100000 in
set_option maxHeartbeats 4000000 in
theorem thr_out (t : Nat) (ht : t < 64) (v : Pv) (more : Int) (there : Bool) (z : Int) (zs : List Int) (hnz : ¬ (more = 1 ∧ z = 0)) (hl : zs.length ≤ 1000000) (hi : wrap64 (z - more) < 0 ∨ ((Pv.row O v.tag).length : Int) ≤ wrap64 (z - more)) (hok : ∀ v ∈ O, v.chk 0 9 5 = 0) (h : PortS x base b (.pointer (some ⟨tb, 0, none⟩)) us R true 0) (hT : ∀ y, Below base x y → TabOf y tbase tb m n utab O)
    (hR : R t = z :: zs) : Calls Try.prog 53 #[.pointer (some ⟨b, 0, none⟩), .int .i64 t, vv v, .int .i64 more, .bool there] x (ThrOk x base b (.pointer (some ⟨tb, 0, none⟩)) us (upd R t zs) true 5 Pv.zero false) := by
  obtain ⟨u, hu⟩ : ∃ u : Pv, u = Pv.zero := ⟨_, rfl⟩
  have HU := Lib.hid hu
  rw [← hu]
  clear hu
  have HNZ := Lib.hid hnz
  have HI := Lib.hid hi
  clear hnz hi
  have H := Lib.hid h
  have HB := Lib.hid h.ble
  have kW := Lib.hid (thrW_below x v)
  have qa := Lib.hid (thrW_a x v)
  have qb := Lib.hid (thrW_b x v)
  have HW := Lib.hid (h.grow (thrW_below x v))
  have HT := Lib.hid hT
  have HRW := Lib.hid hR
  have c1 := HW.out.box.isr
  have z1 := HW.out.box.lt
  have HOA := Lib.hid (H.out.off (Nat.le_refl x.heap.size))
  have HOB := Lib.hid (H.out.off (Nat.le_succ x.heap.size))
  clear h hT hR
  unfold vv
  go_enter Try.func53, Try.ntmps53
  go_upto_region 1 with fail
  rw [show ((x.alloc (.cells #[.int .i64 v.tag, .string (bs v.text), .int .u64 v.bits, .string (bs v.cls), .string (bs v.name), .string (bs v.desc)] 28)).alloc (.cells #[.int .i64 0, .string ⟨#[]⟩, .int .u64 0, .string ⟨#[]⟩, .string ⟨#[]⟩, .string ⟨#[]⟩] 28)) = thrW x v from rfl]
  have hWz := qb.out.lt
  have kWs := kW.out.size
  generalize thrW x v = W at *
  go_wp2_with fail
  refine (next_any t z zs ht HW.out HRW.out hl).mono ?_
  rintro e w3 ⟨rfl, us', h3, us0, rfl, f3⟩
  have H3 := Lib.hid h3
  have F3 := Lib.hid f3
  have A3 := Lib.hid (show VBox w3 x.heap.size v from (f3.same _ (by omega) HOA.out (by simp)).trans qa.out)
  have Q3 := Lib.hid (show VBox w3 (x.heap.size + 1) Pv.zero from (f3.same _ (by omega) HOB.out (by simp)).trans qb.out)
  clear h3 f3 c1 z1
  have HAT := Lib.hid (fun (y : World) (hy : Below w3.drew.heap.size w3.drew y) => at_out tbase tb m n utab O v.tag (wrap64 (z - more)) y (HT.out y (((Frm.grow HB.out kW.out).trans F3.out).below.trans (((Below.refl _ _).drew.trans hy).mono H3.out.ble))) hok HI.out)
  rw [← HU.out] at HAT
  unfold vv at HAT
  obtain ⟨d0, d1, d2, d3, d4, d5⟩ := A3.out.at_
  have y1 := A3.out.lt
  have c2 := H3.out.box.tab
  have z2 := H3.out.box.lt
  have hcs : (more = 1 ∧ (z == 0) = false) ∨ (more == 1) = false := by
    by_cases hm : more = 1
    · exact .inl ⟨hm, by simpa using fun h => HNZ.out ⟨hm, h⟩⟩
    · exact .inr (by simpa using hm)
  clear HNZ
  rcases hcs with ⟨rfl, p⟩ | p
  all_goals
    go_wp2_with fail
    have y1d : x.heap.size < w3.drew.heap.size := y1
    have z2d : b < w3.drew.heap.size := z2
    refine wp_region_ord 14 (by kernel_rfl) (by kernel_rfl) (fun _ _ d _ _ h => by cases d <;> exact h) ?_
    simp only [List.take_succ_cons, List.take_zero, List.drop_succ_cons, List.drop_zero]
    repeat (first | (refine wpLex_skip rfl ?_; simp only [Act.put, List.setIfInBounds_toArray, List.set_cons_zero, List.set_cons_succ]) | (refine wpLex_fix rfl ?_; intro F hF R hR hne K hK; go_big_quiet_op; first | (go_big_quiet_on; clear hne hR R hF F) | (apply Exists.intro; refine ⟨fun g => ?_, ?_⟩; (((first | (go_at_call 65; exact GrE.call hR (HAT.out _ (GrE.below g))) | (rw [GrE.cell g _ _ y1d]; go_simp; first | exact ⟨rfl, rfl⟩ | rfl) | (rw [GrE.cell g _ _ z2d]; go_simp; first | exact ⟨rfl, rfl⟩ | rfl)))); go_big_quiet_on; clear hne hR R hF F)) | (apply wpLex_blk rfl; (focus (intro x hx; go_simp; exact ⟨rfl, rfl⟩)); intro B hB; simp only [Act.put, blkVal, List.setIfInBounds_toArray, List.set_cons_zero, List.set_cons_succ]))
    refine wpLex_nil ?_
    intro w1 hw1
    have F1 := hw1.fact 16 B _ (.inr ⟨rfl, rfl, rfl⟩)
    have k3 : Below w3.heap.size w3 w1 := (Below.refl _ _).drew.trans hw1.below
    have hBz : w3.heap.size ≤ B := F1.1
    have qB : VBox w1 B Pv.zero := F1.2
    obtain ⟨z0, z1, z2', z3, z4, z5⟩ := zero_cells qB
    have f0 := (blk_facts qB).2 0
    have f1 := (blk_facts qB).2 1
    have f2 := (blk_facts qB).2 2
    have f3 := (blk_facts qB).2 3
    have f4 := (blk_facts qB).2 4
    have f5 := (blk_facts qB).2 5
    have hBl := qB.lt
    have k4 : Below w3.heap.size w3 (stored w1 B u) := below_store k3 hBz u
    have QB := Lib.hid (vbox_store qB u)
    have H4b := Lib.hid (H3.out.off hBz)
    have H4 := Lib.hid (H3.out.grow k4)
    have F4 := Lib.hid (F3.out.trans (Frm.grow H3.out.ble k4))
    have A4 := Lib.hid (A3.out.keep k4 A3.out.lt)
    have Q4 := Lib.hid (Q3.out.keep k4 Q3.out.lt)
    clear hw1 F1 k3 k4 HAT
    go_upto_region 15 with fail
    clear qB hBl f0 f1 f2 f3 f4 f5 z0 z1 z2' z3 z4 z5 y1 z2 y1d z2d c2 d0 d1 d2 d3 d4 d5
    unfold stored at QB H4 F4 A4 Q4
    generalize (((((w1.setCell ⟨B, 0, none⟩ (.int .i64 u.tag)).setCell ⟨B, 1, none⟩ (.string (bs u.text))).setCell ⟨B, 2, none⟩ (.int .u64 u.bits)).setCell ⟨B, 3, none⟩ (.string (bs u.cls))).setCell ⟨B, 4, none⟩ (.string (bs u.name))).setCell ⟨B, 5, none⟩ (.string (bs u.desc)) = w4 at *
    go_wp2_with fail
    refine (fail_any 5 H4.out).mono ?_
    rintro e w5 ⟨rfl, h5, g5⟩
    have H5 := Lib.hid h5
    have f5' := Frm.box (us := us') (o := none) H4.out.hb H4.out.ble g5
    have F5 := Lib.hid (F4.out.trans f5')
    have hz3 := H3.out.box.lt
    have A5 := Lib.hid (show VBox w5 x.heap.size v from (f5'.same _ A4.out.lt (F4.out.off _ (by omega) HOA.out) (by simp)).trans A4.out)
    have Q5 := Lib.hid (show VBox w5 (x.heap.size + 1) Pv.zero from (f5'.same _ Q4.out.lt (F4.out.off _ (by omega) HOB.out) (by simp)).trans Q4.out)
    have QB5 := Lib.hid (show VBox w5 B u from (f5'.same _ QB.out.lt (H4b.out) (by simp)).trans QB.out)
    clear h5 g5 f5'
    have hfin := thr_fin kW.out hWz HB.out H.out H5.out F5.out Q5.out u
    obtain ⟨d0, d1, d2, d3, d4, d5⟩ := QB5.out.at_
    obtain ⟨z0, z1, z2, z3, z4, z5⟩ := zero_cells Q5.out
    have f0 := (blk_facts Q5.out).2 0
    have f1 := (blk_facts Q5.out).2 1
    have f2 := (blk_facts Q5.out).2 2
    have f3 := (blk_facts Q5.out).2 3
    have f4 := (blk_facts Q5.out).2 4
    have f5 := (blk_facts Q5.out).2 5
    have y1 := QB5.out.lt
    have y2 := Q5.out.lt
    go_wp2_with fail
    unfold stored at hfin
    exact val_ret2 (g := x.heap.size + 1) (v := u) (x := .bool false) rfl rfl rfl hfin.1 ⟨rfl, hfin.2⟩
end
end Go.Proofs.Ytdmiljaiglaacaa

/- Regions that draw their order and hold one call that writes: the other operations read what that call leaves as it was, or lay fresh blocks; whatever the order, it comes to the order of the text. No program. -/
namespace Go.Proofs.Ytdmiljaiglaacaa.OrdW
open Go.RowKit

/-- The worlds ahead of the call (false) and behind it (true). -/
structure Ph (w0 : World) where
  C : Bool → World → Prop
  grow : ∀ c x y, C c x → Below x.heap.size x y → C c y
  size : ∀ c x, C c x → w0.heap.size ≤ x.heap.size

section
variable {P : Program} {ops : Array Oper} {md : Region.Mode} {Q : Exit → Act → World → Prop} {w0 x y : World} {E F : Env} {Φ : Ph w0} {ic : Nat} {c : Bool}

structure Cl (Φ : Ph w0) (c : Bool) (E : Env) (x : World) : Prop where
  cls : Φ.C c x
  fact : ∀ s B o, E s B o → w0.heap.size ≤ B ∧ x.heap[B]? = some o
theorem Cl.size (h : Cl Φ c E x) : w0.heap.size ≤ x.heap.size := Φ.size c x h.cls
theorem Cl.grow (h : Cl Φ c E x) (k : Below x.heap.size x y) : Cl Φ c E y :=
  ⟨Φ.grow c x y h.cls k, fun s B o e => by
    obtain ⟨h1, h2⟩ := h.fact s B o e
    exact ⟨h1, (k.block B (Array.getElem?_eq_some_iff.1 h2).1).trans h2⟩⟩
theorem Cl.sub (h : Cl Φ c E x) (hs : ∀ s B o, F s B o → E s B o) : Cl Φ c F x := ⟨h.cls, fun s B o e => h.fact s B o (hs s B o e)⟩
theorem Cl.only (h : Cl Φ c E x) (o : Oper) : Cl Φ c (E.only ops o) x := h.sub fun _ _ _ e => e.2
theorem Cl.upd (h : Cl Φ c E x) (d : Option Nat) (obj : Obj) : Cl Φ c (E.upd d x.heap.size obj) (x.alloc obj) := by
  have hg := h.grow (y := x.alloc obj) ((Below.refl _ _).alloc (Nat.le_refl _) _)
  refine ⟨hg.cls, fun s B o e => ?_⟩
  rcases e with e | ⟨_, rfl, rfl⟩
  · exact hg.fact s B o e
  · exact ⟨h.size, heap_alloc_new x _⟩
/-- A world of the class in which block number B is the next one. -/
theorem Cl.pad (h : Cl Φ c E x) : ∀ n : Nat, ∃ y, Cl Φ c E y ∧ y.heap.size = x.heap.size + n
  | 0 => ⟨x, h, rfl⟩
  | n + 1 => by
    obtain ⟨y, hy, hs⟩ := Cl.pad h n
    exact ⟨y.alloc (.map #[] 0), hy.grow ((Below.refl _ _).alloc (Nat.le_refl _) _), by rw [World.size_alloc, hs]; rfl⟩

/-- What an operation comes to: one value; a fresh block that holds this; or it is the call that writes, and returns this. -/
inductive Kind where
  | val (v : Value)
  | blk (obj : Obj)
  | wr (v : Value)
def Kind.res (o : Oper) (k : Kind) (B : Nat) : Value := match k with | .val v => v | .blk _ => blkVal o B | .wr v => v
def Kind.env (o : Oper) (k : Kind) (B : Nat) (E : Env) : Env := match k with | .blk obj => E.upd o.dst B obj | _ => E

def Runs (P : Program) (ops : Array Oper) (Φ : Ph w0) (ic j : Nat) (F : Env) (o : Oper) (a : Act) : Kind → Prop
  | .val v => j ≠ ic ∧ ((Region.wanted o (yielded ops a.tmps) = true ∧ ∀ c x, Cl Φ c F x → o.quietAt P a (fun y => Below x.heap.size x y) x v) ∨ (Region.wanted o (yielded ops a.tmps) = false ∧ v = undef))
  | .blk obj => j ≠ ic ∧ Region.wanted o (yielded ops a.tmps) = true ∧ ∀ c x, Cl Φ c F x → (execOp a.eval o).run P x = .ok (.value (blkVal o x.heap.size)) (x.alloc obj)
  | .wr v => j = ic ∧ Region.wanted o (yielded ops a.tmps) = true ∧ ∀ x, Cl Φ false F x → ∃ f args, (execOp a.eval o).run P x = .ok (.enter f args) x ∧
      Calls P f args x fun e y => e = .returned v ∧ Φ.C true y ∧ x.heap.size ≤ y.heap.size ∧ ∀ B, w0.heap.size ≤ B → B < x.heap.size → y.heap[B]? = x.heap[B]?

theorem Runs.det {j : Nat} {o : Oper} {a : Act} : ∀ {k1 k2 : Kind}, Runs P ops Φ ic j F o a k1 → Runs P ops Φ ic j F o a k2 → Cl Φ false F x → k1 = k2
  | .val v, .val u, h1, h2, hx => by
    rcases h1.2 with ⟨w1, h1⟩ | ⟨w1, h1⟩ <;> rcases h2.2 with ⟨w2, h2⟩ | ⟨w2, h2⟩
    · exact congrArg _ (quietUpon_det (h1 _ x hx) (h2 _ x hx))
    · rw [w1] at w2; cases w2
    · rw [w1] at w2; cases w2
    · rw [h1, h2]
  | .val v, .blk o2, h1, h2, hx => by
    rcases h1.2 with ⟨w1, h1⟩ | ⟨w1, h1⟩
    · have := h1 _ x hx
      unfold Oper.quietAt at this
      rw [h2.2.2 _ x hx] at this
      exact absurd this.1 (alloc_ne x o2)
    · have := h2.2.1; rw [w1] at this; cases this
  | .blk o1, .val u, h1, h2, hx => by
    rcases h2.2 with ⟨w2, h2⟩ | ⟨w2, h2⟩
    · have := h2 _ x hx
      unfold Oper.quietAt at this
      rw [h1.2.2 _ x hx] at this
      exact absurd this.1 (alloc_ne x o1)
    · have := h1.2.1; rw [w2] at this; cases this
  | .blk o1, .blk o2, h1, h2, hx => by
    have := (h1.2.2 _ x hx).symm.trans (h2.2.2 _ x hx)
    simp only [Result.ok.injEq] at this
    exact congrArg _ (alloc_inj this.2)
  | .wr v, .wr u, h1, h2, hx => by
    obtain ⟨f1, a1, r1, c1⟩ := h1.2.2 x hx
    obtain ⟨f2, a2, r2, c2⟩ := h2.2.2 x hx
    rw [r1] at r2
    simp only [Result.ok.injEq, Next.enter.injEq, and_true] at r2
    obtain ⟨rfl, rfl⟩ := r2
    exact congrArg _ (Calls.unique (c1.mono fun _ _ h => h.1) (c2.mono fun _ _ h => h.1))
  | .wr _, .val _, h1, h2, _ => absurd h1.1 h2.1
  | .wr _, .blk _, h1, h2, _ => absurd h1.1 h2.1
  | .val _, .wr _, h1, h2, _ => absurd h2.1 h1.1
  | .blk _, .wr _, h1, h2, _ => absurd h2.1 h1.1

theorem Runs.put {j : Nat} {o : Oper} {a : Act} {dst : Option Tmp} {u : Value} (hs : ∀ cs b, o.op ≠ .select cs b) (h : ∀ d, dst = some d → d ∉ o.looksAt ops) (k : Kind) : Runs P ops Φ ic j F o (a.put dst u) k ↔ Runs P ops Φ ic j F o a k := by
  cases k <;> simp only [Runs, Oper.quietAt, execOp_put o hs a dst u h, wanted_put o a dst u h]
theorem Env.only_env {oi oj : Oper} (k : Kind) (B : Nat) (h : ∀ d, oi.dst = some d → d ∉ oj.looksAt ops) : (k.env oi B E).only ops oj = E.only ops oj := by
  cases k with
  | val v => rfl
  | wr v => rfl
  | blk obj =>
    funext s C u
    apply propext
    exact ⟨fun ⟨h1, h2⟩ => ⟨h1, h2.resolve_right fun h3 => h s h3.1 (by simpa using h1)⟩, fun ⟨h1, h2⟩ => ⟨h1, .inl h2⟩⟩
theorem upd_comm {d1 d2 : Option Nat} {B1 B2 : Nat} {o1 o2 : Obj} : (E.upd d1 B1 o1).upd d2 B2 o2 = (E.upd d2 B2 o2).upd d1 B1 o1 := by
  funext s C u
  apply propext
  exact ⟨fun h => by rcases h with (h | h) | h <;> simp [Env.upd, h], fun h => by rcases h with (h | h) | h <;> simp [Env.upd, h]⟩
theorem Kind.env_comm {oi oj : Oper} (ki kj : Kind) (Bi Bj : Nat) : ki.env oi Bi (kj.env oj Bj E) = kj.env oj Bj (ki.env oi Bi E) := by
  cases ki <;> cases kj <;> simp only [Kind.env] <;> first | rfl | exact upd_comm
theorem Kind.env_le (o : Oper) (k : Kind) (B : Nat) (s C : Nat) (u : Obj) (h : E s C u) : k.env o B E s C u := by
  cases k with
  | val _ => exact h
  | wr _ => exact h
  | blk _ => exact .inl h
/-- There is a world with that block. -/
theorem Kind.world (o : Oper) (k : Kind) {B : Nat} (hx : Cl Φ c E x) (hB : x.heap.size ≤ B) : ∃ y, Cl Φ c (k.env o B E) y ∧ (y.heap.size = x.heap.size ∨ (y.heap.size = B + 1 ∧ ∃ obj, k = .blk obj)) := by
  cases k with
  | val v => exact ⟨x, hx, .inl rfl⟩
  | wr v => exact ⟨x, hx, .inl rfl⟩
  | blk obj =>
    obtain ⟨y, hy, hs⟩ := hx.pad (B - x.heap.size)
    have e : y.heap.size = B := by omega
    have h1 := hy.upd o.dst obj
    rw [e] at h1
    exact ⟨_, h1, .inr ⟨by rw [World.size_alloc, e], obj, rfl⟩⟩

/-- Behind the operation of number i. -/
def aft (ic i : Nat) (c : Bool) : Bool := c || decide (i = ic)
theorem Runs.wpOp {i : Nat} {o : Oper} {a : Act} {k : Kind} (hi : ops[i]? = some o) (h : Runs P ops Φ ic i (E.only ops o) o a k) (hc : i = ic → c = false) (hx : Cl Φ c E x) {K : Act → World → Prop}
    (hK : ∀ B y, x.heap.size ≤ B → x.heap.size ≤ y.heap.size → ((∃ obj, k = .blk obj) → B + 1 ≤ y.heap.size) → Cl Φ (aft ic i c) (k.env o B E) y → K (a.put o.dst (k.res o B)) y) : Go.wpOp P ops Q i K a x := by
  unfold Go.wpOp
  simp only [hi]
  cases k with
  | val v =>
    have ea : aft ic i c = c := by unfold aft; rw [decide_eq_false h.1, Bool.or_false]
    rw [ea] at hK
    have hK' := fun y hs hy => hK x.heap.size y (Nat.le_refl _) hs (fun ⟨_, e⟩ => by cases e) hy
    rcases h.2 with ⟨hw, hv⟩ | ⟨hw, rfl⟩
    · rw [if_pos hw]
      refine .inl ?_
      have h3 := hv c x (hx.only o)
      unfold Oper.quietAt at h3
      unfold Oper.wp
      generalize (execOp a.eval o).run P x = r at *
      cases r with
      | ok n w' =>
        cases n <;> simp only [Oper.quietUpon] at h3 <;> simp only [Oper.upon]
        case value u => obtain ⟨rfl, rfl⟩ := h3; exact hK' _ (Nat.le_refl _) hx
        case skip => obtain ⟨rfl, rfl⟩ := h3; exact hK' _ (Nat.le_refl _) hx
        case enter f args =>
          obtain ⟨rfl, hcc⟩ := h3
          exact hcc.mono fun e w'' ⟨he, hw''⟩ => by subst he; exact hK' _ hw''.size (hx.grow hw'')
      | halt => simp only [Oper.quietUpon] at h3
    · rw [if_neg (by rw [hw]; decide)]
      exact hK' x (Nat.le_refl _) hx
  | blk obj =>
    have ea : aft ic i c = c := by unfold aft; rw [decide_eq_false h.1, Bool.or_false]
    rw [ea] at hK
    rw [if_pos h.2.1]
    refine .inl ?_
    unfold Oper.wp
    rw [h.2.2 c x (hx.only o)]
    exact hK x.heap.size _ (Nat.le_refl _) (by rw [World.size_alloc]; omega) (fun _ => by rw [World.size_alloc]; omega) (hx.upd o.dst obj)
  | wr v =>
    obtain rfl := hc h.1
    have ea : aft ic i false = true := by unfold aft; rw [decide_eq_true h.1, Bool.or_true]
    rw [ea] at hK
    rw [if_pos h.2.1]
    refine .inl ?_
    obtain ⟨f, args, hr, hcc⟩ := h.2.2 x (hx.only o)
    unfold Oper.wp
    rw [hr]
    simp only [Oper.upon]
    exact hcc.mono fun e w'' ⟨he, h1, h2, h3⟩ => by
      subst he
      refine hK x.heap.size w'' (Nat.le_refl _) h2 (fun ⟨_, e⟩ => by cases e) ⟨h1, fun s B o he => ?_⟩
      obtain ⟨g1, g2⟩ := hx.fact s B o he
      exact ⟨g1, (h3 B g1 (Array.getElem?_eq_some_iff.1 g2).1).trans g2⟩

theorem late_yields {i : Nat} {o : Oper} {a : Act} {k : Kind} (h : lateB o = true) (hr : Runs P ops Φ ic i F o a k) (hx : Cl Φ false F x) : ∃ v, k = .val v ∧ Yields P ops o v a := by
  cases k with
  | val v =>
    refine ⟨v, rfl, ?_⟩
    rcases hr.2 with ⟨hw, hv⟩ | hr
    · refine .inl ⟨hw, ?_⟩
      have := hv _ x hx
      unfold Oper.quietAt at this
      rcases late_run (P := P) o h a.eval with ⟨u, hu⟩ | hu
      · rw [hu x] at this
        simp only [Oper.quietUpon] at this
        rw [← this.2]
        exact hu
      · obtain ⟨hh, e⟩ := hu x
        rw [e] at this
        simp only [Oper.quietUpon] at this
    · exact .inr hr
  | blk obj =>
    have := hr.2.2 _ x hx
    rcases late_run (P := P) o h a.eval with ⟨u, hu⟩ | hu
    · rw [hu x] at this
      simp only [Result.ok.injEq] at this
      exact absurd this.2.symm (alloc_ne x obj)
    · obtain ⟨hh, e⟩ := hu x
      rw [e] at this
      cases this
  | wr v =>
    obtain ⟨f, args, h1, _⟩ := hr.2.2 x hx
    rcases late_run (P := P) o h a.eval with ⟨u, hu⟩ | hu
    · rw [hu x] at h1; simp at h1
    · obtain ⟨hh, e⟩ := hu x
      rw [e] at h1
      cases h1

def fl (ic : Nat) (listed : Array Bool) : Bool := listed.getD ic false
theorem fl_set {listed : Array Bool} {j : Nat} (hj : listed.getD j true = false) : fl ic (listed.setIfInBounds j true) = aft ic j (fl ic listed) := by
  have hs : j < listed.size := Classical.byContradiction fun h => by simp [Array.getD, h] at hj
  unfold fl aft
  by_cases e : j = ic
  · subst e
    rw [getD_set_true hs, decide_eq_true rfl, Bool.or_true]
  · rw [getD_set_ne false e, decide_eq_false e, Bool.or_false]
theorem fl_ready {listed : Array Bool} {j : Nat} (hj : listed.getD j true = false) : j = ic → fl ic listed = false := fun e => by
  subst e
  exact getD_both hj

/-- Whatever order is picked while operations of the head (the first n) are to come; 'g': how many there are behind the head. -/
def AO (P : Program) (md : Region.Mode) (ops : Array Oper) (Q : Exit → Act → World → Prop) (Φ : Ph w0) (ic n g : Nat) : Nat → Array Bool → Env → Act → Prop
  | 0, listed, E, a => ∀ w, Cl Φ false E w → (∀ j ∈ Region.ready md ops listed, n ≤ j) ∧ ∀ y, Cl Φ (fl ic listed) E y → w.heap.size ≤ y.heap.size → wpAny P md ops Q g listed a y
  | f + 1, listed, E, a => ∀ w, Cl Φ false E w → Region.ready md ops listed ≠ [] ∧
      (∀ j ∈ Region.ready md ops listed, j < n → ∃ o k, ops[j]? = some o ∧ Runs P ops Φ ic j (E.only ops o) o a k ∧
        ∀ B, w0.heap.size ≤ B → AO P md ops Q Φ ic n g f (listed.setIfInBounds j true) (k.env o B E) (a.put o.dst (k.res o B))) ∧
      ((∃ j ∈ Region.ready md ops listed, n ≤ j) → ∀ y, Cl Φ (fl ic listed) E y → w.heap.size ≤ y.heap.size → wpAny P md ops Q (f + 1 + g) listed a y)

theorem AO.any {n g : Nat} : ∀ (f : Nat) (listed : Array Bool) (E : Env) (a : Act) (w y : World), AO P md ops Q Φ ic n g f listed E a → Cl Φ false E w → Cl Φ (fl ic listed) E y → w.heap.size ≤ y.heap.size → wpAny P md ops Q (f + g) listed a y
  | 0, listed, E, a, w, y, h, hw, hy, hs => by rw [Nat.zero_add]; exact (h w hw).2 y hy hs
  | f + 1, listed, E, a, w, y, h, hw, hy, hs => by
    obtain ⟨hne, hA, hB⟩ := h w hw
    by_cases ht : ∃ j ∈ Region.ready md ops listed, n ≤ j
    · exact hB ht y hy hs
    · have e : f + 1 + g = (f + g) + 1 := by omega
      rw [e]
      refine ⟨fun h0 => absurd h0 hne, fun j hj => ?_⟩
      have hjn : j < n := Nat.lt_of_not_le fun hh => ht ⟨j, hj, hh⟩
      have hju := (mem_ready.1 hj).1
      obtain ⟨o, k, ho, hr, hk⟩ := hA j hj hjn
      refine hr.wpOp ho (fl_ready hju) hy fun B y' hB hs' hb hy' => ?_
      rw [← fl_set hju] at hy'
      obtain ⟨w', hw', hsz⟩ := Kind.world o k (B := B) hw (by omega)
      exact AO.any f _ _ _ w' y' (hk B (by have := hy.size; omega)) hw' hy' (by
        rcases hsz with h | ⟨h, hbk⟩
        · omega
        · have := hb hbk; omega)

/-- An operation of the head that may come up may be taken first. -/
theorem AO.first {n g i : Nat} {oi : Oper} {ki : Kind} (hi : ops[i]? = some oi) (hin : i < n) (hsel : ∀ (j : Nat) (o : Oper) cs b, ops[j]? = some o → o.op ≠ .select cs b)
    (hQ : ∀ c a v w, Q (.panic c) (a.put oi.dst v) w → Q (.panic c) a w)
    (hlate : ∀ (t : Nat) (ot : Oper), n ≤ t → ops[t]? = some ot → (∃ f, waitsT md ops f t i = true) ∨ lateB oi = true) (f : Nat) :
    ∀ (listed : Array Bool) (E : Env) (a : Act), Closed md ops listed →
      (∀ j oj, ops[j]? = some oj → j ≠ i → listed.getD j true = false → (∀ e ∈ oj.after, Region.binds md e = true → e.on ≠ i) → oi.apart ops oj = true) →
      i ∈ Region.ready md ops listed → Runs P ops Φ ic i (E.only ops oi) oi a ki →
      (∀ B, w0.heap.size ≤ B → AO P md ops Q Φ ic n g f (listed.setIfInBounds i true) (ki.env oi B E) (a.put oi.dst (ki.res oi B))) → AO P md ops Q Φ ic n g (f + 1) listed E a := by
  -- at a tail's operation that comes up while this one is to come: this one asks nothing of the world
  have tail : ∀ (f : Nat) (listed : Array Bool) (E : Env) (a : Act) (w : World), Closed md ops listed → Cl Φ false E w →
      (∀ j oj, ops[j]? = some oj → j ≠ i → listed.getD j true = false → (∀ e ∈ oj.after, Region.binds md e = true → e.on ≠ i) → oi.apart ops oj = true) →
      i ∈ Region.ready md ops listed → Runs P ops Φ ic i (E.only ops oi) oi a ki →
      (∀ B, w0.heap.size ≤ B → AO P md ops Q Φ ic n g f (listed.setIfInBounds i true) (ki.env oi B E) (a.put oi.dst (ki.res oi B))) →
      (∃ j ∈ Region.ready md ops listed, n ≤ j) → ∀ y, Cl Φ (fl ic listed) E y → w.heap.size ≤ y.heap.size → wpAny P md ops Q (f + 1 + g) listed a y := by
    intro f listed E a w hcl hw hfree hr hy H ht y hyy hsz
    obtain ⟨t, htr, htn⟩ := ht
    obtain ⟨_, ot, hot, hall⟩ := mem_ready.1 htr
    have hla : lateB oi = true := by
      rcases hlate t ot htn hot with ⟨f, hf⟩ | h
      · have h1 := waitsT_listed hcl f t hf fun ot' hot' => by
          rw [hot] at hot'; cases hot'; exact hall
        rw [getD_both (mem_ready.1 hr).1] at h1
        cases h1
      · exact h
    obtain ⟨v, rfl, hyl⟩ := late_yields hla hy (hw.only oi)
    have hfl : fl ic (listed.setIfInBounds i true) = fl ic listed := by
      rw [fl_set (mem_ready.1 hr).1]
      unfold aft
      rw [decide_eq_false hy.1, Bool.or_false]
    have h1 := AO.any f _ _ _ w y (H w0.heap.size (Nat.le_refl _)) hw (by rw [hfl]; exact hyy) hsz
    have e : f + 1 + g = (f + g) + 1 := by omega
    rw [e]
    exact wpAny_first hi hsel (fun c a w => hQ c a v w) (f + g) listed a y hfree hr hyl h1
  induction f with
  | zero =>
    intro listed E a hcl hfree hr hy H w hw
    refine ⟨fun h => (by rw [h] at hr; cases hr), fun j hj hjn => ?_, tail 0 listed E a w hcl hw hfree hr hy H⟩
    by_cases hji : j = i
    · subst hji
      exact ⟨oi, ki, hi, hy, H⟩
    · -- no other operation of the head is left
      exfalso
      obtain ⟨w', hw', _⟩ := Kind.world oi ki hw (Nat.le_refl _)
      have := (H _ hw.size w' hw').1 j (ready_mono hj hji)
      omega
  | succ f ih =>
    intro listed E a hcl0 hfree hr hy H w hw
    refine ⟨fun h => (by rw [h] at hr; cases hr), fun j hj hjn => ?_, tail (f + 1) listed E a w hcl0 hw hfree hr hy H⟩
    by_cases hji : j = i
    · subst hji
      exact ⟨oi, ki, hi, hy, H⟩
    · obtain ⟨w1, hw1, _⟩ := Kind.world oi ki hw (Nat.le_refl _)
      have hB0 := hw.size
      obtain ⟨hjun, oj, hoj, hall⟩ := mem_ready.1 hj
      have hap : oi.apart ops oj = true := hfree j oj hoj hji hjun fun e he hb heq => by
        have h1 := hall e he hb
        rw [heq, getD_both (mem_ready.1 hr).1] at h1
        cases h1
      obtain ⟨ap1, ap2, ap3⟩ := Oper.apart_spec hap
      have hj' := ready_mono hj hji
      obtain ⟨oj', kj, hoj', hrj, _⟩ := (H _ hB0 w1 hw1).2.1 j hj' hjn
      rw [hoj] at hoj'
      cases hoj'
      rw [Env.only_env ki _ ap1, Runs.put (hsel j oj · · hoj) ap1] at hrj
      refine ⟨oj, kj, hoj, hrj, fun Bj hBj => ?_⟩
      refine ih (listed.setIfInBounds j true) (kj.env oj Bj E) (a.put oj.dst (kj.res oj Bj)) (hcl0.set hj) (fun k ok hk hki hkun hno => ?_) (ready_mono hr (Ne.symm hji)) ?_ fun Bi hBi => ?_
      · refine hfree k ok hk hki ?_ hno
        by_cases hjk : j = k
        · subst hjk
          exact hjun
        · rwa [getD_set_ne true hjk] at hkun
      · rw [Env.only_env kj Bj ap3, Runs.put (hsel i oi · · hi) ap3]
        exact hy
      · -- from what is known behind 'i', at any world of the class
        have big : ∀ w', Cl Φ false (ki.env oi Bi E) w' → AO P md ops Q Φ ic n g f ((listed.setIfInBounds i true).setIfInBounds j true) (kj.env oj Bj (ki.env oi Bi E)) ((a.put oi.dst (ki.res oi Bi)).put oj.dst (kj.res oj Bj)) := by
          intro w' hw'
          obtain ⟨oj', kj', hoj', hrj', hk'⟩ := (H Bi hBi w' hw').2.1 j hj' hjn
          rw [hoj] at hoj'
          cases hoj'
          rw [Env.only_env ki Bi ap1, Runs.put (hsel j oj · · hoj) ap1] at hrj'
          have hcl : Cl Φ false (E.only ops oj) w' := by
            have := hw'.only (ops := ops) oj
            rwa [Env.only_env ki Bi ap1] at this
          have hkk : kj' = kj := Runs.det hrj' hrj hcl
          subst hkk
          exact hk' Bj hBj
        have conv : AO P md ops Q Φ ic n g f ((listed.setIfInBounds j true).setIfInBounds i true) (ki.env oi Bi (kj.env oj Bj E)) ((a.put oj.dst (kj.res oj Bj)).put oi.dst (ki.res oi Bi)) ↔
            AO P md ops Q Φ ic n g f ((listed.setIfInBounds i true).setIfInBounds j true) (kj.env oj Bj (ki.env oi Bi E)) ((a.put oi.dst (ki.res oi Bi)).put oj.dst (kj.res oj Bj)) := by
          rw [Kind.env_comm ki kj Bi Bj, Array.setIfInBounds_comm _ _ (fun e => hji e), ← Act.put_comm a _ _ ap2]
        rw [conv]
        -- the statement asks for every world of the class: take that world
        have sub : ∀ w', Cl Φ false (kj.env oj Bj (ki.env oi Bi E)) w' → Cl Φ false (ki.env oi Bi E) w' := fun w' hw' => hw'.sub fun s C u hs => Kind.env_le oj kj Bj s C u hs
        cases f with
        | zero => exact fun w' hw' => big w' (sub w' hw') w' hw'
        | succ f => exact fun w' hw' => big w' (sub w' hw') w' hw'

/-- In the order of the text, from operation number k on. -/
def wpLex (P : Program) (ops : Array Oper) (Q : Exit → Act → World → Prop) (Φ : Ph w0) (ic : Nat) (tail : List Oper) : Nat → List Oper → Env → Act → Prop
  | _, [], E, a => ∀ x, Cl Φ true E x → wpList P ops Q tail a x
  | k, o :: rest, E, a => (∃ x, Cl Φ false E x) → ∃ kd, Runs P ops Φ ic k (E.only ops o) o a kd ∧ ∀ B, w0.heap.size ≤ B → wpLex P ops Q Φ ic tail (k + 1) rest (kd.env o B E) (a.put o.dst (kd.res o B))

theorem AO.lex {n g : Nat} {tail : List Oper} (hic : ic < n) (hsel : Region.noSelect ops = true) (hQ : ∀ c a d v w, Q (.panic c) (a.put d v) w → Q (.panic c) a w) (hl : ordLate md ops n = true) (htail : ∀ j, tail[j]? = ops[n + j]?) (hg : tail.length = g) :
    ∀ (l : List Oper) (k : Nat) (listed : Array Bool) (E : Env) (a : Act), Closed md ops listed → fl ic listed = decide (ic < k) → (∀ j, j < l.length → l[j]? = ops[k + j]?) → k + l.length = n → ordHead md ops g l.length k listed = true →
    wpLex P ops Q Φ ic tail k l E a → AO P md ops Q Φ ic n g l.length listed E a
  | [], k, listed, E, a, _, hfl, _, hk, hB, h => by
    have hkn : k = n := by simpa using hk
    subst hkn
    simp only [List.length_nil, ordHead, Bool.and_eq_true] at hB
    refine fun w hw => ⟨fun j hj => by simpa using List.all_eq_true.1 hB.2 j hj, fun y hy _ => ?_⟩
    subst hg
    rw [hfl, decide_eq_true hic] at hy
    exact wpAny_of_seq tail k listed a y htail hB.1 (h y hy)
  | o :: l, k, listed, E, a, hcl, hfl, hll, hk, hB, h => by
    simp only [List.length_cons] at hk
    simp only [List.length_cons, ordHead, Bool.and_eq_true] at hB
    have h0 : ops[k]? = some o := by simpa using (hll 0 (by simp)).symm
    have hrk : k ∈ Region.ready md ops listed := by simpa using hB.1.1
    by_cases hne : ∃ x, Cl Φ false E x
    · obtain ⟨kd, hr, hrest⟩ := h hne
      refine AO.first h0 (by omega) (Region.noSelect_spec hsel) (fun c a v w => hQ c a o.dst v w) (fun t ot ht hot => ordLate_spec hl (by omega) h0 t ot ht hot) l.length listed E a hcl (Region.free_spec h0 hB.1.2) hrk hr fun B hBB => ?_
      refine AO.lex hic hsel hQ hl htail hg l (k + 1) _ _ _ (hcl.set hrk) ?_ (fun j hj => by have := hll (j + 1) (by simp; omega); simpa [Nat.add_assoc, Nat.add_comm 1 j] using this) (by omega) hB.2 (hrest B hBB)
      rw [fl_set (mem_ready.1 hrk).1, hfl]
      unfold aft
      rw [← Bool.decide_or]
      congr 1
      apply propext
      omega
    · exact fun w hw => absurd ⟨w, hw⟩ hne

theorem wp_region_ord {id : Nat} {a : Act} {w : World} {l : List Oper} (Φ : Ph w.drew) (ic n : Nat) (hic : ic < n) (h0 : Φ.C false w.drew) (hm : P.follows .mixedOrders = true) (hB : ordB .any l.toArray n = true)
    (hQ : ∀ c a d v w, Q (.panic c) (a.put d v) w → Q (.panic c) a w)
    (h : wpLex P l.toArray Q Φ ic (l.drop n) 0 (l.take n) Env.none a) : (Code.region id l.toArray true).wp P Q a w := by
  simp only [ordB, Bool.and_eq_true, decide_eq_true_eq] at hB
  obtain ⟨⟨⟨hsel, hn⟩, hl⟩, hh⟩ := hB
  have hn' : n ≤ l.length := by simpa using hn
  have htl : (l.take n).length = n := by simp; omega
  have hdl : (l.drop n).length = l.toArray.size - n := by simp
  have hf0 : fl ic (Array.replicate l.toArray.size false) = false := by simp [fl, Array.getD]
  have H := AO.lex (md := .any) (g := l.toArray.size - n) hic hsel hQ hl (fun j => by simp [List.getElem?_drop]) hdl (l.take n) 0 _ Env.none a (Closed.none _) (by rw [hf0]; simp) (fun j hj => by
    have hj' : j < n := by rw [htl] at hj; exact hj
    simp [hj']) (by simpa using htl) (by rw [htl]; exact hh) h
  refine wp_region_any hm ?_
  have hcl : Cl Φ false Env.none w.drew := ⟨h0, fun s B o e => e.elim⟩
  have := AO.any _ _ _ _ w.drew w.drew H hcl (by rw [hf0]; exact hcl) (Nat.le_refl _)
  rw [htl, show n + (l.toArray.size - n) = l.toArray.size by omega] at this
  exact this

/-! ### The moves of a walk -/
variable {tail rest : List Oper} {o : Oper} {a : Act} {k : Nat}
def GrE (Φ : Ph w0) (F : Env) (R : World → Prop) : Type := { p : Bool × World // Cl Φ p.1 F p.2 ∧ R p.2 }
theorem GrE.blk {R : World → Prop} (g : GrE Φ F R) {s B : Nat} {o : Obj} (h : F s B o) : g.1.2.heap[B]? = some o := (g.2.1.fact s B o h).2
theorem GrE.call {R : World → Prop} (hR : GrowsUp R) {f : FuncId} {args : Array Value} {g : GrE Φ F R} {v : Value} (h : Calls P f args g.1.2 fun e w' => e = .returned v ∧ Below g.1.2.heap.size g.1.2 w') :
    Calls P f args g.1.2 fun e w' => e = .returned v ∧ ∃ k : GrE Φ F R, w' = k.1.2 :=
  h.mono fun _ w' ⟨he, hb⟩ => ⟨he, ⟨(g.1.1, w'), g.2.1.grow hb, hR _ _ g.2.2 hb⟩, rfl⟩
theorem wpLex_nil (h : ∀ x, Cl Φ true E x → wpList P ops Q tail a x) : wpLex P ops Q Φ ic tail k [] E a := h
theorem wpLex_skip (hk : k ≠ ic) (hw : Region.wanted o (yielded ops a.tmps) = false) (h : wpLex P ops Q Φ ic tail (k + 1) rest E (a.put o.dst undef)) : wpLex P ops Q Φ ic tail k (o :: rest) E a :=
  fun _ => ⟨.val undef, ⟨hk, .inr ⟨hw, rfl⟩⟩, fun _ _ => h⟩
theorem wpLex_fix (hk : k ≠ ic) (hw : Region.wanted o (yielded ops a.tmps) = true)
    (h : ∀ F : Env, Hid (∀ s B u, (o.looksAt ops).contains s = true → E s B u → F s B u) → ∀ R, GrowsUp R → Nonempty (GrE Φ F R) → ∀ K : Act → Prop, (∀ a', wpLex P ops Q Φ ic tail (k + 1) rest E a' → K a') → o.quiet P a (fun x => ∃ g : GrE Φ F R, x = g.1.2) K) :
    wpLex P ops Q Φ ic tail k (o :: rest) E a := by
  rintro ⟨x0, hx0⟩
  replace h := h (E.only ops o) (fun s B u h1 h2 => ⟨h1, h2⟩)
  obtain ⟨v, hv, hk'⟩ := h (fun _ => True) (fun _ _ _ _ => trivial) ⟨⟨(false, x0), hx0.only o, trivial⟩⟩ (wpLex P ops Q Φ ic tail (k + 1) rest E) (fun _ h => h)
  refine ⟨.val v, ⟨hk, .inl ⟨hw, fun c x hx => ?_⟩⟩, fun _ _ => hk'⟩
  have h1 := hv x ⟨⟨(c, x), hx, trivial⟩, rfl⟩
  obtain ⟨u, hu, _⟩ := h (fun y => Below x.heap.size x y) (fun y z hy hz => hy.trans (hz.mono hy.size)) ⟨⟨(c, x), hx, Below.refl _ _⟩⟩ (fun _ => True) (fun _ _ => trivial)
  have h2 := hu x ⟨⟨(c, x), hx, Below.refl _ _⟩, rfl⟩
  have : v = u := quietUpon_det h1 h2
  subst this
  exact quietUpon_mono (fun y ⟨g, hg⟩ => hg ▸ g.2.2) h2
theorem wpLex_blk (hk : k ≠ ic) (hw : Region.wanted o (yielded ops a.tmps) = true) (obj : Obj) (hrun : ∀ c x, Cl Φ c (E.only ops o) x → (execOp a.eval o).run P x = .ok (.value (blkVal o x.heap.size)) (x.alloc obj))
    (h : ∀ B, w0.heap.size ≤ B → wpLex P ops Q Φ ic tail (k + 1) rest (E.upd o.dst B obj) (a.put o.dst (blkVal o B))) : wpLex P ops Q Φ ic tail k (o :: rest) E a :=
  fun _ => ⟨.blk obj, ⟨hk, hw, hrun⟩, h⟩
/-- The call that writes. -/
theorem wpLex_wr (hk : k = ic) (hw : Region.wanted o (yielded ops a.tmps) = true) (f : FuncId) (args : Array Value) (v : Value) (hrun : ∀ x, (execOp a.eval o).run P x = .ok (.enter f args) x)
    (hcall : ∀ x, Φ.C false x → (∀ s B u, (o.looksAt ops).contains s = true → E s B u → x.heap[B]? = some u) → Calls P f args x fun e y => e = .returned v ∧ Φ.C true y ∧ x.heap.size ≤ y.heap.size ∧ ∀ B, w0.heap.size ≤ B → B < x.heap.size → y.heap[B]? = x.heap[B]?)
    (h : wpLex P ops Q Φ ic tail (k + 1) rest E (a.put o.dst v)) : wpLex P ops Q Φ ic tail k (o :: rest) E a :=
  fun _ => ⟨.wr v, ⟨hk, hw, fun x hx => ⟨f, args, hrun x, hcall x hx.cls (fun s B u h1 h2 => (hx.fact s B u ⟨h1, h2⟩).2)⟩⟩, fun _ _ => h⟩
end
end Go.Proofs.Ytdmiljaiglaacaa.OrdW
