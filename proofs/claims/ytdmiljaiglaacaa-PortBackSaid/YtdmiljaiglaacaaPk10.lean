/- Joined texts: PortK, PortL. -/
import Derived.Test.YtdmiljaiglaacaaPk9
import Derived.Deep.MidRow
import Derived.Deep.OwnRows
import Derived.LoopN
/- The walks of layer 29's laws: a thing goes through. -/
namespace Go.Proofs.Ytdmiljaiglaacaa
open Go.RowKit Go.Maps

/-- A thing. -/
structure Th where
  kind : Nat
  row : Int
  n : Int
  s : List UInt8
  v : Pv
  deriving DecidableEq
def tcells (t : Th) : Array Value := #[.int .u8 t.kind, .int .i64 t.row, .int .i64 t.n, .string (bs t.s), .int .i64 t.v.tag, .string (bs t.v.text), .int .u64 t.v.bits, .string (bs t.v.cls), .string (bs t.v.name), .string (bs t.v.desc)]
def tv (t : Th) : Value := .agg (tcells t)
def Th.fits (t : Th) : Prop := t.kind < 256 ∧ I64 t.row ∧ I64 t.n ∧ t.s.length ≤ 140737488355328 ∧ t.v.fits
def ThBox (w : World) (b : Nat) (t : Th) : Prop := w.heap[b]? = some (.cells (tcells t) 30 (0, 0))
def Th.zero : Th := ⟨0, 0, 0, [], Pv.zero⟩
def tobj (t : Th) : Obj := .cells (tcells t) 30
theorem sizeThing : (Try.prog.info? 30).map (·.size) = some 10 := by kernel_rfl
theorem ThBox.lt {w : World} {b : Nat} {t : Th} (h : ThBox w b t) : b < w.heap.size := (Array.getElem?_eq_some_iff.1 h).1
theorem ThBox.at_ {w : World} {b : Nat} {t : Th} (h : ThBox w b t) : (w.cell? ⟨b, 0, none⟩ = some (.int .u8 t.kind) ∧ w.cell? ⟨b, 1, none⟩ = some (.int .i64 t.row) ∧ w.cell? ⟨b, 2, none⟩ = some (.int .i64 t.n) ∧ w.cell? ⟨b, 3, none⟩ = some (.string (bs t.s))) ∧
    w.cell? ⟨b, 4, none⟩ = some (.int .i64 t.v.tag) ∧ w.cell? ⟨b, 5, none⟩ = some (.string (bs t.v.text)) ∧ w.cell? ⟨b, 6, none⟩ = some (.int .u64 t.v.bits) ∧ w.cell? ⟨b, 7, none⟩ = some (.string (bs t.v.cls)) ∧ w.cell? ⟨b, 8, none⟩ = some (.string (bs t.v.name)) ∧ w.cell? ⟨b, 9, none⟩ = some (.string (bs t.v.desc)) :=
  ⟨⟨(blk_facts h).1 0, (blk_facts h).1 1, (blk_facts h).1 2, (blk_facts h).1 3⟩, (blk_facts h).1 4, (blk_facts h).1 5, (blk_facts h).1 6, (blk_facts h).1 7, (blk_facts h).1 8, (blk_facts h).1 9⟩
theorem ThBox.free {w : World} {b : Nat} {t : Th} (h : ThBox w b t) : (w.frozen? ⟨b, 0, none⟩ = false ∧ w.frozen? ⟨b, 1, none⟩ = false ∧ w.frozen? ⟨b, 2, none⟩ = false ∧ w.frozen? ⟨b, 3, none⟩ = false) ∧
    w.frozen? ⟨b, 4, none⟩ = false ∧ w.frozen? ⟨b, 5, none⟩ = false ∧ w.frozen? ⟨b, 6, none⟩ = false ∧ w.frozen? ⟨b, 7, none⟩ = false ∧ w.frozen? ⟨b, 8, none⟩ = false ∧ w.frozen? ⟨b, 9, none⟩ = false :=
  ⟨⟨(blk_facts h).2 0, (blk_facts h).2 1, (blk_facts h).2 2, (blk_facts h).2 3⟩, (blk_facts h).2 4, (blk_facts h).2 5, (blk_facts h).2 6, (blk_facts h).2 7, (blk_facts h).2 8, (blk_facts h).2 9⟩
theorem th_new (w : World) (t : Th) : ThBox (w.alloc (tobj t)) w.heap.size t := heap_alloc_new w _
theorem th_ret {fn : Func} {R : Ending → World → Prop} {a : Act} {w : World} {p g : Nat} {t : Th} (hf : fn.results = #[.cell p 30]) (hp : a.tmps.getD p undef = .pointer (some ⟨g, 0, none⟩)) (hb : ThBox w g t) (hR : R (.returned (tv t)) w) (hd : a.defers = [] := by rfl) : bodyPost Try.prog fn R .ret a w :=
  bodyPost_ret (results_cell_row hf _ w g 30 _ _ _ hp hb Try.underlying30 rfl sizeThing) hd hR
def storedTh (w : World) (b : Nat) (t : Th) : World :=
  (((((((((w.setCell ⟨b, 0, none⟩ (.int .u8 t.kind)).setCell ⟨b, 1, none⟩ (.int .i64 t.row)).setCell ⟨b, 2, none⟩ (.int .i64 t.n)).setCell ⟨b, 3, none⟩ (.string (bs t.s))).setCell ⟨b, 4, none⟩ (.int .i64 t.v.tag)).setCell ⟨b, 5, none⟩ (.string (bs t.v.text))).setCell ⟨b, 6, none⟩ (.int .u64 t.v.bits)).setCell ⟨b, 7, none⟩ (.string (bs t.v.cls))).setCell ⟨b, 8, none⟩ (.string (bs t.v.name))).setCell ⟨b, 9, none⟩ (.string (bs t.v.desc))
theorem storedTh_turned (w : World) (g : Nat) (t : Th) : w.grownBy (storedTh w g t) (some g) :=
  grown_same (grown_same (grown_same (grown_same (grown_same (grown_same (grown_same (grown_same (grown_same (setCell_turned w g 0 _) (setCell_turned _ g 1 _)) (setCell_turned _ g 2 _)) (setCell_turned _ g 3 _)) (setCell_turned _ g 4 _)) (setCell_turned _ g 5 _)) (setCell_turned _ g 6 _)) (setCell_turned _ g 7 _)) (setCell_turned _ g 8 _)) (setCell_turned _ g 9 _)
theorem th_store {w : World} {b : Nat} {t0 : Th} (h : ThBox w b t0) (t : Th) : ThBox (storedTh w b t) b t := by
  have h1 := heap_set (o := 9) (heap_set (o := 8) (heap_set (o := 7) (heap_set (o := 6) (heap_set (o := 5) (heap_set (o := 4) (heap_set (o := 3) (heap_set (o := 2) (heap_set (o := 1) (heap_set (o := 0) h (.int .u8 t.kind)) (.int .i64 t.row)) (.int .i64 t.n)) (.string (bs t.s))) (.int .i64 t.v.tag)) (.string (bs t.v.text))) (.int .u64 t.v.bits)) (.string (bs t.v.cls))) (.string (bs t.v.name))) (.string (bs t.v.desc))
  unfold tcells at h1
  simp only [List.setIfInBounds_toArray, List.set_cons_zero, List.set_cons_succ] at h1
  unfold ThBox storedTh tcells
  exact h1
/-- A thing goes through: the rows, the error, the thing. -/
def stepTh (rd : Bool) (O : List Pv) (R : Nat → List Int) (e : Int) (t : Th) : (Nat → List Int) × Int × Th :=
  match t.kind % 7 with
  | 0 => ((stepI rd R e t.row t.n).1, (stepI rd R e t.row t.n).2.1, { t with n := (stepI rd R e t.row t.n).2.2 })
  | 1 => ((stepT rd O R e t.row 1 0 t.s).1, (stepT rd O R e t.row 1 0 t.s).2.1, { t with s := (stepT rd O R e t.row 1 0 t.s).2.2 })
  | 2 => ((stepT rd O R e t.row 1 1 t.s).1, (stepT rd O R e t.row 1 1 t.s).2.1, { t with s := (stepT rd O R e t.row 1 1 t.s).2.2 })
  | 3 => ((stepT rd O R e t.row 7 0 t.s).1, (stepT rd O R e t.row 7 0 t.s).2.1, { t with s := (stepT rd O R e t.row 7 0 t.s).2.2 })
  | 4 => ((stepT rd O R e t.row 7 1 t.s).1, (stepT rd O R e t.row 7 1 t.s).2.1, { t with s := (stepT rd O R e t.row 7 1 t.s).2.2 })
  | 5 => ((stepY rd O R e t.row t.v.tag t.v).1, (stepY rd O R e t.row t.v.tag t.v).2.1, { t with v := (stepY rd O R e t.row t.v.tag t.v).2.2 })
  | _ => ((stepC rd R e t.row t.n 1000).1, (stepC rd R e t.row t.n 1000).2.1, { t with n := (stepC rd R e t.row t.n 1000).2.2 })
/-- The two boxes at its head. -/
def thW (x : World) (t : Th) : World := (x.alloc (tobj t)).alloc (tobj Th.zero)
theorem thW_below (x : World) (t : Th) : Below x.heap.size x (thW x t) := ((Below.refl _ _).alloc (Nat.le_refl _) _).alloc (by simp) _
theorem thW_a (x : World) (t : Th) : ThBox (thW x t) x.heap.size t :=
  (((Below.refl _ (x.alloc (tobj t))).alloc (Nat.le_refl _) (tobj Th.zero)).block x.heap.size (by simp)).trans (heap_alloc_new x (tobj t))
theorem thW_b (x : World) (t : Th) : ThBox (thW x t) (x.heap.size + 1) Th.zero := by
  have := heap_alloc_new (x.alloc (tobj t)) (tobj Th.zero)
  rw [show (x.alloc (tobj t)).heap.size = x.heap.size + 1 by simp] at this
  exact this
section
variable {x : World} {base b : Nat} {us : Nat → Value} {R : Nat → List Int} {rd : Bool} {e : Int} {tbase tb m n : Nat} {utab : Nat → Value} {O : List Pv}
/-- What stands at the switch. -/
def LOk (x : World) (base b : Nat) (tp : Value) (us : Nat → Value) (R : Nat → List Int) (rd : Bool) (e : Int) (t : Th) (ex : Ending) (y : World) : Prop :=
  ex = .returned (tv t) ∧ PortTo x base b tp us R rd e none y
/-- The result's box is stored. -/
theorem lthr_fin {y : World} {us' : Nat → Value} {W : World} (hW : Below x.heap.size x W) (hWs : x.heap.size + 1 < W.heap.size) {tp : Value} {R0 : Nat → List Int} {e0 : Int} (h0 : PortS x base b tp us R0 rd e0) {R' : Nat → List Int} {e' : Int} (h : PortS y base b tp us' R' rd e') (f : Frm W y base b us us' (some x.heap.size)) (q : ThBox y (x.heap.size + 1) Th.zero) (t : Th) :
    ThBox (storedTh y (x.heap.size + 1) t) (x.heap.size + 1) t ∧ PortTo x base b tp us R' rd e' none (storedTh y (x.heap.size + 1) t) := by
  have ho : Off us' b (x.heap.size + 1) := f.off _ hWs (h0.off (Nat.le_succ _))
  refine ⟨th_store q t, us', h.kept ho (storedTh_turned y _ t), us, rfl, ?_⟩
  exact frm_new (Frm.fresh h0.ble hW f) (storedTh_turned y _ t) (Nat.le_succ _) h0.ble
set_option maxRecDepth 100000 in
set_option maxHeartbeats 4000000 in
theorem lthr0 (t : Th) (hk : t.kind % 7 = 0) (hp : PortS x base b (.pointer (some ⟨tb, 0, none⟩)) us R rd e) (hT : ∀ y, Below base x y → TabOf y tbase tb m n utab O) (hl : ∀ t, (R t).length ≤ 1000000) (hok : ∀ v ∈ O, v.chk 0 9 5 = 0) (ht : t.fits) :
    Calls Try.prog 11 #[.pointer (some ⟨b, 0, none⟩), tv t] x (LOk x base b (.pointer (some ⟨tb, 0, none⟩)) us (stepI rd R e t.row t.n).1 rd (stepI rd R e t.row t.n).2.1 { t with n := (stepI rd R e t.row t.n).2.2 }) := by
  have HWAY := Lib.hid (show Way (thW x t) base b us R rd e tbase tb m n utab O x.heap.size (tcells t) 30 from ⟨hp.grow (thW_below x t), thW_a x t, hp.off (Nat.le_refl _), hp.ble, fun y hy => hT y (((thW_below x t).mono hp.ble).trans hy), hl, hok⟩)
  have HCL := Lib.hid (int_any t.row t.n x.heap.size 2 (tcells t) 30 HWAY.out.port HWAY.out.heap rfl HWAY.out.off HWAY.out.le hl)
  have H := Lib.hid hp
  have kW := Lib.hid (thW_below x t)
  have qb := Lib.hid (thW_b x t)
  have qa := Lib.hid (thW_a x t)
  have hq : (t.kind : Int) % 7 = 0 := by omega
  generalize stepI rd R e t.row t.n = S1 at HCL ⊢
  obtain ⟨R2, e2, v2⟩ := S1
  dsimp only at HCL ⊢
  obtain ⟨⟨c0, c1, c2, c3⟩, c4, c5, c6, c7, c8, c9⟩ := (thW_a x t).at_
  have z1 := (thW_a x t).lt
  clear hp hT hl hok hk HWAY
  unfold tv tcells
  go_enter Try.func11, Try.ntmps11
  go_upto_region 1 with fail
  rw [show ((x.alloc (.cells #[.int .u8 t.kind, .int .i64 t.row, .int .i64 t.n, .string (bs t.s), .int .i64 t.v.tag, .string (bs t.v.text), .int .u64 t.v.bits, .string (bs t.v.cls), .string (bs t.v.name), .string (bs t.v.desc)] 30)).alloc (.cells #[.int .u8 0, .int .i64 0, .int .i64 0, .string ⟨#[]⟩, .int .i64 0, .string ⟨#[]⟩, .int .u64 0, .string ⟨#[]⟩, .string ⟨#[]⟩, .string ⟨#[]⟩] 30)) = thW x t from rfl]
  have hWz := qb.out.lt
  generalize thW x t = W at *
  have OB := Lib.hid (H.out.off (Nat.le_succ x.heap.size))
  go_wp2_with fail
  refine HCL.out.mono ?_
  rintro ex y ⟨rfl, ⟨us', h3, us0, rfl, f3⟩, hgy⟩
  have H3 := Lib.hid h3
  have F3 := Lib.hid f3
  have A3 := Lib.hid (show ThBox y x.heap.size { t with n := v2 } from hgy)
  have Q3 := Lib.hid (show ThBox y (x.heap.size + 1) Th.zero from (f3.same _ hWz OB.out (by simp)).trans qb.out)
  clear h3 f3 hgy c0 c1 c2 c3 c4 c5 c6 c7 c8 c9 z1 hq HCL
  have hfin := lthr_fin kW.out hWz H.out H3.out F3.out Q3.out { t with n := v2 }
  obtain ⟨⟨c0, c1, c2, c3⟩, c4, c5, c6, c7, c8, c9⟩ := A3.out.at_
  obtain ⟨⟨d0, d1, d2, d3⟩, d4, d5, d6, d7, d8, d9⟩ := Q3.out.at_
  obtain ⟨⟨j0, j1, j2, j3⟩, j4, j5, j6, j7, j8, j9⟩ := Q3.out.free
  have y1 := A3.out.lt
  have y2 := Q3.out.lt
  go_wp2_with fail
  unfold storedTh at hfin
  exact th_ret (g := x.heap.size + 1) rfl rfl hfin.1 ⟨rfl, hfin.2⟩
set_option maxRecDepth 100000 in
set_option maxHeartbeats 4000000 in
theorem lthr1 (t : Th) (hk : t.kind % 7 = 1) (hp : PortS x base b (.pointer (some ⟨tb, 0, none⟩)) us R rd e) (hT : ∀ y, Below base x y → TabOf y tbase tb m n utab O) (hl : ∀ t, (R t).length ≤ 1000000) (hok : ∀ v ∈ O, v.chk 0 9 5 = 0) (ht : t.fits) :
    Calls Try.prog 11 #[.pointer (some ⟨b, 0, none⟩), tv t] x (LOk x base b (.pointer (some ⟨tb, 0, none⟩)) us (stepT rd O R e t.row 1 0 t.s).1 rd (stepT rd O R e t.row 1 0 t.s).2.1 { t with s := (stepT rd O R e t.row 1 0 t.s).2.2 }) := by
  have HWAY := Lib.hid (show Way (thW x t) base b us R rd e tbase tb m n utab O x.heap.size (tcells t) 30 from ⟨hp.grow (thW_below x t), thW_a x t, hp.off (Nat.le_refl _), hp.ble, fun y hy => hT y (((thW_below x t).mono hp.ble).trans hy), hl, hok⟩)
  have HCL := Lib.hid (Text_any t.row t.s x.heap.size 3 (tcells t) 30 HWAY.out rfl ht.2.2.2.1)
  have H := Lib.hid hp
  have kW := Lib.hid (thW_below x t)
  have qb := Lib.hid (thW_b x t)
  have qa := Lib.hid (thW_a x t)
  have hq : (t.kind : Int) % 7 = 1 := by omega
  generalize stepT rd O R e t.row 1 0 t.s = S1 at HCL ⊢
  obtain ⟨R2, e2, v2⟩ := S1
  dsimp only at HCL ⊢
  obtain ⟨⟨c0, c1, c2, c3⟩, c4, c5, c6, c7, c8, c9⟩ := (thW_a x t).at_
  have z1 := (thW_a x t).lt
  clear hp hT hl hok hk HWAY
  unfold tv tcells
  go_enter Try.func11, Try.ntmps11
  go_upto_region 1 with fail
  rw [show ((x.alloc (.cells #[.int .u8 t.kind, .int .i64 t.row, .int .i64 t.n, .string (bs t.s), .int .i64 t.v.tag, .string (bs t.v.text), .int .u64 t.v.bits, .string (bs t.v.cls), .string (bs t.v.name), .string (bs t.v.desc)] 30)).alloc (.cells #[.int .u8 0, .int .i64 0, .int .i64 0, .string ⟨#[]⟩, .int .i64 0, .string ⟨#[]⟩, .int .u64 0, .string ⟨#[]⟩, .string ⟨#[]⟩, .string ⟨#[]⟩] 30)) = thW x t from rfl]
  have hWz := qb.out.lt
  generalize thW x t = W at *
  have OB := Lib.hid (H.out.off (Nat.le_succ x.heap.size))
  go_wp2_with fail
  refine HCL.out.mono ?_
  rintro ex y ⟨rfl, ⟨us', h3, us0, rfl, f3⟩, hgy⟩
  have H3 := Lib.hid h3
  have F3 := Lib.hid f3
  have A3 := Lib.hid (show ThBox y x.heap.size { t with s := v2 } from hgy)
  have Q3 := Lib.hid (show ThBox y (x.heap.size + 1) Th.zero from (f3.same _ hWz OB.out (by simp)).trans qb.out)
  clear h3 f3 hgy c0 c1 c2 c3 c4 c5 c6 c7 c8 c9 z1 hq HCL
  have hfin := lthr_fin kW.out hWz H.out H3.out F3.out Q3.out { t with s := v2 }
  obtain ⟨⟨c0, c1, c2, c3⟩, c4, c5, c6, c7, c8, c9⟩ := A3.out.at_
  obtain ⟨⟨d0, d1, d2, d3⟩, d4, d5, d6, d7, d8, d9⟩ := Q3.out.at_
  obtain ⟨⟨j0, j1, j2, j3⟩, j4, j5, j6, j7, j8, j9⟩ := Q3.out.free
  have y1 := A3.out.lt
  have y2 := Q3.out.lt
  go_wp2_with fail
  unfold storedTh at hfin
  exact th_ret (g := x.heap.size + 1) rfl rfl hfin.1 ⟨rfl, hfin.2⟩
set_option maxRecDepth 100000 in
set_option maxHeartbeats 4000000 in
theorem lthr2 (t : Th) (hk : t.kind % 7 = 2) (hp : PortS x base b (.pointer (some ⟨tb, 0, none⟩)) us R rd e) (hT : ∀ y, Below base x y → TabOf y tbase tb m n utab O) (hl : ∀ t, (R t).length ≤ 1000000) (hok : ∀ v ∈ O, v.chk 0 9 5 = 0) (ht : t.fits) :
    Calls Try.prog 11 #[.pointer (some ⟨b, 0, none⟩), tv t] x (LOk x base b (.pointer (some ⟨tb, 0, none⟩)) us (stepT rd O R e t.row 1 1 t.s).1 rd (stepT rd O R e t.row 1 1 t.s).2.1 { t with s := (stepT rd O R e t.row 1 1 t.s).2.2 }) := by
  have HWAY := Lib.hid (show Way (thW x t) base b us R rd e tbase tb m n utab O x.heap.size (tcells t) 30 from ⟨hp.grow (thW_below x t), thW_a x t, hp.off (Nat.le_refl _), hp.ble, fun y hy => hT y (((thW_below x t).mono hp.ble).trans hy), hl, hok⟩)
  have HCL := Lib.hid (Maybe_any t.row t.s x.heap.size 3 (tcells t) 30 HWAY.out rfl ht.2.2.2.1)
  have H := Lib.hid hp
  have kW := Lib.hid (thW_below x t)
  have qb := Lib.hid (thW_b x t)
  have qa := Lib.hid (thW_a x t)
  have hq : (t.kind : Int) % 7 = 2 := by omega
  generalize stepT rd O R e t.row 1 1 t.s = S1 at HCL ⊢
  obtain ⟨R2, e2, v2⟩ := S1
  dsimp only at HCL ⊢
  obtain ⟨⟨c0, c1, c2, c3⟩, c4, c5, c6, c7, c8, c9⟩ := (thW_a x t).at_
  have z1 := (thW_a x t).lt
  clear hp hT hl hok hk HWAY
  unfold tv tcells
  go_enter Try.func11, Try.ntmps11
  go_upto_region 1 with fail
  rw [show ((x.alloc (.cells #[.int .u8 t.kind, .int .i64 t.row, .int .i64 t.n, .string (bs t.s), .int .i64 t.v.tag, .string (bs t.v.text), .int .u64 t.v.bits, .string (bs t.v.cls), .string (bs t.v.name), .string (bs t.v.desc)] 30)).alloc (.cells #[.int .u8 0, .int .i64 0, .int .i64 0, .string ⟨#[]⟩, .int .i64 0, .string ⟨#[]⟩, .int .u64 0, .string ⟨#[]⟩, .string ⟨#[]⟩, .string ⟨#[]⟩] 30)) = thW x t from rfl]
  have hWz := qb.out.lt
  generalize thW x t = W at *
  have OB := Lib.hid (H.out.off (Nat.le_succ x.heap.size))
  go_wp2_with fail
  refine HCL.out.mono ?_
  rintro ex y ⟨rfl, ⟨us', h3, us0, rfl, f3⟩, hgy⟩
  have H3 := Lib.hid h3
  have F3 := Lib.hid f3
  have A3 := Lib.hid (show ThBox y x.heap.size { t with s := v2 } from hgy)
  have Q3 := Lib.hid (show ThBox y (x.heap.size + 1) Th.zero from (f3.same _ hWz OB.out (by simp)).trans qb.out)
  clear h3 f3 hgy c0 c1 c2 c3 c4 c5 c6 c7 c8 c9 z1 hq HCL
  have hfin := lthr_fin kW.out hWz H.out H3.out F3.out Q3.out { t with s := v2 }
  obtain ⟨⟨c0, c1, c2, c3⟩, c4, c5, c6, c7, c8, c9⟩ := A3.out.at_
  obtain ⟨⟨d0, d1, d2, d3⟩, d4, d5, d6, d7, d8, d9⟩ := Q3.out.at_
  obtain ⟨⟨j0, j1, j2, j3⟩, j4, j5, j6, j7, j8, j9⟩ := Q3.out.free
  have y1 := A3.out.lt
  have y2 := Q3.out.lt
  go_wp2_with fail
  unfold storedTh at hfin
  exact th_ret (g := x.heap.size + 1) rfl rfl hfin.1 ⟨rfl, hfin.2⟩
set_option maxRecDepth 100000 in
set_option maxHeartbeats 4000000 in
theorem lthr3 (t : Th) (hk : t.kind % 7 = 3) (hp : PortS x base b (.pointer (some ⟨tb, 0, none⟩)) us R rd e) (hT : ∀ y, Below base x y → TabOf y tbase tb m n utab O) (hl : ∀ t, (R t).length ≤ 1000000) (hok : ∀ v ∈ O, v.chk 0 9 5 = 0) (ht : t.fits) :
    Calls Try.prog 11 #[.pointer (some ⟨b, 0, none⟩), tv t] x (LOk x base b (.pointer (some ⟨tb, 0, none⟩)) us (stepT rd O R e t.row 7 0 t.s).1 rd (stepT rd O R e t.row 7 0 t.s).2.1 { t with s := (stepT rd O R e t.row 7 0 t.s).2.2 }) := by
  have HWAY := Lib.hid (show Way (thW x t) base b us R rd e tbase tb m n utab O x.heap.size (tcells t) 30 from ⟨hp.grow (thW_below x t), thW_a x t, hp.off (Nat.le_refl _), hp.ble, fun y hy => hT y (((thW_below x t).mono hp.ble).trans hy), hl, hok⟩)
  have HCL := Lib.hid (Class_any t.row t.s x.heap.size 3 (tcells t) 30 HWAY.out rfl ht.2.2.2.1)
  have H := Lib.hid hp
  have kW := Lib.hid (thW_below x t)
  have qb := Lib.hid (thW_b x t)
  have qa := Lib.hid (thW_a x t)
  have hq : (t.kind : Int) % 7 = 3 := by omega
  generalize stepT rd O R e t.row 7 0 t.s = S1 at HCL ⊢
  obtain ⟨R2, e2, v2⟩ := S1
  dsimp only at HCL ⊢
  obtain ⟨⟨c0, c1, c2, c3⟩, c4, c5, c6, c7, c8, c9⟩ := (thW_a x t).at_
  have z1 := (thW_a x t).lt
  clear hp hT hl hok hk HWAY
  unfold tv tcells
  go_enter Try.func11, Try.ntmps11
  go_upto_region 1 with fail
  rw [show ((x.alloc (.cells #[.int .u8 t.kind, .int .i64 t.row, .int .i64 t.n, .string (bs t.s), .int .i64 t.v.tag, .string (bs t.v.text), .int .u64 t.v.bits, .string (bs t.v.cls), .string (bs t.v.name), .string (bs t.v.desc)] 30)).alloc (.cells #[.int .u8 0, .int .i64 0, .int .i64 0, .string ⟨#[]⟩, .int .i64 0, .string ⟨#[]⟩, .int .u64 0, .string ⟨#[]⟩, .string ⟨#[]⟩, .string ⟨#[]⟩] 30)) = thW x t from rfl]
  have hWz := qb.out.lt
  generalize thW x t = W at *
  have OB := Lib.hid (H.out.off (Nat.le_succ x.heap.size))
  go_wp2_with fail
  refine HCL.out.mono ?_
  rintro ex y ⟨rfl, ⟨us', h3, us0, rfl, f3⟩, hgy⟩
  have H3 := Lib.hid h3
  have F3 := Lib.hid f3
  have A3 := Lib.hid (show ThBox y x.heap.size { t with s := v2 } from hgy)
  have Q3 := Lib.hid (show ThBox y (x.heap.size + 1) Th.zero from (f3.same _ hWz OB.out (by simp)).trans qb.out)
  clear h3 f3 hgy c0 c1 c2 c3 c4 c5 c6 c7 c8 c9 z1 hq HCL
  have hfin := lthr_fin kW.out hWz H.out H3.out F3.out Q3.out { t with s := v2 }
  obtain ⟨⟨c0, c1, c2, c3⟩, c4, c5, c6, c7, c8, c9⟩ := A3.out.at_
  obtain ⟨⟨d0, d1, d2, d3⟩, d4, d5, d6, d7, d8, d9⟩ := Q3.out.at_
  obtain ⟨⟨j0, j1, j2, j3⟩, j4, j5, j6, j7, j8, j9⟩ := Q3.out.free
  have y1 := A3.out.lt
  have y2 := Q3.out.lt
  go_wp2_with fail
  unfold storedTh at hfin
  exact th_ret (g := x.heap.size + 1) rfl rfl hfin.1 ⟨rfl, hfin.2⟩
set_option maxRecDepth 100000 in
set_option maxHeartbeats 4000000 in
theorem lthr4 (t : Th) (hk : t.kind % 7 = 4) (hp : PortS x base b (.pointer (some ⟨tb, 0, none⟩)) us R rd e) (hT : ∀ y, Below base x y → TabOf y tbase tb m n utab O) (hl : ∀ t, (R t).length ≤ 1000000) (hok : ∀ v ∈ O, v.chk 0 9 5 = 0) (ht : t.fits) :
    Calls Try.prog 11 #[.pointer (some ⟨b, 0, none⟩), tv t] x (LOk x base b (.pointer (some ⟨tb, 0, none⟩)) us (stepT rd O R e t.row 7 1 t.s).1 rd (stepT rd O R e t.row 7 1 t.s).2.1 { t with s := (stepT rd O R e t.row 7 1 t.s).2.2 }) := by
  have HWAY := Lib.hid (show Way (thW x t) base b us R rd e tbase tb m n utab O x.heap.size (tcells t) 30 from ⟨hp.grow (thW_below x t), thW_a x t, hp.off (Nat.le_refl _), hp.ble, fun y hy => hT y (((thW_below x t).mono hp.ble).trans hy), hl, hok⟩)
  have HCL := Lib.hid (MaybeClass_any t.row t.s x.heap.size 3 (tcells t) 30 HWAY.out rfl ht.2.2.2.1)
  have H := Lib.hid hp
  have kW := Lib.hid (thW_below x t)
  have qb := Lib.hid (thW_b x t)
  have qa := Lib.hid (thW_a x t)
  have hq : (t.kind : Int) % 7 = 4 := by omega
  generalize stepT rd O R e t.row 7 1 t.s = S1 at HCL ⊢
  obtain ⟨R2, e2, v2⟩ := S1
  dsimp only at HCL ⊢
  obtain ⟨⟨c0, c1, c2, c3⟩, c4, c5, c6, c7, c8, c9⟩ := (thW_a x t).at_
  have z1 := (thW_a x t).lt
  clear hp hT hl hok hk HWAY
  unfold tv tcells
  go_enter Try.func11, Try.ntmps11
  go_upto_region 1 with fail
  rw [show ((x.alloc (.cells #[.int .u8 t.kind, .int .i64 t.row, .int .i64 t.n, .string (bs t.s), .int .i64 t.v.tag, .string (bs t.v.text), .int .u64 t.v.bits, .string (bs t.v.cls), .string (bs t.v.name), .string (bs t.v.desc)] 30)).alloc (.cells #[.int .u8 0, .int .i64 0, .int .i64 0, .string ⟨#[]⟩, .int .i64 0, .string ⟨#[]⟩, .int .u64 0, .string ⟨#[]⟩, .string ⟨#[]⟩, .string ⟨#[]⟩] 30)) = thW x t from rfl]
  have hWz := qb.out.lt
  generalize thW x t = W at *
  have OB := Lib.hid (H.out.off (Nat.le_succ x.heap.size))
  go_wp2_with fail
  refine HCL.out.mono ?_
  rintro ex y ⟨rfl, ⟨us', h3, us0, rfl, f3⟩, hgy⟩
  have H3 := Lib.hid h3
  have F3 := Lib.hid f3
  have A3 := Lib.hid (show ThBox y x.heap.size { t with s := v2 } from hgy)
  have Q3 := Lib.hid (show ThBox y (x.heap.size + 1) Th.zero from (f3.same _ hWz OB.out (by simp)).trans qb.out)
  clear h3 f3 hgy c0 c1 c2 c3 c4 c5 c6 c7 c8 c9 z1 hq HCL
  have hfin := lthr_fin kW.out hWz H.out H3.out F3.out Q3.out { t with s := v2 }
  obtain ⟨⟨c0, c1, c2, c3⟩, c4, c5, c6, c7, c8, c9⟩ := A3.out.at_
  obtain ⟨⟨d0, d1, d2, d3⟩, d4, d5, d6, d7, d8, d9⟩ := Q3.out.at_
  obtain ⟨⟨j0, j1, j2, j3⟩, j4, j5, j6, j7, j8, j9⟩ := Q3.out.free
  have y1 := A3.out.lt
  have y2 := Q3.out.lt
  go_wp2_with fail
  unfold storedTh at hfin
  exact th_ret (g := x.heap.size + 1) rfl rfl hfin.1 ⟨rfl, hfin.2⟩
set_option maxRecDepth 100000 in
set_option maxHeartbeats 4000000 in
theorem lthr5 (t : Th) (hk : t.kind % 7 = 5) (hp : PortS x base b (.pointer (some ⟨tb, 0, none⟩)) us R rd e) (hT : ∀ y, Below base x y → TabOf y tbase tb m n utab O) (hl : ∀ t, (R t).length ≤ 1000000) (hok : ∀ v ∈ O, v.chk 0 9 5 = 0) (ht : t.fits) :
    Calls Try.prog 11 #[.pointer (some ⟨b, 0, none⟩), tv t] x (LOk x base b (.pointer (some ⟨tb, 0, none⟩)) us (stepY rd O R e t.row t.v.tag t.v).1 rd (stepY rd O R e t.row t.v.tag t.v).2.1 { t with v := (stepY rd O R e t.row t.v.tag t.v).2.2 }) := by
  have HWAY := Lib.hid (show Way (thW x t) base b us R rd e tbase tb m n utab O x.heap.size (tcells t) 30 from ⟨hp.grow (thW_below x t), thW_a x t, hp.off (Nat.le_refl _), hp.ble, fun y hy => hT y (((thW_below x t).mono hp.ble).trans hy), hl, hok⟩)
  have HCL := Lib.hid (Value_any t.row t.v.tag t.v x.heap.size 4 (tcells t) 30 HWAY.out ⟨rfl, rfl, rfl, rfl, rfl, rfl⟩ ht.2.2.2.2 ht.2.2.2.2.1)
  have H := Lib.hid hp
  have kW := Lib.hid (thW_below x t)
  have qb := Lib.hid (thW_b x t)
  have qa := Lib.hid (thW_a x t)
  have hq : (t.kind : Int) % 7 = 5 := by omega
  generalize stepY rd O R e t.row t.v.tag t.v = S1 at HCL ⊢
  obtain ⟨R2, e2, v2⟩ := S1
  dsimp only at HCL ⊢
  obtain ⟨⟨c0, c1, c2, c3⟩, c4, c5, c6, c7, c8, c9⟩ := (thW_a x t).at_
  have z1 := (thW_a x t).lt
  clear hp hT hl hok hk HWAY
  unfold tv tcells
  go_enter Try.func11, Try.ntmps11
  go_upto_region 1 with fail
  rw [show ((x.alloc (.cells #[.int .u8 t.kind, .int .i64 t.row, .int .i64 t.n, .string (bs t.s), .int .i64 t.v.tag, .string (bs t.v.text), .int .u64 t.v.bits, .string (bs t.v.cls), .string (bs t.v.name), .string (bs t.v.desc)] 30)).alloc (.cells #[.int .u8 0, .int .i64 0, .int .i64 0, .string ⟨#[]⟩, .int .i64 0, .string ⟨#[]⟩, .int .u64 0, .string ⟨#[]⟩, .string ⟨#[]⟩, .string ⟨#[]⟩] 30)) = thW x t from rfl]
  have hWz := qb.out.lt
  generalize thW x t = W at *
  have OB := Lib.hid (H.out.off (Nat.le_succ x.heap.size))
  go_wp2_with fail
  refine HCL.out.mono ?_
  rintro ex y ⟨rfl, ⟨us', h3, us0, rfl, f3⟩, hgy⟩
  have H3 := Lib.hid h3
  have F3 := Lib.hid f3
  have A3 := Lib.hid (show ThBox y x.heap.size { t with v := v2 } from hgy)
  have Q3 := Lib.hid (show ThBox y (x.heap.size + 1) Th.zero from (f3.same _ hWz OB.out (by simp)).trans qb.out)
  clear h3 f3 hgy c0 c1 c2 c3 c4 c5 c6 c7 c8 c9 z1 hq HCL
  have hfin := lthr_fin kW.out hWz H.out H3.out F3.out Q3.out { t with v := v2 }
  obtain ⟨⟨c0, c1, c2, c3⟩, c4, c5, c6, c7, c8, c9⟩ := A3.out.at_
  obtain ⟨⟨d0, d1, d2, d3⟩, d4, d5, d6, d7, d8, d9⟩ := Q3.out.at_
  obtain ⟨⟨j0, j1, j2, j3⟩, j4, j5, j6, j7, j8, j9⟩ := Q3.out.free
  have y1 := A3.out.lt
  have y2 := Q3.out.lt
  go_wp2_with fail
  unfold storedTh at hfin
  exact th_ret (g := x.heap.size + 1) rfl rfl hfin.1 ⟨rfl, hfin.2⟩
set_option maxRecDepth 100000 in
set_option maxHeartbeats 4000000 in
theorem lthr6 (t : Th) (hk : t.kind % 7 = 6) (hp : PortS x base b (.pointer (some ⟨tb, 0, none⟩)) us R rd e) (hT : ∀ y, Below base x y → TabOf y tbase tb m n utab O) (hl : ∀ t, (R t).length ≤ 1000000) (hok : ∀ v ∈ O, v.chk 0 9 5 = 0) (ht : t.fits) :
    Calls Try.prog 11 #[.pointer (some ⟨b, 0, none⟩), tv t] x (LOk x base b (.pointer (some ⟨tb, 0, none⟩)) us (stepC rd R e t.row t.n 1000).1 rd (stepC rd R e t.row t.n 1000).2.1 { t with n := (stepC rd R e t.row t.n 1000).2.2 }) := by
  have HWAY := Lib.hid (show Way (thW x t) base b us R rd e tbase tb m n utab O x.heap.size (tcells t) 30 from ⟨hp.grow (thW_below x t), thW_a x t, hp.off (Nat.le_refl _), hp.ble, fun y hy => hT y (((thW_below x t).mono hp.ble).trans hy), hl, hok⟩)
  have HCL := Lib.hid (count_any t.row t.n 1000 HWAY.out.port hl)
  have H := Lib.hid hp
  have kW := Lib.hid (thW_below x t)
  have qb := Lib.hid (thW_b x t)
  have qa := Lib.hid (thW_a x t)
  have hq : (t.kind : Int) % 7 = 6 := by omega
  generalize stepC rd R e t.row t.n 1000 = S1 at HCL ⊢
  obtain ⟨R2, e2, v2⟩ := S1
  dsimp only at HCL ⊢
  obtain ⟨⟨c0, c1, c2, c3⟩, c4, c5, c6, c7, c8, c9⟩ := (thW_a x t).at_
  have z1 := (thW_a x t).lt
  clear hp hT hl hok hk HWAY
  unfold tv tcells
  go_enter Try.func11, Try.ntmps11
  go_upto_region 1 with fail
  rw [show ((x.alloc (.cells #[.int .u8 t.kind, .int .i64 t.row, .int .i64 t.n, .string (bs t.s), .int .i64 t.v.tag, .string (bs t.v.text), .int .u64 t.v.bits, .string (bs t.v.cls), .string (bs t.v.name), .string (bs t.v.desc)] 30)).alloc (.cells #[.int .u8 0, .int .i64 0, .int .i64 0, .string ⟨#[]⟩, .int .i64 0, .string ⟨#[]⟩, .int .u64 0, .string ⟨#[]⟩, .string ⟨#[]⟩, .string ⟨#[]⟩] 30)) = thW x t from rfl]
  have hWz := qb.out.lt
  generalize thW x t = W at *
  have OB := Lib.hid (H.out.off (Nat.le_succ x.heap.size))
  go_wp2_with fail
  refine HCL.out.mono ?_
  rintro ex y0 ⟨rfl, us', h3, us0, rfl, f3⟩
  have hgy := (f3.same _ (by omega) (H.out.off (Nat.le_refl _)) (by simp)).trans qa.out
  have ho := f3.off _ (by omega) (H.out.off (Nat.le_refl x.heap.size))
  have j2 := (blk_facts hgy).2 2
  have c2' : y0.cell? ⟨x.heap.size, 2, none⟩ = some (.int .i64 t.n) := (blk_facts hgy).1 2
  have y1 := (Array.getElem?_eq_some_iff.1 hgy).1
  have H3 := Lib.hid (h3.kept ho (heap_turned (o := 2) hgy (.int .i64 v2)))
  have F3 := Lib.hid (f3.lift.trans (Frm.cell H.out.ble h3.ble (heap_turned (o := 2) hgy (.int .i64 v2))))
  have A3 := Lib.hid (show ThBox (y0.setCell ⟨x.heap.size, 2, none⟩ (.int .i64 v2)) x.heap.size { t with n := v2 } from heap_set (o := 2) hgy (.int .i64 v2))
  have Q3 := Lib.hid (show ThBox (y0.setCell ⟨x.heap.size, 2, none⟩ (.int .i64 v2)) (x.heap.size + 1) Th.zero from (F3.out.same _ hWz OB.out (by simp)).trans qb.out)
  clear h3 f3 hgy ho c0 c1 c2 c3 c4 c5 c6 c7 c8 c9 z1 hq HCL
  go_upto_region 16 with fail
  generalize y0.setCell ⟨x.heap.size, 2, none⟩ (.int .i64 v2) = y at *
  clear j2 c2' y1
  have hfin := lthr_fin kW.out hWz H.out H3.out F3.out Q3.out { t with n := v2 }
  obtain ⟨⟨c0, c1, c2, c3⟩, c4, c5, c6, c7, c8, c9⟩ := A3.out.at_
  obtain ⟨⟨d0, d1, d2, d3⟩, d4, d5, d6, d7, d8, d9⟩ := Q3.out.at_
  obtain ⟨⟨j0, j1, j2, j3⟩, j4, j5, j6, j7, j8, j9⟩ := Q3.out.free
  have y1 := A3.out.lt
  have y2 := Q3.out.lt
  go_wp2_with fail
  unfold storedTh at hfin
  exact th_ret (g := x.heap.size + 1) rfl rfl hfin.1 ⟨rfl, hfin.2⟩
theorem lthr_any (t : Th) (hp : PortS x base b (.pointer (some ⟨tb, 0, none⟩)) us R rd e) (hT : ∀ y, Below base x y → TabOf y tbase tb m n utab O) (hl : ∀ t, (R t).length ≤ 1000000) (hok : ∀ v ∈ O, v.chk 0 9 5 = 0) (ht : t.fits) :
    Calls Try.prog 11 #[.pointer (some ⟨b, 0, none⟩), tv t] x (LOk x base b (.pointer (some ⟨tb, 0, none⟩)) us (stepTh rd O R e t).1 rd (stepTh rd O R e t).2.1 (stepTh rd O R e t).2.2) := by
  unfold stepTh
  have h7 : t.kind % 7 < 7 := Nat.mod_lt _ (by decide)
  generalize hq : t.kind % 7 = q at h7 ⊢
  obtain rfl | rfl | rfl | rfl | rfl | rfl | rfl : q = 0 ∨ q = 1 ∨ q = 2 ∨ q = 3 ∨ q = 4 ∨ q = 5 ∨ q = 6 := by omega
  · exact lthr0 t hq hp hT hl hok ht
  · exact lthr1 t hq hp hT hl hok ht
  · exact lthr2 t hq hp hT hl hok ht
  · exact lthr3 t hq hp hT hl hok ht
  · exact lthr4 t hq hp hT hl hok ht
  · exact lthr5 t hq hp hT hl hok ht
  · exact lthr6 t hq hp hT hl hok ht
end
end Go.Proofs.Ytdmiljaiglaacaa

/- The walks of layer 29: a port's rows. -/
namespace Go.Proofs.Ytdmiljaiglaacaa
open Go.RowKit Go.Maps

theorem run_index_array {P : Program} {w : World} {t e : TypeId} {n : Nat} {cs : Array Value} {i : Nat} {v : Value} (h : P.underlying t = some (.array n e)) (ha : (isAgg e).run P w = .ok false w) (hs : (sizeOf e).run P w = .ok 1 w) (hi : i < n) (hv : cs[i]? = some v) :
    (Instr.index t (.agg cs) (.int .i64 i)).run P w = .ok v w := by
  simp [Instr.index, run_underlying h, asIntOf, part, ha, hs, hv, go_sem]
  intro h2
  omega
theorem wpList_appI {w : World} {ops : Array Oper} {rest : List Oper} {o : Oper} {a : Act} {Q : Exit → Act → World → Prop} (hgd : o.guard = none) (s x : Operand)
    (ho : o.op = .call { callee := .builtin .append, args := #[s, x], argTypes := #[45, 45] })
    (base : Nat) (v : Value) (xs : List Int) (hv : a.eval s = v) (hown : IRow w base v xs) (X : Value) (ys : List Int) (hX : a.eval x = X)
    (hs : Src Try.prog 1 45 X ys.length (ic ys) w) (hn : xs.length + ys.length ≤ 1000000000000) (hbase : base ≤ w.heap.size)
    (h : ∀ v' w', IRow w' base v' (xs ++ ys) → Hop w w' v.ownBlock v'.ownBlock → wpList Try.prog ops Q rest (a.put o.dst v') w') : wpList Try.prog ops Q (o :: rest) a w := by
  obtain ⟨i0, hi, hz0, hz1, hz2⟩ := info_parts infoInt
  refine wpList_append_row hgd s x 45 45 ho base 3 i0 _ 1 8 Try.underlying45 hi hz0 hz1 hz2 rfl v _ _ hv hown X ys.length (ic ys) hX (fun v' w' h1 h2 => h v' w' (IRow.app h1 rfl) h2) hs ?_ ?_ hbase
  · unfold maxLen; omega
  · omega
theorem ic_one (xs : List Int) : ∀ u ∈ ic xs, u.oneCell' = true := fun u hu => by
  unfold ic at hu
  obtain ⟨x, _, rfl⟩ := List.mem_map.1 hu
  rfl
theorem Ints.src {w : World} {A : Option Addr} {c : Nat} {xs : List Int} (h : Ints w A c xs) : Src Try.prog 1 45 (.slice A xs.length c) xs.length (ic xs) w := by
  cases xs with
  | nil =>
    cases A with
    | none => exact Src.ofNil w Try.underlying45 c
    | some a => exact Src.ofSlice w Try.underlying45 a 0 c [] rfl (fun j u hu => by simp at hu) (fun u hu => by cases hu)
  | cons y ys =>
    obtain ⟨g, o, rfl, hg, hc⟩ := h.2 (by simp)
    refine Src.ofSlice w Try.underlying45 ⟨g, o, none⟩ _ c _ (by rw [ic_length, Nat.mul_one]) (fun j u hu => ?_) (ic_one _)
    rw [off_addr]
    unfold ic at hu
    rw [List.getElem?_map] at hu
    cases hq : (y :: ys)[j]? with
    | none => rw [hq] at hu; cases hu
    | some z =>
      rw [hq] at hu
      cases hu
      exact hc j z hq
theorem ifresh0 {x : World} {B base : Nat} (h : x.heap[B]? = some (.cells #[] 3 (0, 0))) (hb : base ≤ B) : IRow x base (.slice (some ⟨B, 0, none⟩) 0 0) [] :=
  ⟨rfl, .inr ⟨B, 0, #[], rfl, hb, h, Nat.le_refl _, by unfold maxLen; omega, rfl, rfl⟩⟩
set_option maxHeartbeats 1000000 in
set_option maxRecDepth 100000 in
theorem iclone_any (A : Option Addr) (c : Nat) (l : List Int) (w : World) (hx : Ints w A c l) (hn : l.length ≤ 1000000000) (hA : A = none → c = 0) :
    Calls Try.prog 33 #[.slice A l.length c] w fun e w' => ∃ u, e = .returned u ∧ IRow w' w.heap.size u l ∧ Below w.heap.size w w' := by
  have HX := Lib.hid hx
  have qn : ∀ (w : World) (a : Option Addr) (n c : Nat), (binOp .eql 45 (.slice a n c) (.slice none 0 0)).run Try.prog w = .ok (.bool a.isNone) w := fun w a n c => Lib.run_eql_slice_nil w _ _ _ _ _ _ _ Try.underlying45
  clear hx
  cases A with
  | none =>
    obtain rfl : l = [] := by
      cases l with
      | nil => rfl
      | cons x l => obtain ⟨g, o, e, _⟩ := HX.out.2 (by simp); cases e
    obtain rfl := hA rfl
    clear hA HX
    go_enter Try.func33, Try.ntmps33
    go_wp2
    go_ret
    exact ⟨_, rfl, IRow.nil _ _, Below.refl _ _⟩
  | some a =>
    clear hA
    go_enter Try.func33, Try.ntmps33
    go_wp2_with (at_builtin; refine wpList_appI rfl _ _ rfl w.heap.size (.slice (some ⟨_, 0, none⟩) 0 0) [] rfl (ifresh0 (heap_alloc_new _ _) (Nat.le_refl _)) _ l rfl (HX.out.grow ((Below.refl _ _).alloc (Nat.le_refl _) _)).src (by simp; omega) (by simp) ?_; intro v1 w1 hr1 hp1)
    have hb1 := Lib.hid (show Below w.heap.size w w1 from Below.trans ((Below.refl _ _).alloc (Nat.le_refl _) _) (hp1.below (by simp) (fun k hk => by cases hk; simp)))
    have HR := Lib.hid hr1
    clear hr1 hp1
    go_ret
    exact ⟨_, rfl, HR.out, hb1.out⟩

/-- A row that lies behind a base, and reads. -/
def ISub (w : World) (base : Nat) (v : Value) (xs : List Int) : Prop := ∃ A c, v = .slice A xs.length c ∧ Ints w A c xs ∧ (A = none → c = 0) ∧ ∀ g o s, A = some ⟨g, o, s⟩ → base ≤ g
theorem ISub.of {w : World} {base : Nat} {v : Value} {xs : List Int} (h : IRow w base v xs) : ISub w base v xs := by
  obtain ⟨A, c, e, hx⟩ := h.reads
  refine ⟨A, c, e, hx, fun hA => ?_, fun g o s hA => ?_⟩
  · subst hA
    rcases h.2 with ⟨e2, _⟩ | ⟨g, cap, cur, e2, _⟩
    · rw [e] at e2; simp at e2; exact e2.2
    · rw [e] at e2; cases e2
  · subst hA
    exact h.base_le (k := g) (by rw [e]; rfl)
theorem ISub.off {w : World} {base : Nat} {v : Value} {xs : List Int} (h : IOff w base v xs) : ISub w base v xs := by
  obtain ⟨A, c, e, hx⟩ := h.reads
  refine ⟨A, c, e, hx, fun hA => ?_, fun g o s hA => ?_⟩
  · subst hA
    rcases h.2 with ⟨e2, _⟩ | ⟨g, o, cap, cur, e2, _⟩
    · rw [e] at e2; simp at e2; exact e2.2
    · rw [e] at e2; cases e2
  · subst hA
    exact (h.lt (k := g) (by rw [e]; rfl)).1
theorem ISub.nil (w : World) (base : Nat) : ISub w base (.slice none 0 0) [] := ⟨none, 0, rfl, Ints.nil _ _ _, fun _ => rfl, fun g o s h => by cases h⟩
theorem ISub.grow {w w1 : World} {base : Nat} {v : Value} {xs : List Int} (h : ISub w base v xs) (k : Below w.heap.size w w1) : ISub w1 base v xs := by
  obtain ⟨A, c, e, hx, h1, h2⟩ := h
  exact ⟨A, c, e, hx.grow k, h1, h2⟩
theorem ISub.kept {w w1 : World} {base g : Nat} {v : Value} {xs : List Int} (h : ISub w base v xs) (k : w.grownBy w1 (some g)) (hg : g < base) : ISub w1 base v xs := by
  obtain ⟨A, c, e, hx, h1, h2⟩ := h
  refine ⟨A, c, e, ⟨hx.1, fun hp => ?_⟩, h1, h2⟩
  obtain ⟨g', o, e', hg', hc⟩ := hx.2 hp
  have hne : g' ≠ g := fun h => by have := h2 g' o none e'; omega
  exact ⟨g', o, e', Nat.lt_of_lt_of_le hg' k.size, fun j x hj => (World.cell?_of_block (k.block g' hg' (fun e => hne (Option.some.inj e)))).trans (hc j x hj)⟩
theorem ISub.lower {w : World} {base b : Nat} {v : Value} {xs : List Int} (h : ISub w base v xs) (hb : b ≤ base) : ISub w b v xs := by
  obtain ⟨A, c, e, hx, h1, h2⟩ := h
  exact ⟨A, c, e, hx, h1, fun g o s hA => Nat.le_trans hb (h2 g o s hA)⟩
theorem ISub.clone {w : World} {base : Nat} {v : Value} {xs : List Int} (h : ISub w base v xs) (hn : xs.length ≤ 1000000000) :
    Calls Try.prog 33 #[v] w fun e w' => ∃ u, e = .returned u ∧ IRow w' w.heap.size u xs ∧ Below w.heap.size w w' := by
  obtain ⟨A, c, rfl, hx, h1, _⟩ := h
  exact iclone_any A c xs w hx hn h1
/-- What the rows come to. -/
def RowsOk (w : World) (R : Nat → List Int) (e : Ending) (w' : World) : Prop :=
  ∃ u : Nat → Value, e = .returned (.slice (some ⟨w.heap.size, 0, none⟩) 64 64) ∧ w'.rowIs w.heap.size 45 64 u ∧ (∀ t, t < 64 → ISub w' (w.heap.size + 1) (u t) (R t)) ∧ Below w.heap.size w w'
section
variable {x : World} {base b : Nat} {tp : Value} {us : Nat → Value} {R : Nat → List Int} {rd : Bool} {e : Int}
theorem infoInts : (Try.prog.info? 45).map (fun i => (i.zero, i.size, i.bytes)) = some (some (.slice none 0 0), 1, 24) := by kernel_rfl
theorem isAggInts (w : World) : (isAgg 45).run Try.prog w = .ok false w := by kernel_rfl
theorem sizeInts (w : World) : (sizeOf 45).run Try.prog w = .ok 1 w := by kernel_rfl
set_option maxRecDepth 100000 in
set_option maxHeartbeats 4000000 in
theorem rows_any (h : PortS x base b tp us R rd e) (hl : ∀ t, (R t).length ≤ 1000000) : Calls Try.prog 13 #[.pointer (some ⟨b, 0, none⟩)] x (RowsOk x R) := by
  have H := Lib.hid h
  have hbz := h.box.lt
  have hmk := run_make_row' (P := Try.prog) 42 45 (.slice none 0 0) 24 Try.underlying42 infoInts rfl .i64 .i64 64 (by omega) (by omega)
  rw [show (((64 : Nat)) : Int) = 64 from rfl] at hmk
  have k0 := Lib.hid ((Below.refl x.heap.size x).alloc (Nat.le_refl _) (.cells (madeCells #[.slice none 0 0] 64) 45))
  have M0 := Lib.hid (World.rowIs_made x (.slice none 0 0) 64 45)
  have HLN := Lib.hid hl
  clear h hl
  go_enter Try.func13, Try.ntmps13
  go_upto_region 4 with fail
  have hK := k0.out
  have hxz : x.heap.size < (x.alloc (.cells (madeCells #[.slice none 0 0] 64) 45)).heap.size := by simp
  generalize x.alloc (.cells (madeCells #[.slice none 0 0] 64) 45) = W at *
  have HW := Lib.hid (H.out.grow hK)
  have hrng : W.rangeAt b 1 ((List.range 64).map us) := fun j v hj => by
    rw [List.getElem?_map] at hj
    cases hq : (List.range 64)[j]? with
    | none => rw [hq] at hj; cases hj
    | some z =>
      rw [hq] at hj
      cases hj
      obtain ⟨h1, h2⟩ := List.getElem?_eq_some_iff.1 hq
      simp at h1 h2
      subst h2
      exact HW.out.box.row h1
  have hsz : (Try.prog.info? 64).map (·.size) = some ((List.range 64).map us).length := by rw [List.length_map, List.length_range]; kernel_rfl
  have hRA : ∀ i, i < 64 → ((List.range 64).map us).toArray[i]? = some (us i) := fun i hi => by
    rw [List.getElem?_toArray, List.getElem?_map, List.getElem?_range hi]
    rfl
  generalize (List.range 64).map us = RL at hrng hsz hRA
  have HRA := Lib.hid hRA
  have hwz := HW.out.box.lt
  clear hRA hmk hK
  go_wp2_with (refine wpList_load_mid rfl 64 _ rfl b 1 rfl RL _ hrng Try.underlying64 rfl hsz ?_)
  go_loopw [13] (fun t wr => ∃ (i : Nat) (u : Nat → Value), i ≤ 64 ∧ t = .int .i64 i ∧ wr.rowIs x.heap.size 45 64 (fun j => if j < i then u j else .slice none 0 0) ∧ (∀ j, j < i → ISub wr (x.heap.size + 1) (u j) (R j)) ∧ Below x.heap.size W wr) (fun t _ => 64 - (intOf t).toNat)
  case atStart => exact ⟨0, fun _ => .slice none 0 0, by omega, rfl, M0.out.congr (fun j _ => by simp), (fun j hj => by omega), Below.refl _ _⟩
  case round =>
    obtain ⟨i, u, hil, rfl, hrow, hsub, hB⟩ := hrel
    have ROW := Lib.hid hrow
    have SUB := Lib.hid hsub
    have MB := Lib.hid hB
    have hzr := hrow.lt
    clear hrow hsub hB
    by_cases hi : i < 64
    · have p1 : decide ((i : Int) < 64) = true := decide_eq_true (by omega)
      have p2 : decide (i < 64) = true := decide_eq_true hi
      have hix := run_index_array (P := Try.prog) (w := wr) Try.underlying64 (isAggInts wr) (sizeInts wr) hi (HRA.out i hi)
      have KX := Lib.hid (k0.out.trans MB.out)
      have hIS : ISub wr base (us i) (R i) := (ISub.off (H.out.rows i hi)).grow KX.out
      have HCL := Lib.hid (hIS.clone (Nat.le_trans (HLN.out i) (by omega)))
      clear hIS
      go_wp2_with fail
      refine HCL.out.mono ?_
      rintro e w2 ⟨v, rfl, hr, hb⟩
      obtain ⟨A, c, rfl, hx, hA1, hA2⟩ := ISub.of hr
      have hsize : x.heap.size + 1 ≤ wr.heap.size := hzr
      have row2 : w2.rowIs x.heap.size 45 64 (fun j => if j < i then u j else .slice none 0 0) := ROW.out.of_block (hb.block _ hzr)
      have c2 := row2.cell hi
      have f2 := row2.frozen i
      have z2 := row2.lt
      rw [if_neg (Nat.lt_irrefl i)] at c2
      have trn := setCell_turned w2 x.heap.size i (.slice A (R i).length c)
      have ROW3 := Lib.hid (show (w2.setCell ⟨x.heap.size, i, none⟩ (.slice A (R i).length c)).rowIs x.heap.size 45 64 (fun j => if j < i + 1 then (if j = i then .slice A (R i).length c else u j) else .slice none 0 0) from (row2.set i _).congr (fun j _ => by
        by_cases e : j = i
        · subst e; simp
        · rw [if_neg e, if_neg e]
          by_cases h1 : j < i
          · rw [if_pos h1, if_pos (by omega)]
          · rw [if_neg h1, if_neg (by omega)]))
      have SUB3 := Lib.hid (show ∀ j, j < i + 1 → ISub (w2.setCell ⟨x.heap.size, i, none⟩ (.slice A (R i).length c)) (x.heap.size + 1) (if j = i then .slice A (R i).length c else u j) (R j) from fun j hj => by
        by_cases e : j = i
        · subst e
          rw [if_pos rfl]
          exact ((ISub.of hr).lower hsize).kept trn (by omega)
        · rw [if_neg e]
          exact ((SUB.out j (by omega)).grow hb).kept trn (by omega))
      have B3 := Lib.hid (show Below x.heap.size W (w2.setCell ⟨x.heap.size, i, none⟩ (.slice A (R i).length c)) from (MB.out.trans (hb.mono (by omega))).setCell (p := ⟨x.heap.size, i, none⟩) (Nat.le_refl _) _)
      clear hr hx hA1 hA2 hb row2 HCL trn SUB ROW
      go_wp2_with fail
      go_roundw
      case rel => exact ⟨i + 1, _, by omega, by go_num, ROW3.out, SUB3.out, B3.out⟩
      case measure => simp [intOf]; omega
    · obtain rfl : i = 64 := by omega
      have p1 : decide ((64 : Int) < 64) = false := rfl
      have KX := Lib.hid (k0.out.trans MB.out)
      have ROW3 := Lib.hid (show wr.rowIs x.heap.size 45 64 u from ROW.out.congr (fun j hj => by rw [if_pos hj]))
      clear ROW
      go_wp2_with fail
      go_ret
      exact ⟨u, rfl, ROW3.out, SUB.out, KX.out⟩
end
end Go.Proofs.Ytdmiljaiglaacaa
