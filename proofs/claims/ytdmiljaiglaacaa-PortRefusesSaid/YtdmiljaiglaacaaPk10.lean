/- Joined texts: PortK, PortO, PortP. -/
import Derived.Test.YtdmiljaiglaacaaPk9
import Derived.Test.YtdmiljaiglaacaaPk3
import Derived.LoopN
/- The walks of layer 29's laws: a thing goes through. -/
namespace Go.Proofs.Ytdmiljaiglaacaa
open Go.RowKit Go.Maps

/-- A thing. -/
structure Th where
  kind : Nat
  row : Int
  n : Int
  s : List UInt8
  v : Pv
  deriving DecidableEq
def tcells (t : Th) : Array Value := #[.int .u8 t.kind, .int .i64 t.row, .int .i64 t.n, .string (bs t.s), .int .i64 t.v.tag, .string (bs t.v.text), .int .u64 t.v.bits, .string (bs t.v.cls), .string (bs t.v.name), .string (bs t.v.desc)]
def tv (t : Th) : Value := .agg (tcells t)
def Th.fits (t : Th) : Prop := t.kind < 256 ∧ I64 t.row ∧ I64 t.n ∧ t.s.length ≤ 140737488355328 ∧ t.v.fits
def ThBox (w : World) (b : Nat) (t : Th) : Prop := w.heap[b]? = some (.cells (tcells t) 30 (0, 0))
def Th.zero : Th := ⟨0, 0, 0, [], Pv.zero⟩
def tobj (t : Th) : Obj := .cells (tcells t) 30
theorem sizeThing : (Try.prog.info? 30).map (·.size) = some 10 := by kernel_rfl
theorem ThBox.lt {w : World} {b : Nat} {t : Th} (h : ThBox w b t) : b < w.heap.size := (Array.getElem?_eq_some_iff.1 h).1
theorem ThBox.at_ {w : World} {b : Nat} {t : Th} (h : ThBox w b t) : (w.cell? ⟨b, 0, none⟩ = some (.int .u8 t.kind) ∧ w.cell? ⟨b, 1, none⟩ = some (.int .i64 t.row) ∧ w.cell? ⟨b, 2, none⟩ = some (.int .i64 t.n) ∧ w.cell? ⟨b, 3, none⟩ = some (.string (bs t.s))) ∧
    w.cell? ⟨b, 4, none⟩ = some (.int .i64 t.v.tag) ∧ w.cell? ⟨b, 5, none⟩ = some (.string (bs t.v.text)) ∧ w.cell? ⟨b, 6, none⟩ = some (.int .u64 t.v.bits) ∧ w.cell? ⟨b, 7, none⟩ = some (.string (bs t.v.cls)) ∧ w.cell? ⟨b, 8, none⟩ = some (.string (bs t.v.name)) ∧ w.cell? ⟨b, 9, none⟩ = some (.string (bs t.v.desc)) :=
  ⟨⟨(blk_facts h).1 0, (blk_facts h).1 1, (blk_facts h).1 2, (blk_facts h).1 3⟩, (blk_facts h).1 4, (blk_facts h).1 5, (blk_facts h).1 6, (blk_facts h).1 7, (blk_facts h).1 8, (blk_facts h).1 9⟩
theorem ThBox.free {w : World} {b : Nat} {t : Th} (h : ThBox w b t) : (w.frozen? ⟨b, 0, none⟩ = false ∧ w.frozen? ⟨b, 1, none⟩ = false ∧ w.frozen? ⟨b, 2, none⟩ = false ∧ w.frozen? ⟨b, 3, none⟩ = false) ∧
    w.frozen? ⟨b, 4, none⟩ = false ∧ w.frozen? ⟨b, 5, none⟩ = false ∧ w.frozen? ⟨b, 6, none⟩ = false ∧ w.frozen? ⟨b, 7, none⟩ = false ∧ w.frozen? ⟨b, 8, none⟩ = false ∧ w.frozen? ⟨b, 9, none⟩ = false :=
  ⟨⟨(blk_facts h).2 0, (blk_facts h).2 1, (blk_facts h).2 2, (blk_facts h).2 3⟩, (blk_facts h).2 4, (blk_facts h).2 5, (blk_facts h).2 6, (blk_facts h).2 7, (blk_facts h).2 8, (blk_facts h).2 9⟩
theorem th_new (w : World) (t : Th) : ThBox (w.alloc (tobj t)) w.heap.size t := heap_alloc_new w _
theorem th_ret {fn : Func} {R : Ending → World → Prop} {a : Act} {w : World} {p g : Nat} {t : Th} (hf : fn.results = #[.cell p 30]) (hp : a.tmps.getD p undef = .pointer (some ⟨g, 0, none⟩)) (hb : ThBox w g t) (hR : R (.returned (tv t)) w) (hd : a.defers = [] := by rfl) : bodyPost Try.prog fn R .ret a w :=
  bodyPost_ret (results_cell_row hf _ w g 30 _ _ _ hp hb Try.underlying30 rfl sizeThing) hd hR
def storedTh (w : World) (b : Nat) (t : Th) : World :=
  (((((((((w.setCell ⟨b, 0, none⟩ (.int .u8 t.kind)).setCell ⟨b, 1, none⟩ (.int .i64 t.row)).setCell ⟨b, 2, none⟩ (.int .i64 t.n)).setCell ⟨b, 3, none⟩ (.string (bs t.s))).setCell ⟨b, 4, none⟩ (.int .i64 t.v.tag)).setCell ⟨b, 5, none⟩ (.string (bs t.v.text))).setCell ⟨b, 6, none⟩ (.int .u64 t.v.bits)).setCell ⟨b, 7, none⟩ (.string (bs t.v.cls))).setCell ⟨b, 8, none⟩ (.string (bs t.v.name))).setCell ⟨b, 9, none⟩ (.string (bs t.v.desc))
theorem storedTh_turned (w : World) (g : Nat) (t : Th) : w.grownBy (storedTh w g t) (some g) :=
  grown_same (grown_same (grown_same (grown_same (grown_same (grown_same (grown_same (grown_same (grown_same (setCell_turned w g 0 _) (setCell_turned _ g 1 _)) (setCell_turned _ g 2 _)) (setCell_turned _ g 3 _)) (setCell_turned _ g 4 _)) (setCell_turned _ g 5 _)) (setCell_turned _ g 6 _)) (setCell_turned _ g 7 _)) (setCell_turned _ g 8 _)) (setCell_turned _ g 9 _)
theorem th_store {w : World} {b : Nat} {t0 : Th} (h : ThBox w b t0) (t : Th) : ThBox (storedTh w b t) b t := by
  have h1 := heap_set (o := 9) (heap_set (o := 8) (heap_set (o := 7) (heap_set (o := 6) (heap_set (o := 5) (heap_set (o := 4) (heap_set (o := 3) (heap_set (o := 2) (heap_set (o := 1) (heap_set (o := 0) h (.int .u8 t.kind)) (.int .i64 t.row)) (.int .i64 t.n)) (.string (bs t.s))) (.int .i64 t.v.tag)) (.string (bs t.v.text))) (.int .u64 t.v.bits)) (.string (bs t.v.cls))) (.string (bs t.v.name))) (.string (bs t.v.desc))
  unfold tcells at h1
  simp only [List.setIfInBounds_toArray, List.set_cons_zero, List.set_cons_succ] at h1
  unfold ThBox storedTh tcells
  exact h1
/-- A thing goes through: the rows, the error, the thing. -/
def stepTh (rd : Bool) (O : List Pv) (R : Nat → List Int) (e : Int) (t : Th) : (Nat → List Int) × Int × Th :=
  match t.kind % 7 with
  | 0 => ((stepI rd R e t.row t.n).1, (stepI rd R e t.row t.n).2.1, { t with n := (stepI rd R e t.row t.n).2.2 })
  | 1 => ((stepT rd O R e t.row 1 0 t.s).1, (stepT rd O R e t.row 1 0 t.s).2.1, { t with s := (stepT rd O R e t.row 1 0 t.s).2.2 })
  | 2 => ((stepT rd O R e t.row 1 1 t.s).1, (stepT rd O R e t.row 1 1 t.s).2.1, { t with s := (stepT rd O R e t.row 1 1 t.s).2.2 })
  | 3 => ((stepT rd O R e t.row 7 0 t.s).1, (stepT rd O R e t.row 7 0 t.s).2.1, { t with s := (stepT rd O R e t.row 7 0 t.s).2.2 })
  | 4 => ((stepT rd O R e t.row 7 1 t.s).1, (stepT rd O R e t.row 7 1 t.s).2.1, { t with s := (stepT rd O R e t.row 7 1 t.s).2.2 })
  | 5 => ((stepY rd O R e t.row t.v.tag t.v).1, (stepY rd O R e t.row t.v.tag t.v).2.1, { t with v := (stepY rd O R e t.row t.v.tag t.v).2.2 })
  | _ => ((stepC rd R e t.row t.n 1000).1, (stepC rd R e t.row t.n 1000).2.1, { t with n := (stepC rd R e t.row t.n 1000).2.2 })
/-- The two boxes at its head. -/
def thW (x : World) (t : Th) : World := (x.alloc (tobj t)).alloc (tobj Th.zero)
theorem thW_below (x : World) (t : Th) : Below x.heap.size x (thW x t) := ((Below.refl _ _).alloc (Nat.le_refl _) _).alloc (by simp) _
theorem thW_a (x : World) (t : Th) : ThBox (thW x t) x.heap.size t :=
  (((Below.refl _ (x.alloc (tobj t))).alloc (Nat.le_refl _) (tobj Th.zero)).block x.heap.size (by simp)).trans (heap_alloc_new x (tobj t))
theorem thW_b (x : World) (t : Th) : ThBox (thW x t) (x.heap.size + 1) Th.zero := by
  have := heap_alloc_new (x.alloc (tobj t)) (tobj Th.zero)
  rw [show (x.alloc (tobj t)).heap.size = x.heap.size + 1 by simp] at this
  exact this
section
variable {x : World} {base b : Nat} {us : Nat → Value} {R : Nat → List Int} {rd : Bool} {e : Int} {tbase tb m n : Nat} {utab : Nat → Value} {O : List Pv}
/-- What stands at the switch. -/
def LOk (x : World) (base b : Nat) (tp : Value) (us : Nat → Value) (R : Nat → List Int) (rd : Bool) (e : Int) (t : Th) (ex : Ending) (y : World) : Prop :=
  ex = .returned (tv t) ∧ PortTo x base b tp us R rd e none y
/-- The result's box is stored. -/
theorem lthr_fin {y : World} {us' : Nat → Value} {W : World} (hW : Below x.heap.size x W) (hWs : x.heap.size + 1 < W.heap.size) {tp : Value} {R0 : Nat → List Int} {e0 : Int} (h0 : PortS x base b tp us R0 rd e0) {R' : Nat → List Int} {e' : Int} (h : PortS y base b tp us' R' rd e') (f : Frm W y base b us us' (some x.heap.size)) (q : ThBox y (x.heap.size + 1) Th.zero) (t : Th) :
    ThBox (storedTh y (x.heap.size + 1) t) (x.heap.size + 1) t ∧ PortTo x base b tp us R' rd e' none (storedTh y (x.heap.size + 1) t) := by
  have ho : Off us' b (x.heap.size + 1) := f.off _ hWs (h0.off (Nat.le_succ _))
  refine ⟨th_store q t, us', h.kept ho (storedTh_turned y _ t), us, rfl, ?_⟩
  exact frm_new (Frm.fresh h0.ble hW f) (storedTh_turned y _ t) (Nat.le_succ _) h0.ble
set_option maxRecDepth 100000 in
set_option maxHeartbeats 4000000 in
theorem lthr0 (t : Th) (hk : t.kind % 7 = 0) (hp : PortS x base b (.pointer (some ⟨tb, 0, none⟩)) us R rd e) (hT : ∀ y, Below base x y → TabOf y tbase tb m n utab O) (hl : ∀ t, (R t).length ≤ 1000000) (hok : ∀ v ∈ O, v.chk 0 9 5 = 0) (ht : t.fits) :
    Calls Try.prog 11 #[.pointer (some ⟨b, 0, none⟩), tv t] x (LOk x base b (.pointer (some ⟨tb, 0, none⟩)) us (stepI rd R e t.row t.n).1 rd (stepI rd R e t.row t.n).2.1 { t with n := (stepI rd R e t.row t.n).2.2 }) := by
  have HWAY := Lib.hid (show Way (thW x t) base b us R rd e tbase tb m n utab O x.heap.size (tcells t) 30 from ⟨hp.grow (thW_below x t), thW_a x t, hp.off (Nat.le_refl _), hp.ble, fun y hy => hT y (((thW_below x t).mono hp.ble).trans hy), hl, hok⟩)
  have HCL := Lib.hid (int_any t.row t.n x.heap.size 2 (tcells t) 30 HWAY.out.port HWAY.out.heap rfl HWAY.out.off HWAY.out.le hl)
  have H := Lib.hid hp
  have kW := Lib.hid (thW_below x t)
  have qb := Lib.hid (thW_b x t)
  have qa := Lib.hid (thW_a x t)
  have hq : (t.kind : Int) % 7 = 0 := by omega
  generalize stepI rd R e t.row t.n = S1 at HCL ⊢
  obtain ⟨R2, e2, v2⟩ := S1
  dsimp only at HCL ⊢
  obtain ⟨⟨c0, c1, c2, c3⟩, c4, c5, c6, c7, c8, c9⟩ := (thW_a x t).at_
  have z1 := (thW_a x t).lt
  clear hp hT hl hok hk HWAY
  unfold tv tcells
  go_enter Try.func11, Try.ntmps11
  go_upto_region 1 with fail
  rw [show ((x.alloc (.cells #[.int .u8 t.kind, .int .i64 t.row, .int .i64 t.n, .string (bs t.s), .int .i64 t.v.tag, .string (bs t.v.text), .int .u64 t.v.bits, .string (bs t.v.cls), .string (bs t.v.name), .string (bs t.v.desc)] 30)).alloc (.cells #[.int .u8 0, .int .i64 0, .int .i64 0, .string ⟨#[]⟩, .int .i64 0, .string ⟨#[]⟩, .int .u64 0, .string ⟨#[]⟩, .string ⟨#[]⟩, .string ⟨#[]⟩] 30)) = thW x t from rfl]
  have hWz := qb.out.lt
  generalize thW x t = W at *
  have OB := Lib.hid (H.out.off (Nat.le_succ x.heap.size))
  go_wp2_with fail
  refine HCL.out.mono ?_
  rintro ex y ⟨rfl, ⟨us', h3, us0, rfl, f3⟩, hgy⟩
  have H3 := Lib.hid h3
  have F3 := Lib.hid f3
  have A3 := Lib.hid (show ThBox y x.heap.size { t with n := v2 } from hgy)
  have Q3 := Lib.hid (show ThBox y (x.heap.size + 1) Th.zero from (f3.same _ hWz OB.out (by simp)).trans qb.out)
  clear h3 f3 hgy c0 c1 c2 c3 c4 c5 c6 c7 c8 c9 z1 hq HCL
  have hfin := lthr_fin kW.out hWz H.out H3.out F3.out Q3.out { t with n := v2 }
  obtain ⟨⟨c0, c1, c2, c3⟩, c4, c5, c6, c7, c8, c9⟩ := A3.out.at_
  obtain ⟨⟨d0, d1, d2, d3⟩, d4, d5, d6, d7, d8, d9⟩ := Q3.out.at_
  obtain ⟨⟨j0, j1, j2, j3⟩, j4, j5, j6, j7, j8, j9⟩ := Q3.out.free
  have y1 := A3.out.lt
  have y2 := Q3.out.lt
  go_wp2_with fail
  unfold storedTh at hfin
  exact th_ret (g := x.heap.size + 1) rfl rfl hfin.1 ⟨rfl, hfin.2⟩
set_option maxRecDepth 100000 in
set_option maxHeartbeats 4000000 in
theorem lthr1 (t : Th) (hk : t.kind % 7 = 1) (hp : PortS x base b (.pointer (some ⟨tb, 0, none⟩)) us R rd e) (hT : ∀ y, Below base x y → TabOf y tbase tb m n utab O) (hl : ∀ t, (R t).length ≤ 1000000) (hok : ∀ v ∈ O, v.chk 0 9 5 = 0) (ht : t.fits) :
    Calls Try.prog 11 #[.pointer (some ⟨b, 0, none⟩), tv t] x (LOk x base b (.pointer (some ⟨tb, 0, none⟩)) us (stepT rd O R e t.row 1 0 t.s).1 rd (stepT rd O R e t.row 1 0 t.s).2.1 { t with s := (stepT rd O R e t.row 1 0 t.s).2.2 }) := by
  have HWAY := Lib.hid (show Way (thW x t) base b us R rd e tbase tb m n utab O x.heap.size (tcells t) 30 from ⟨hp.grow (thW_below x t), thW_a x t, hp.off (Nat.le_refl _), hp.ble, fun y hy => hT y (((thW_below x t).mono hp.ble).trans hy), hl, hok⟩)
  have HCL := Lib.hid (Text_any t.row t.s x.heap.size 3 (tcells t) 30 HWAY.out rfl ht.2.2.2.1)
  have H := Lib.hid hp
  have kW := Lib.hid (thW_below x t)
  have qb := Lib.hid (thW_b x t)
  have qa := Lib.hid (thW_a x t)
  have hq : (t.kind : Int) % 7 = 1 := by omega
  generalize stepT rd O R e t.row 1 0 t.s = S1 at HCL ⊢
  obtain ⟨R2, e2, v2⟩ := S1
  dsimp only at HCL ⊢
  obtain ⟨⟨c0, c1, c2, c3⟩, c4, c5, c6, c7, c8, c9⟩ := (thW_a x t).at_
  have z1 := (thW_a x t).lt
  clear hp hT hl hok hk HWAY
  unfold tv tcells
  go_enter Try.func11, Try.ntmps11
  go_upto_region 1 with fail
  rw [show ((x.alloc (.cells #[.int .u8 t.kind, .int .i64 t.row, .int .i64 t.n, .string (bs t.s), .int .i64 t.v.tag, .string (bs t.v.text), .int .u64 t.v.bits, .string (bs t.v.cls), .string (bs t.v.name), .string (bs t.v.desc)] 30)).alloc (.cells #[.int .u8 0, .int .i64 0, .int .i64 0, .string ⟨#[]⟩, .int .i64 0, .string ⟨#[]⟩, .int .u64 0, .string ⟨#[]⟩, .string ⟨#[]⟩, .string ⟨#[]⟩] 30)) = thW x t from rfl]
  have hWz := qb.out.lt
  generalize thW x t = W at *
  have OB := Lib.hid (H.out.off (Nat.le_succ x.heap.size))
  go_wp2_with fail
  refine HCL.out.mono ?_
  rintro ex y ⟨rfl, ⟨us', h3, us0, rfl, f3⟩, hgy⟩
  have H3 := Lib.hid h3
  have F3 := Lib.hid f3
  have A3 := Lib.hid (show ThBox y x.heap.size { t with s := v2 } from hgy)
  have Q3 := Lib.hid (show ThBox y (x.heap.size + 1) Th.zero from (f3.same _ hWz OB.out (by simp)).trans qb.out)
  clear h3 f3 hgy c0 c1 c2 c3 c4 c5 c6 c7 c8 c9 z1 hq HCL
  have hfin := lthr_fin kW.out hWz H.out H3.out F3.out Q3.out { t with s := v2 }
  obtain ⟨⟨c0, c1, c2, c3⟩, c4, c5, c6, c7, c8, c9⟩ := A3.out.at_
  obtain ⟨⟨d0, d1, d2, d3⟩, d4, d5, d6, d7, d8, d9⟩ := Q3.out.at_
  obtain ⟨⟨j0, j1, j2, j3⟩, j4, j5, j6, j7, j8, j9⟩ := Q3.out.free
  have y1 := A3.out.lt
  have y2 := Q3.out.lt
  go_wp2_with fail
  unfold storedTh at hfin
  exact th_ret (g := x.heap.size + 1) rfl rfl hfin.1 ⟨rfl, hfin.2⟩
set_option maxRecDepth 100000 in
set_option maxHeartbeats 4000000 in
theorem lthr2 (t : Th) (hk : t.kind % 7 = 2) (hp : PortS x base b (.pointer (some ⟨tb, 0, none⟩)) us R rd e) (hT : ∀ y, Below base x y → TabOf y tbase tb m n utab O) (hl : ∀ t, (R t).length ≤ 1000000) (hok : ∀ v ∈ O, v.chk 0 9 5 = 0) (ht : t.fits) :
    Calls Try.prog 11 #[.pointer (some ⟨b, 0, none⟩), tv t] x (LOk x base b (.pointer (some ⟨tb, 0, none⟩)) us (stepT rd O R e t.row 1 1 t.s).1 rd (stepT rd O R e t.row 1 1 t.s).2.1 { t with s := (stepT rd O R e t.row 1 1 t.s).2.2 }) := by
  have HWAY := Lib.hid (show Way (thW x t) base b us R rd e tbase tb m n utab O x.heap.size (tcells t) 30 from ⟨hp.grow (thW_below x t), thW_a x t, hp.off (Nat.le_refl _), hp.ble, fun y hy => hT y (((thW_below x t).mono hp.ble).trans hy), hl, hok⟩)
  have HCL := Lib.hid (Maybe_any t.row t.s x.heap.size 3 (tcells t) 30 HWAY.out rfl ht.2.2.2.1)
  have H := Lib.hid hp
  have kW := Lib.hid (thW_below x t)
  have qb := Lib.hid (thW_b x t)
  have qa := Lib.hid (thW_a x t)
  have hq : (t.kind : Int) % 7 = 2 := by omega
  generalize stepT rd O R e t.row 1 1 t.s = S1 at HCL ⊢
  obtain ⟨R2, e2, v2⟩ := S1
  dsimp only at HCL ⊢
  obtain ⟨⟨c0, c1, c2, c3⟩, c4, c5, c6, c7, c8, c9⟩ := (thW_a x t).at_
  have z1 := (thW_a x t).lt
  clear hp hT hl hok hk HWAY
  unfold tv tcells
  go_enter Try.func11, Try.ntmps11
  go_upto_region 1 with fail
  rw [show ((x.alloc (.cells #[.int .u8 t.kind, .int .i64 t.row, .int .i64 t.n, .string (bs t.s), .int .i64 t.v.tag, .string (bs t.v.text), .int .u64 t.v.bits, .string (bs t.v.cls), .string (bs t.v.name), .string (bs t.v.desc)] 30)).alloc (.cells #[.int .u8 0, .int .i64 0, .int .i64 0, .string ⟨#[]⟩, .int .i64 0, .string ⟨#[]⟩, .int .u64 0, .string ⟨#[]⟩, .string ⟨#[]⟩, .string ⟨#[]⟩] 30)) = thW x t from rfl]
  have hWz := qb.out.lt
  generalize thW x t = W at *
  have OB := Lib.hid (H.out.off (Nat.le_succ x.heap.size))
  go_wp2_with fail
  refine HCL.out.mono ?_
  rintro ex y ⟨rfl, ⟨us', h3, us0, rfl, f3⟩, hgy⟩
  have H3 := Lib.hid h3
  have F3 := Lib.hid f3
  have A3 := Lib.hid (show ThBox y x.heap.size { t with s := v2 } from hgy)
  have Q3 := Lib.hid (show ThBox y (x.heap.size + 1) Th.zero from (f3.same _ hWz OB.out (by simp)).trans qb.out)
  clear h3 f3 hgy c0 c1 c2 c3 c4 c5 c6 c7 c8 c9 z1 hq HCL
  have hfin := lthr_fin kW.out hWz H.out H3.out F3.out Q3.out { t with s := v2 }
  obtain ⟨⟨c0, c1, c2, c3⟩, c4, c5, c6, c7, c8, c9⟩ := A3.out.at_
  obtain ⟨⟨d0, d1, d2, d3⟩, d4, d5, d6, d7, d8, d9⟩ := Q3.out.at_
  obtain ⟨⟨j0, j1, j2, j3⟩, j4, j5, j6, j7, j8, j9⟩ := Q3.out.free
  have y1 := A3.out.lt
  have y2 := Q3.out.lt
  go_wp2_with fail
  unfold storedTh at hfin
  exact th_ret (g := x.heap.size + 1) rfl rfl hfin.1 ⟨rfl, hfin.2⟩
set_option maxRecDepth 100000 in
set_option maxHeartbeats 4000000 in
theorem lthr3 (t : Th) (hk : t.kind % 7 = 3) (hp : PortS x base b (.pointer (some ⟨tb, 0, none⟩)) us R rd e) (hT : ∀ y, Below base x y → TabOf y tbase tb m n utab O) (hl : ∀ t, (R t).length ≤ 1000000) (hok : ∀ v ∈ O, v.chk 0 9 5 = 0) (ht : t.fits) :
    Calls Try.prog 11 #[.pointer (some ⟨b, 0, none⟩), tv t] x (LOk x base b (.pointer (some ⟨tb, 0, none⟩)) us (stepT rd O R e t.row 7 0 t.s).1 rd (stepT rd O R e t.row 7 0 t.s).2.1 { t with s := (stepT rd O R e t.row 7 0 t.s).2.2 }) := by
  have HWAY := Lib.hid (show Way (thW x t) base b us R rd e tbase tb m n utab O x.heap.size (tcells t) 30 from ⟨hp.grow (thW_below x t), thW_a x t, hp.off (Nat.le_refl _), hp.ble, fun y hy => hT y (((thW_below x t).mono hp.ble).trans hy), hl, hok⟩)
  have HCL := Lib.hid (Class_any t.row t.s x.heap.size 3 (tcells t) 30 HWAY.out rfl ht.2.2.2.1)
  have H := Lib.hid hp
  have kW := Lib.hid (thW_below x t)
  have qb := Lib.hid (thW_b x t)
  have qa := Lib.hid (thW_a x t)
  have hq : (t.kind : Int) % 7 = 3 := by omega
  generalize stepT rd O R e t.row 7 0 t.s = S1 at HCL ⊢
  obtain ⟨R2, e2, v2⟩ := S1
  dsimp only at HCL ⊢
  obtain ⟨⟨c0, c1, c2, c3⟩, c4, c5, c6, c7, c8, c9⟩ := (thW_a x t).at_
  have z1 := (thW_a x t).lt
  clear hp hT hl hok hk HWAY
  unfold tv tcells
  go_enter Try.func11, Try.ntmps11
  go_upto_region 1 with fail
  rw [show ((x.alloc (.cells #[.int .u8 t.kind, .int .i64 t.row, .int .i64 t.n, .string (bs t.s), .int .i64 t.v.tag, .string (bs t.v.text), .int .u64 t.v.bits, .string (bs t.v.cls), .string (bs t.v.name), .string (bs t.v.desc)] 30)).alloc (.cells #[.int .u8 0, .int .i64 0, .int .i64 0, .string ⟨#[]⟩, .int .i64 0, .string ⟨#[]⟩, .int .u64 0, .string ⟨#[]⟩, .string ⟨#[]⟩, .string ⟨#[]⟩] 30)) = thW x t from rfl]
  have hWz := qb.out.lt
  generalize thW x t = W at *
  have OB := Lib.hid (H.out.off (Nat.le_succ x.heap.size))
  go_wp2_with fail
  refine HCL.out.mono ?_
  rintro ex y ⟨rfl, ⟨us', h3, us0, rfl, f3⟩, hgy⟩
  have H3 := Lib.hid h3
  have F3 := Lib.hid f3
  have A3 := Lib.hid (show ThBox y x.heap.size { t with s := v2 } from hgy)
  have Q3 := Lib.hid (show ThBox y (x.heap.size + 1) Th.zero from (f3.same _ hWz OB.out (by simp)).trans qb.out)
  clear h3 f3 hgy c0 c1 c2 c3 c4 c5 c6 c7 c8 c9 z1 hq HCL
  have hfin := lthr_fin kW.out hWz H.out H3.out F3.out Q3.out { t with s := v2 }
  obtain ⟨⟨c0, c1, c2, c3⟩, c4, c5, c6, c7, c8, c9⟩ := A3.out.at_
  obtain ⟨⟨d0, d1, d2, d3⟩, d4, d5, d6, d7, d8, d9⟩ := Q3.out.at_
  obtain ⟨⟨j0, j1, j2, j3⟩, j4, j5, j6, j7, j8, j9⟩ := Q3.out.free
  have y1 := A3.out.lt
  have y2 := Q3.out.lt
  go_wp2_with fail
  unfold storedTh at hfin
  exact th_ret (g := x.heap.size + 1) rfl rfl hfin.1 ⟨rfl, hfin.2⟩
set_option maxRecDepth 100000 in
set_option maxHeartbeats 4000000 in
theorem lthr4 (t : Th) (hk : t.kind % 7 = 4) (hp : PortS x base b (.pointer (some ⟨tb, 0, none⟩)) us R rd e) (hT : ∀ y, Below base x y → TabOf y tbase tb m n utab O) (hl : ∀ t, (R t).length ≤ 1000000) (hok : ∀ v ∈ O, v.chk 0 9 5 = 0) (ht : t.fits) :
    Calls Try.prog 11 #[.pointer (some ⟨b, 0, none⟩), tv t] x (LOk x base b (.pointer (some ⟨tb, 0, none⟩)) us (stepT rd O R e t.row 7 1 t.s).1 rd (stepT rd O R e t.row 7 1 t.s).2.1 { t with s := (stepT rd O R e t.row 7 1 t.s).2.2 }) := by
  have HWAY := Lib.hid (show Way (thW x t) base b us R rd e tbase tb m n utab O x.heap.size (tcells t) 30 from ⟨hp.grow (thW_below x t), thW_a x t, hp.off (Nat.le_refl _), hp.ble, fun y hy => hT y (((thW_below x t).mono hp.ble).trans hy), hl, hok⟩)
  have HCL := Lib.hid (MaybeClass_any t.row t.s x.heap.size 3 (tcells t) 30 HWAY.out rfl ht.2.2.2.1)
  have H := Lib.hid hp
  have kW := Lib.hid (thW_below x t)
  have qb := Lib.hid (thW_b x t)
  have qa := Lib.hid (thW_a x t)
  have hq : (t.kind : Int) % 7 = 4 := by omega
  generalize stepT rd O R e t.row 7 1 t.s = S1 at HCL ⊢
  obtain ⟨R2, e2, v2⟩ := S1
  dsimp only at HCL ⊢
  obtain ⟨⟨c0, c1, c2, c3⟩, c4, c5, c6, c7, c8, c9⟩ := (thW_a x t).at_
  have z1 := (thW_a x t).lt
  clear hp hT hl hok hk HWAY
  unfold tv tcells
  go_enter Try.func11, Try.ntmps11
  go_upto_region 1 with fail
  rw [show ((x.alloc (.cells #[.int .u8 t.kind, .int .i64 t.row, .int .i64 t.n, .string (bs t.s), .int .i64 t.v.tag, .string (bs t.v.text), .int .u64 t.v.bits, .string (bs t.v.cls), .string (bs t.v.name), .string (bs t.v.desc)] 30)).alloc (.cells #[.int .u8 0, .int .i64 0, .int .i64 0, .string ⟨#[]⟩, .int .i64 0, .string ⟨#[]⟩, .int .u64 0, .string ⟨#[]⟩, .string ⟨#[]⟩, .string ⟨#[]⟩] 30)) = thW x t from rfl]
  have hWz := qb.out.lt
  generalize thW x t = W at *
  have OB := Lib.hid (H.out.off (Nat.le_succ x.heap.size))
  go_wp2_with fail
  refine HCL.out.mono ?_
  rintro ex y ⟨rfl, ⟨us', h3, us0, rfl, f3⟩, hgy⟩
  have H3 := Lib.hid h3
  have F3 := Lib.hid f3
  have A3 := Lib.hid (show ThBox y x.heap.size { t with s := v2 } from hgy)
  have Q3 := Lib.hid (show ThBox y (x.heap.size + 1) Th.zero from (f3.same _ hWz OB.out (by simp)).trans qb.out)
  clear h3 f3 hgy c0 c1 c2 c3 c4 c5 c6 c7 c8 c9 z1 hq HCL
  have hfin := lthr_fin kW.out hWz H.out H3.out F3.out Q3.out { t with s := v2 }
  obtain ⟨⟨c0, c1, c2, c3⟩, c4, c5, c6, c7, c8, c9⟩ := A3.out.at_
  obtain ⟨⟨d0, d1, d2, d3⟩, d4, d5, d6, d7, d8, d9⟩ := Q3.out.at_
  obtain ⟨⟨j0, j1, j2, j3⟩, j4, j5, j6, j7, j8, j9⟩ := Q3.out.free
  have y1 := A3.out.lt
  have y2 := Q3.out.lt
  go_wp2_with fail
  unfold storedTh at hfin
  exact th_ret (g := x.heap.size + 1) rfl rfl hfin.1 ⟨rfl, hfin.2⟩
set_option maxRecDepth 100000 in
set_option maxHeartbeats 4000000 in
theorem lthr5 (t : Th) (hk : t.kind % 7 = 5) (hp : PortS x base b (.pointer (some ⟨tb, 0, none⟩)) us R rd e) (hT : ∀ y, Below base x y → TabOf y tbase tb m n utab O) (hl : ∀ t, (R t).length ≤ 1000000) (hok : ∀ v ∈ O, v.chk 0 9 5 = 0) (ht : t.fits) :
    Calls Try.prog 11 #[.pointer (some ⟨b, 0, none⟩), tv t] x (LOk x base b (.pointer (some ⟨tb, 0, none⟩)) us (stepY rd O R e t.row t.v.tag t.v).1 rd (stepY rd O R e t.row t.v.tag t.v).2.1 { t with v := (stepY rd O R e t.row t.v.tag t.v).2.2 }) := by
  have HWAY := Lib.hid (show Way (thW x t) base b us R rd e tbase tb m n utab O x.heap.size (tcells t) 30 from ⟨hp.grow (thW_below x t), thW_a x t, hp.off (Nat.le_refl _), hp.ble, fun y hy => hT y (((thW_below x t).mono hp.ble).trans hy), hl, hok⟩)
  have HCL := Lib.hid (Value_any t.row t.v.tag t.v x.heap.size 4 (tcells t) 30 HWAY.out ⟨rfl, rfl, rfl, rfl, rfl, rfl⟩ ht.2.2.2.2 ht.2.2.2.2.1)
  have H := Lib.hid hp
  have kW := Lib.hid (thW_below x t)
  have qb := Lib.hid (thW_b x t)
  have qa := Lib.hid (thW_a x t)
  have hq : (t.kind : Int) % 7 = 5 := by omega
  generalize stepY rd O R e t.row t.v.tag t.v = S1 at HCL ⊢
  obtain ⟨R2, e2, v2⟩ := S1
  dsimp only at HCL ⊢
  obtain ⟨⟨c0, c1, c2, c3⟩, c4, c5, c6, c7, c8, c9⟩ := (thW_a x t).at_
  have z1 := (thW_a x t).lt
  clear hp hT hl hok hk HWAY
  unfold tv tcells
  go_enter Try.func11, Try.ntmps11
  go_upto_region 1 with fail
  rw [show ((x.alloc (.cells #[.int .u8 t.kind, .int .i64 t.row, .int .i64 t.n, .string (bs t.s), .int .i64 t.v.tag, .string (bs t.v.text), .int .u64 t.v.bits, .string (bs t.v.cls), .string (bs t.v.name), .string (bs t.v.desc)] 30)).alloc (.cells #[.int .u8 0, .int .i64 0, .int .i64 0, .string ⟨#[]⟩, .int .i64 0, .string ⟨#[]⟩, .int .u64 0, .string ⟨#[]⟩, .string ⟨#[]⟩, .string ⟨#[]⟩] 30)) = thW x t from rfl]
  have hWz := qb.out.lt
  generalize thW x t = W at *
  have OB := Lib.hid (H.out.off (Nat.le_succ x.heap.size))
  go_wp2_with fail
  refine HCL.out.mono ?_
  rintro ex y ⟨rfl, ⟨us', h3, us0, rfl, f3⟩, hgy⟩
  have H3 := Lib.hid h3
  have F3 := Lib.hid f3
  have A3 := Lib.hid (show ThBox y x.heap.size { t with v := v2 } from hgy)
  have Q3 := Lib.hid (show ThBox y (x.heap.size + 1) Th.zero from (f3.same _ hWz OB.out (by simp)).trans qb.out)
  clear h3 f3 hgy c0 c1 c2 c3 c4 c5 c6 c7 c8 c9 z1 hq HCL
  have hfin := lthr_fin kW.out hWz H.out H3.out F3.out Q3.out { t with v := v2 }
  obtain ⟨⟨c0, c1, c2, c3⟩, c4, c5, c6, c7, c8, c9⟩ := A3.out.at_
  obtain ⟨⟨d0, d1, d2, d3⟩, d4, d5, d6, d7, d8, d9⟩ := Q3.out.at_
  obtain ⟨⟨j0, j1, j2, j3⟩, j4, j5, j6, j7, j8, j9⟩ := Q3.out.free
  have y1 := A3.out.lt
  have y2 := Q3.out.lt
  go_wp2_with fail
  unfold storedTh at hfin
  exact th_ret (g := x.heap.size + 1) rfl rfl hfin.1 ⟨rfl, hfin.2⟩
set_option maxRecDepth 100000 in
set_option maxHeartbeats 4000000 in
theorem lthr6 (t : Th) (hk : t.kind % 7 = 6) (hp : PortS x base b (.pointer (some ⟨tb, 0, none⟩)) us R rd e) (hT : ∀ y, Below base x y → TabOf y tbase tb m n utab O) (hl : ∀ t, (R t).length ≤ 1000000) (hok : ∀ v ∈ O, v.chk 0 9 5 = 0) (ht : t.fits) :
    Calls Try.prog 11 #[.pointer (some ⟨b, 0, none⟩), tv t] x (LOk x base b (.pointer (some ⟨tb, 0, none⟩)) us (stepC rd R e t.row t.n 1000).1 rd (stepC rd R e t.row t.n 1000).2.1 { t with n := (stepC rd R e t.row t.n 1000).2.2 }) := by
  have HWAY := Lib.hid (show Way (thW x t) base b us R rd e tbase tb m n utab O x.heap.size (tcells t) 30 from ⟨hp.grow (thW_below x t), thW_a x t, hp.off (Nat.le_refl _), hp.ble, fun y hy => hT y (((thW_below x t).mono hp.ble).trans hy), hl, hok⟩)
  have HCL := Lib.hid (count_any t.row t.n 1000 HWAY.out.port hl)
  have H := Lib.hid hp
  have kW := Lib.hid (thW_below x t)
  have qb := Lib.hid (thW_b x t)
  have qa := Lib.hid (thW_a x t)
  have hq : (t.kind : Int) % 7 = 6 := by omega
  generalize stepC rd R e t.row t.n 1000 = S1 at HCL ⊢
  obtain ⟨R2, e2, v2⟩ := S1
  dsimp only at HCL ⊢
  obtain ⟨⟨c0, c1, c2, c3⟩, c4, c5, c6, c7, c8, c9⟩ := (thW_a x t).at_
  have z1 := (thW_a x t).lt
  clear hp hT hl hok hk HWAY
  unfold tv tcells
  go_enter Try.func11, Try.ntmps11
  go_upto_region 1 with fail
  rw [show ((x.alloc (.cells #[.int .u8 t.kind, .int .i64 t.row, .int .i64 t.n, .string (bs t.s), .int .i64 t.v.tag, .string (bs t.v.text), .int .u64 t.v.bits, .string (bs t.v.cls), .string (bs t.v.name), .string (bs t.v.desc)] 30)).alloc (.cells #[.int .u8 0, .int .i64 0, .int .i64 0, .string ⟨#[]⟩, .int .i64 0, .string ⟨#[]⟩, .int .u64 0, .string ⟨#[]⟩, .string ⟨#[]⟩, .string ⟨#[]⟩] 30)) = thW x t from rfl]
  have hWz := qb.out.lt
  generalize thW x t = W at *
  have OB := Lib.hid (H.out.off (Nat.le_succ x.heap.size))
  go_wp2_with fail
  refine HCL.out.mono ?_
  rintro ex y0 ⟨rfl, us', h3, us0, rfl, f3⟩
  have hgy := (f3.same _ (by omega) (H.out.off (Nat.le_refl _)) (by simp)).trans qa.out
  have ho := f3.off _ (by omega) (H.out.off (Nat.le_refl x.heap.size))
  have j2 := (blk_facts hgy).2 2
  have c2' : y0.cell? ⟨x.heap.size, 2, none⟩ = some (.int .i64 t.n) := (blk_facts hgy).1 2
  have y1 := (Array.getElem?_eq_some_iff.1 hgy).1
  have H3 := Lib.hid (h3.kept ho (heap_turned (o := 2) hgy (.int .i64 v2)))
  have F3 := Lib.hid (f3.lift.trans (Frm.cell H.out.ble h3.ble (heap_turned (o := 2) hgy (.int .i64 v2))))
  have A3 := Lib.hid (show ThBox (y0.setCell ⟨x.heap.size, 2, none⟩ (.int .i64 v2)) x.heap.size { t with n := v2 } from heap_set (o := 2) hgy (.int .i64 v2))
  have Q3 := Lib.hid (show ThBox (y0.setCell ⟨x.heap.size, 2, none⟩ (.int .i64 v2)) (x.heap.size + 1) Th.zero from (F3.out.same _ hWz OB.out (by simp)).trans qb.out)
  clear h3 f3 hgy ho c0 c1 c2 c3 c4 c5 c6 c7 c8 c9 z1 hq HCL
  go_upto_region 16 with fail
  generalize y0.setCell ⟨x.heap.size, 2, none⟩ (.int .i64 v2) = y at *
  clear j2 c2' y1
  have hfin := lthr_fin kW.out hWz H.out H3.out F3.out Q3.out { t with n := v2 }
  obtain ⟨⟨c0, c1, c2, c3⟩, c4, c5, c6, c7, c8, c9⟩ := A3.out.at_
  obtain ⟨⟨d0, d1, d2, d3⟩, d4, d5, d6, d7, d8, d9⟩ := Q3.out.at_
  obtain ⟨⟨j0, j1, j2, j3⟩, j4, j5, j6, j7, j8, j9⟩ := Q3.out.free
  have y1 := A3.out.lt
  have y2 := Q3.out.lt
  go_wp2_with fail
  unfold storedTh at hfin
  exact th_ret (g := x.heap.size + 1) rfl rfl hfin.1 ⟨rfl, hfin.2⟩
theorem lthr_any (t : Th) (hp : PortS x base b (.pointer (some ⟨tb, 0, none⟩)) us R rd e) (hT : ∀ y, Below base x y → TabOf y tbase tb m n utab O) (hl : ∀ t, (R t).length ≤ 1000000) (hok : ∀ v ∈ O, v.chk 0 9 5 = 0) (ht : t.fits) :
    Calls Try.prog 11 #[.pointer (some ⟨b, 0, none⟩), tv t] x (LOk x base b (.pointer (some ⟨tb, 0, none⟩)) us (stepTh rd O R e t).1 rd (stepTh rd O R e t).2.1 (stepTh rd O R e t).2.2) := by
  unfold stepTh
  have h7 : t.kind % 7 < 7 := Nat.mod_lt _ (by decide)
  generalize hq : t.kind % 7 = q at h7 ⊢
  obtain rfl | rfl | rfl | rfl | rfl | rfl | rfl : q = 0 ∨ q = 1 ∨ q = 2 ∨ q = 3 ∨ q = 4 ∨ q = 5 ∨ q = 6 := by omega
  · exact lthr0 t hq hp hT hl hok ht
  · exact lthr1 t hq hp hT hl hok ht
  · exact lthr2 t hq hp hT hl hok ht
  · exact lthr3 t hq hp hT hl hok ht
  · exact lthr4 t hq hp hT hl hok ht
  · exact lthr5 t hq hp hT hl hok ht
  · exact lthr6 t hq hp hT hl hok ht
end
end Go.Proofs.Ytdmiljaiglaacaa

/- Rows of things; which values a thing wants; are they few. -/
namespace Go.Proofs.Ytdmiljaiglaacaa
open Go.RowKit Go.Maps

/-- Things that lie in cells. -/
def TAt (w : World) (g o : Nat) (t : Th) : Prop :=
  (w.cell? ⟨g, o, none⟩ = some (.int .u8 t.kind) ∧ w.cell? ⟨g, o + 1, none⟩ = some (.int .i64 t.row) ∧ w.cell? ⟨g, o + 2, none⟩ = some (.int .i64 t.n) ∧ w.cell? ⟨g, o + 3, none⟩ = some (.string (bs t.s))) ∧
  w.cell? ⟨g, o + 4, none⟩ = some (.int .i64 t.v.tag) ∧ w.cell? ⟨g, o + 5, none⟩ = some (.string (bs t.v.text)) ∧ w.cell? ⟨g, o + 6, none⟩ = some (.int .u64 t.v.bits) ∧ w.cell? ⟨g, o + 7, none⟩ = some (.string (bs t.v.cls)) ∧ w.cell? ⟨g, o + 8, none⟩ = some (.string (bs t.v.name)) ∧ w.cell? ⟨g, o + 9, none⟩ = some (.string (bs t.v.desc))
theorem TAt.same {w w' : World} {g o : Nat} {t : Th} (h : TAt w g o t) (k : w'.heap[g]? = w.heap[g]?) : TAt w' g o t := by
  obtain ⟨⟨h0, h1, h2, h3⟩, h4, h5, h6, h7, h8, h9⟩ := h
  have hc : ∀ j, w'.cell? ⟨g, j, none⟩ = w.cell? ⟨g, j, none⟩ := fun j => World.cell?_of_block (a := ⟨g, j, none⟩) k
  exact ⟨⟨(hc _).trans h0, (hc _).trans h1, (hc _).trans h2, (hc _).trans h3⟩, (hc _).trans h4, (hc _).trans h5, (hc _).trans h6, (hc _).trans h7, (hc _).trans h8, (hc _).trans h9⟩
def Ths (w : World) (A : Option Addr) (c : Nat) (l : List Th) : Prop :=
  l.length ≤ c ∧ (0 < l.length → ∃ g o, A = some ⟨g, o, none⟩ ∧ g < w.heap.size ∧ ∀ (j : Nat) t, l[j]? = some t → TAt w g (o + j * 10) t)
theorem Ths.grow {w w' : World} {A : Option Addr} {c : Nat} {l : List Th} (h : Ths w A c l) (k : Below w.heap.size w w') : Ths w' A c l :=
  ⟨h.1, fun hp => by
    obtain ⟨g, o, e, hg, hc⟩ := h.2 hp
    exact ⟨g, o, e, Nat.lt_of_lt_of_le hg k.size, fun j t ht => (hc j t ht).same (k.block g hg)⟩⟩
theorem Ths.nil (w : World) (A : Option Addr) (c : Nat) : Ths w A c [] := ⟨Nat.zero_le _, fun h => by simp at h⟩
theorem Ths.at_ {w : World} {A : Option Addr} {c : Nat} {l : List Th} (h : Ths w A c l) {i : Nat} (hi : i < l.length) : ∃ g o t, A = some ⟨g, o, none⟩ ∧ g < w.heap.size ∧ l[i]? = some t ∧ TAt w g (o + i * 10) t := by
  obtain ⟨g, o, e, hg, hc⟩ := h.2 (by omega)
  exact ⟨g, o, _, e, hg, List.getElem?_eq_getElem hi, hc i _ (List.getElem?_eq_getElem hi)⟩
def Th.small (t : Th) : Bool := !decide (300 < t.s.length + t.v.text.length + t.v.cls.length + t.v.name.length + t.v.desc.length)
def Th.few (l : List Th) : Bool := l.all Th.small && decide (l.length ≤ 60)
set_option maxHeartbeats 4000000 in
theorem tfew_any (A : Option Addr) (c : Nat) (l : List Th) (w : World) (hx : Ths w A c l) (hn : l.length ≤ 140737488355328) (hf : ∀ v ∈ l, v.fits) :
    Calls Try.prog 6 #[.slice A l.length c] w fun e w' => e = .returned (.bool (Th.few l)) ∧ Below w.heap.size w w' := by
  have HX := Lib.hid hx
  have HFT := Lib.hid hf
  clear hx hf
  go_enter Try.func6, Try.ntmps6
  go_wp2_with fail
  go_loopw [7] (fun u wr => ∃ i : Nat, i ≤ l.length ∧ u = .int .i64 i ∧ (l.take i).all Th.small = true ∧ Below w.heap.size w wr) (fun u _ => l.length - (intOf u).toNat)
  case atStart => exact ⟨0, Nat.zero_le _, rfl, rfl, Below.refl _ _⟩
  case round =>
    obtain ⟨i, hil, rfl, hall, hB⟩ := hrel
    have HB := Lib.hid hB
    by_cases hi : i < l.length
    · obtain ⟨g, o, t, rfl, hg, ht, ⟨c0, c1, c2, c3⟩, c4, c5, c6, c7, c8, c9⟩ := (HX.out.grow hB).at_ hi
      obtain ⟨_, _, _, f0, _, _, f1, f2, f3, f4⟩ := HFT.out t (List.mem_of_getElem? ht)
      have p1 : decide ((i : Int) < (l.length : Int)) = true := decide_eq_true (by omega)
      have p2 : decide (i < l.length) = true := decide_eq_true hi
      have z0 := bs_size t.s
      have z1 := bs_size t.v.text
      have z2 := bs_size t.v.cls
      have z3 := bs_size t.v.name
      have z4 := bs_size t.v.desc
      have HF := Lib.hid ht
      have HA := Lib.hid hall
      have k1 := Lib.hid (HB.out.trans (((Below.refl wr.heap.size wr).alloc (Nat.le_refl _) (tobj t)).mono HB.out.size))
      unfold tobj tcells at k1
      have hsm : Th.small t = !decide (300 < t.s.length + t.v.text.length + t.v.cls.length + t.v.name.length + t.v.desc.length) := rfl
      clear hall hB ht
      by_cases h1 : 300 < t.s.length + t.v.text.length + t.v.cls.length + t.v.name.length + t.v.desc.length
      · have q1 : decide (300 < t.s.length + t.v.text.length + t.v.cls.length + t.v.name.length + t.v.desc.length) = true := decide_eq_true h1
        have q1' : decide ((300 : Int) < (t.s.length : Int) + (t.v.text.length : Int) + (t.v.cls.length : Int) + (t.v.name.length : Int) + (t.v.desc.length : Int)) = true := decide_eq_true (by omega)
        rw [q1, Bool.not_true] at hsm
        have HS := Lib.hid (all_bad Th.small HF.out hsm)
        clear hsm
        go_wp2
        go_ret
        exact ⟨by unfold Th.few; rw [HS.out]; rfl, k1.out⟩
      · have q1 : decide (300 < t.s.length + t.v.text.length + t.v.cls.length + t.v.name.length + t.v.desc.length) = false := decide_eq_false h1
        have q1' : decide ((300 : Int) < (t.s.length : Int) + (t.v.text.length : Int) + (t.v.cls.length : Int) + (t.v.name.length : Int) + (t.v.desc.length : Int)) = false := decide_eq_false (by omega)
        rw [q1, Bool.not_false] at hsm
        have HS := Lib.hid (show (l.take (i + 1)).all Th.small = true by rw [all_take_snoc Th.small HF.out, HA.out, hsm]; rfl)
        clear hsm
        go_wp2
        go_roundw
        case rel => exact ⟨i + 1, by omega, by go_num, HS.out, k1.out⟩
        case measure => simp [intOf]; omega
    · obtain rfl : i = l.length := by omega
      have p1 : decide ((l.length : Int) < (l.length : Int)) = false := decide_eq_false (by omega)
      have p2 : decide (l.length < l.length) = false := decide_eq_false (by omega)
      rw [List.take_length] at hall
      have HA := Lib.hid hall
      clear hall hB
      go_wp2
      go_ret
      exact ⟨by unfold Th.few; rw [HA.out, Bool.true_and]; show Ending.returned (.bool (decide ((l.length : Int) ≤ 60))) = _; rw [show decide ((l.length : Int) ≤ 60) = decide (l.length ≤ 60) from decide_eq_decide.2 (by omega)], HB.out⟩
/-- The values that a thing wants. -/
def Th.wants (t : Th) : List Pv :=
  match t.kind % 7 with
  | 1 => [⟨1, t.s, 0, [], [], []⟩]
  | 2 => if t.s = [] then [] else [⟨1, t.s, 0, [], [], []⟩]
  | 3 => [⟨7, t.s, 0, [], [], []⟩]
  | 4 => if t.s = [] then [] else [⟨7, t.s, 0, [], [], []⟩]
  | 5 => [t.v]
  | _ => []
theorem wants_one {w W : World} {v : Pv} (hb : Below w.heap.size w W) {g : Nat} (hg : w.heap.size ≤ g) (hh : W.heap[g]? = some (vcells v)) : Gives w [v] (.returned (.slice (some ⟨g, 0, none⟩) 1 1)) W :=
  ⟨_, rfl, ⟨by simp [vc], .inr ⟨g, 1, _, rfl, hg, hh, Nat.le_refl _, by unfold maxLen; omega, rfl, by simp [vc]⟩⟩, hb⟩
theorem wants_nil (w W : World) (hb : Below w.heap.size w W) : Gives w [] (.returned (.slice none 0 0)) W := ⟨_, rfl, VRow.nil _ _, hb⟩
set_option maxRecDepth 100000 in
set_option maxHeartbeats 4000000 in
theorem wants_any (t : Th) (w : World) : Calls Try.prog 7 #[tv t] w (Gives w t.wants) := by
  have k0 := Lib.hid ((Below.refl w.heap.size w).alloc (Nat.le_refl _) (tobj t))
  have q0 := Lib.hid (th_new w t)
  obtain ⟨⟨c0, c1, c2, c3⟩, c4, c5, c6, c7, c8, c9⟩ := (th_new w t).at_
  have z1 := (th_new w t).lt
  have h7 : t.kind % 7 < 7 := Nat.mod_lt _ (by decide)
  unfold Th.wants
  generalize hq : t.kind % 7 = q at h7 ⊢
  have hqi : (t.kind : Int) % 7 = (q : Int) := by omega
  clear hq
  obtain ⟨W, hW⟩ : ∃ W, W = w.alloc (tobj t) := ⟨_, rfl⟩
  rw [← hW] at k0 q0 c0 c1 c2 c3 c4 c5 c6 c7 c8 c9 z1
  have HW := Lib.hid hW
  have hwz := k0.out.size
  clear hW
  have one : ∀ (tag : Int), Hid (Gives w [⟨tag, t.s, 0, [], [], []⟩] (.returned (.slice (some ⟨W.heap.size, 0, none⟩) 1 1)) (W.alloc (vcells ⟨tag, t.s, 0, [], [], []⟩))) := fun tag => wants_one (k0.out.alloc hwz _) hwz (heap_alloc_new _ _)
  have none' := Lib.hid (wants_nil w W k0.out)
  have all := Lib.hid (show Gives w [t.v] (.returned (.slice (some ⟨W.heap.size, 0, none⟩) 1 1)) (W.alloc (vcells t.v)) from wants_one (k0.out.alloc hwz _) hwz (heap_alloc_new _ _))
  unfold vcells at one all
  dsimp only at one
  unfold tv tcells
  obtain rfl | rfl | rfl | rfl | rfl | rfl | rfl : q = 0 ∨ q = 1 ∨ q = 2 ∨ q = 3 ∨ q = 4 ∨ q = 5 ∨ q = 6 := by omega
  · go_enter Try.func7, Try.ntmps7
    go_upto_region 1 with fail
    rw [show w.alloc (.cells #[.int .u8 t.kind, .int .i64 t.row, .int .i64 t.n, .string (bs t.s), .int .i64 t.v.tag, .string (bs t.v.text), .int .u64 t.v.bits, .string (bs t.v.cls), .string (bs t.v.name), .string (bs t.v.desc)] 30) = W from HW.out.symm]
    go_wp2
    go_ret
    exact none'.out
  · go_enter Try.func7, Try.ntmps7
    go_upto_region 1 with fail
    rw [show w.alloc (.cells #[.int .u8 t.kind, .int .i64 t.row, .int .i64 t.n, .string (bs t.s), .int .i64 t.v.tag, .string (bs t.v.text), .int .u64 t.v.bits, .string (bs t.v.cls), .string (bs t.v.name), .string (bs t.v.desc)] 30) = W from HW.out.symm]
    go_wp2
    go_ret
    exact (one 1).out
  · refine (show Calls _ _ _ w (Gives w (if t.s = [] then [] else [⟨1, t.s, 0, [], [], []⟩])) from ?_)
    by_cases hs : t.s = []
    · rw [if_pos hs]
      have hs2 : (bs t.s).toList = [] := by rw [hs]; exact bs_list []
      clear hs
      go_enter Try.func7, Try.ntmps7
      go_upto_region 1 with fail
      rw [show w.alloc (.cells #[.int .u8 t.kind, .int .i64 t.row, .int .i64 t.n, .string (bs t.s), .int .i64 t.v.tag, .string (bs t.v.text), .int .u64 t.v.bits, .string (bs t.v.cls), .string (bs t.v.name), .string (bs t.v.desc)] 30) = W from HW.out.symm]
      go_wp2
      go_ret
      exact none'.out
    · rw [if_neg hs]
      have hs2 : ¬ (bs t.s).toList = [] := fun h => hs (by rwa [bs_list] at h)
      have hs3 : (bs t.s).toList.isEmpty = false := by rw [bs_list]; cases hh : t.s <;> simp_all
      clear hs
      go_enter Try.func7, Try.ntmps7
      go_upto_region 1 with fail
      rw [show w.alloc (.cells #[.int .u8 t.kind, .int .i64 t.row, .int .i64 t.n, .string (bs t.s), .int .i64 t.v.tag, .string (bs t.v.text), .int .u64 t.v.bits, .string (bs t.v.cls), .string (bs t.v.name), .string (bs t.v.desc)] 30) = W from HW.out.symm]
      go_wp2
      go_ret
      exact (one 1).out
  · go_enter Try.func7, Try.ntmps7
    go_upto_region 1 with fail
    rw [show w.alloc (.cells #[.int .u8 t.kind, .int .i64 t.row, .int .i64 t.n, .string (bs t.s), .int .i64 t.v.tag, .string (bs t.v.text), .int .u64 t.v.bits, .string (bs t.v.cls), .string (bs t.v.name), .string (bs t.v.desc)] 30) = W from HW.out.symm]
    go_wp2
    go_ret
    exact (one 7).out
  · refine (show Calls _ _ _ w (Gives w (if t.s = [] then [] else [⟨7, t.s, 0, [], [], []⟩])) from ?_)
    by_cases hs : t.s = []
    · rw [if_pos hs]
      have hs2 : (bs t.s).toList = [] := by rw [hs]; exact bs_list []
      clear hs
      go_enter Try.func7, Try.ntmps7
      go_upto_region 1 with fail
      rw [show w.alloc (.cells #[.int .u8 t.kind, .int .i64 t.row, .int .i64 t.n, .string (bs t.s), .int .i64 t.v.tag, .string (bs t.v.text), .int .u64 t.v.bits, .string (bs t.v.cls), .string (bs t.v.name), .string (bs t.v.desc)] 30) = W from HW.out.symm]
      go_wp2
      go_ret
      exact none'.out
    · rw [if_neg hs]
      have hs2 : ¬ (bs t.s).toList = [] := fun h => hs (by rwa [bs_list] at h)
      have hs3 : (bs t.s).toList.isEmpty = false := by rw [bs_list]; cases hh : t.s <;> simp_all
      clear hs
      go_enter Try.func7, Try.ntmps7
      go_upto_region 1 with fail
      rw [show w.alloc (.cells #[.int .u8 t.kind, .int .i64 t.row, .int .i64 t.n, .string (bs t.s), .int .i64 t.v.tag, .string (bs t.v.text), .int .u64 t.v.bits, .string (bs t.v.cls), .string (bs t.v.name), .string (bs t.v.desc)] 30) = W from HW.out.symm]
      go_wp2
      go_ret
      exact (one 7).out
  · go_enter Try.func7, Try.ntmps7
    go_upto_region 1 with fail
    rw [show w.alloc (.cells #[.int .u8 t.kind, .int .i64 t.row, .int .i64 t.n, .string (bs t.s), .int .i64 t.v.tag, .string (bs t.v.text), .int .u64 t.v.bits, .string (bs t.v.cls), .string (bs t.v.name), .string (bs t.v.desc)] 30) = W from HW.out.symm]
    go_wp2
    go_ret
    exact all.out
  · go_enter Try.func7, Try.ntmps7
    go_upto_region 1 with fail
    rw [show w.alloc (.cells #[.int .u8 t.kind, .int .i64 t.row, .int .i64 t.n, .string (bs t.s), .int .i64 t.v.tag, .string (bs t.v.text), .int .u64 t.v.bits, .string (bs t.v.cls), .string (bs t.v.name), .string (bs t.v.desc)] 30) = W from HW.out.symm]
    go_wp2
    go_ret
    exact none'.out
end Go.Proofs.Ytdmiljaiglaacaa

/- Layer 29's plain law: what goes through a writer comes out of a reader. -/
namespace Go.Proofs.Ytdmiljaiglaacaa
open Go.RowKit Go.Maps

theorem Th.eq_iff (a b : Th) : a = b ↔ a.kind = b.kind ∧ a.row = b.row ∧ a.n = b.n ∧ a.s = b.s ∧ a.v.tag = b.v.tag ∧ a.v.text = b.v.text ∧ a.v.bits = b.v.bits ∧ a.v.cls = b.v.cls ∧ a.v.name = b.v.name ∧ a.v.desc = b.v.desc := by
  constructor
  · rintro rfl; exact ⟨rfl, rfl, rfl, rfl, rfl, rfl, rfl, rfl, rfl, rfl⟩
  · intro ⟨h0, h1, h2, h3, h4⟩
    cases a; cases b
    simp only at h0 h1 h2 h3
    subst h0 h1 h2 h3
    rw [Th.mk.injEq]
    exact ⟨rfl, rfl, rfl, rfl, (Pv.eq_iff _ _).2 h4⟩
theorem beq_int (a b : Int) : (a == b) = decide (a = b) := by by_cases h : a = b <;> simp [h]
theorem beq_nat (a b : Nat) : ((a : Int) == (b : Int)) = decide (a = b) := by
  by_cases h : a = b
  · simp [h]
  · have h' : ¬ (a : Int) = (b : Int) := by omega
    simp [h, h']
set_option maxHeartbeats 2000000 in
theorem eq_thing (a b : Th) (x : World) : (Op.equalIn 10000 30 (tv a) (tv b)).run Try.prog x = .ok (decide (a = b)) x := by
  unfold tv tcells
  have h0 := beq_nat a.kind b.kind
  have h1 := beq_int a.row b.row
  have h2 := beq_int a.n b.n
  have h3 := bs_beq a.s b.s
  have h4 := beq_int a.v.tag b.v.tag
  have h5 := bs_beq a.v.text b.v.text
  have h6 := beq_nat a.v.bits b.v.bits
  have h7 := bs_beq a.v.cls b.v.cls
  have h8 := bs_beq a.v.name b.v.name
  have h9 := bs_beq a.v.desc b.v.desc
  rw [show (10000 : Nat) = 9998 + 1 + 1 from rfl]
  go_simp
  by_cases e : a = b
  · subst e; simp
  · rw [decide_eq_false e]
    rw [Th.eq_iff] at e
    repeat' split
    all_goals first | rfl | exact absurd ⟨by assumption, by assumption, by assumption, by assumption, by assumption, by assumption, by assumption, by assumption, by assumption, by assumption⟩ e
/-- A thing's number. -/
def Th.num (O : List Pv) (t : Th) : Int :=
  match t.kind % 7 with
  | 1 => (Pv.rk O ⟨1, t.s, 0, [], [], []⟩ : Nat)
  | 2 => if t.s = [] then 0 else ((Pv.rk O ⟨1, t.s, 0, [], [], []⟩ : Nat) : Int) + 1
  | 3 => (Pv.rk O ⟨7, t.s, 0, [], [], []⟩ : Nat)
  | 4 => if t.s = [] then 0 else ((Pv.rk O ⟨7, t.s, 0, [], [], []⟩ : Nat) : Int) + 1
  | 5 => (Pv.rk O t.v : Nat)
  | _ => t.n
theorem pe_in {row : Int} (h0 : 0 ≤ row) (h1 : row < 64) : pe 0 row true = 0 := by
  unfold pe
  rw [if_neg (by simp; omega)]
theorem rk_ltO {O : List Pv} {v : Pv} (h : v ∈ O) : Pv.rk O v < O.length := by
  have h1 := (List.getElem?_eq_some_iff.1 (row_get h)).1
  exact Nat.lt_of_lt_of_le h1 (row_len O v.tag)
theorem wrap_nat {n : Nat} (h : n ≤ 2000000) : wrap64 (n : Int) = (n : Int) := by
  unfold wrap64; omega
section
variable {O : List Pv} {R : Nat → List Int} {t : Th}
theorem put_v {more : Int} {v : Pv} {row : Nat} (hv : v ∈ O) (hO : O.length ≤ 1000000) (hm : more = 0 ∨ more = 1) : stepV false O R row v more true = (upd R row (R row ++ [((Pv.rk O v : Nat) : Int) + more]), 0, v, false) := by
  unfold stepV
  rw [if_neg (by simp), if_neg (by simp), if_pos (by simpa using hv), nums_all, if_pos hv]
  have h1 := rk_ltO hv
  have e : wrap64 (((Pv.rk O v : Nat) : Int) + more) = ((Pv.rk O v : Nat) : Int) + more := by
    unfold wrap64; rcases hm with rfl | rfl <;> omega
  rw [e]
theorem get_v {more : Int} {v v0 : Pv} {row : Nat} {zs : List Int} (hv : v ∈ O) (ht : v0.tag = v.tag) (hO : O.length ≤ 1000000) (hm : more = 0 ∨ more = 1) (hR : R row = (((Pv.rk O v : Nat) : Int) + more) :: zs) (there : Bool) : stepV true O R row v0 more there = (upd R row zs, 0, v, true) := by
  unfold stepV
  rw [if_pos rfl]
  have h1 := rk_ltO hv
  have e : wrap64 (((Pv.rk O v : Nat) : Int) + more - more) = ((Pv.rk O v : Nat) : Int) := by
    unfold wrap64; omega
  simp only [hR, e]
  rw [if_neg (by omega)]
  have hg : getAt O v0.tag ((Pv.rk O v : Nat) : Int) = some v := by
    unfold getAt
    rw [if_pos (by omega), Int.toNat_natCast, ht]
    exact row_get hv
  rw [hg]
theorem write_step (h0 : 0 ≤ t.row) (h1 : t.row < 64) (hw : ∀ v ∈ t.wants, v ∈ O) (hO : O.length ≤ 1000000) : stepTh false O R 0 t = (upd R t.row.toNat (R t.row.toNat ++ [t.num O]), 0, t) := by
  have hp := pe_in h0 h1
  unfold stepTh Th.num
  unfold Th.wants at hw
  have h7 : t.kind % 7 < 7 := Nat.mod_lt _ (by decide)
  generalize t.kind % 7 = q at h7 hw ⊢
  have hT : ∀ (tag more : Int), stepT false O R 0 t.row tag more t.s = ((stepV false O R t.row.toNat ⟨tag, t.s, 0, [], [], []⟩ more (more == 0 || !decide (t.s = []))).1, (stepV false O R t.row.toNat ⟨tag, t.s, 0, [], [], []⟩ more (more == 0 || !decide (t.s = []))).2.1,
      if (stepV false O R t.row.toNat ⟨tag, t.s, 0, [], [], []⟩ more (more == 0 || !decide (t.s = []))).2.2.2 = true then (stepV false O R t.row.toNat ⟨tag, t.s, 0, [], [], []⟩ more (more == 0 || !decide (t.s = []))).2.2.1.text else t.s) := fun tag more => by
    unfold stepT
    rw [if_neg (by simp [hp])]
  have hI : stepI false R 0 t.row t.n = (upd R t.row.toNat (R t.row.toNat ++ [t.n]), 0, t.n) := by
    unfold stepI
    rw [if_neg (by simp [hp]), if_neg (by simp)]
  obtain rfl | rfl | rfl | rfl | rfl | rfl | rfl : q = 0 ∨ q = 1 ∨ q = 2 ∨ q = 3 ∨ q = 4 ∨ q = 5 ∨ q = 6 := by omega
  · simp only [hI]
  · simp only [hT]
    rw [show ((0 : Int) == 0 || !decide (t.s = [])) = true from rfl, put_v (hw _ (List.mem_singleton.2 rfl)) hO (.inl rfl)]
    simp
  · simp only [hT]
    by_cases hs : t.s = []
    · have e : ((1 : Int) == 0 || !decide (t.s = [])) = false := by simp [hs]
      rw [e]
      unfold stepV
      simp [hs]
      rw [← hs]
    · have e : ((1 : Int) == 0 || !decide (t.s = [])) = true := by simp [hs]
      have hw' : ∀ v ∈ (if t.s = [] then [] else [(⟨1, t.s, 0, [], [], []⟩ : Pv)]), v ∈ O := hw
      rw [if_neg hs] at hw'
      rw [e, put_v (hw' _ (List.mem_singleton.2 rfl)) hO (.inr rfl)]
      simp [hs]
  · simp only [hT]
    rw [show ((0 : Int) == 0 || !decide (t.s = [])) = true from rfl, put_v (hw _ (List.mem_singleton.2 rfl)) hO (.inl rfl)]
    simp
  · simp only [hT]
    by_cases hs : t.s = []
    · have e : ((1 : Int) == 0 || !decide (t.s = [])) = false := by simp [hs]
      rw [e]
      unfold stepV
      simp [hs]
      rw [← hs]
    · have e : ((1 : Int) == 0 || !decide (t.s = [])) = true := by simp [hs]
      have hw' : ∀ v ∈ (if t.s = [] then [] else [(⟨7, t.s, 0, [], [], []⟩ : Pv)]), v ∈ O := hw
      rw [if_neg hs] at hw'
      rw [e, put_v (hw' _ (List.mem_singleton.2 rfl)) hO (.inr rfl)]
      simp [hs]
  · have hY : stepY false O R 0 t.row t.v.tag t.v = (upd R t.row.toNat (R t.row.toNat ++ [((Pv.rk O t.v : Nat) : Int)]), 0, t.v) := by
      unfold stepY
      rw [if_neg (by simp [hp])]
      simp only [Bool.false_eq_true, if_false]
      rw [put_v (hw _ (List.mem_singleton.2 rfl)) hO (.inl rfl)]
      simp
    simp only [hY]
  · have hC : stepC false R 0 t.row t.n 1000 = (upd R t.row.toNat (R t.row.toNat ++ [t.n]), 0, t.n) := by
      unfold stepC
      simp [hI]
    simp only [hC]
/-- What is read for a thing. -/
def Th.blank (t : Th) : Th := ⟨t.kind, t.row, 0, [], ⟨t.v.tag, [], 0, [], [], []⟩⟩
theorem read_step {zs : List Int} (h0 : 0 ≤ t.row) (h1 : t.row < 64) (hw : ∀ v ∈ t.wants, v ∈ O) (hO : O.length ≤ 1000000) (h6 : t.kind % 7 = 6 → 0 ≤ t.n ∧ t.n ≤ 1000) (hR : R t.row.toNat = t.num O :: zs) (hft : t.fits) :
    ∃ t' : Th, stepTh true O R 0 t.blank = (upd R t.row.toNat zs, 0, t') ∧ (t.kind % 7 = 0 ∨ t.kind % 7 = 6 → t'.n = t.n) ∧ (t.kind % 7 = 5 → t'.v = t.v) ∧ (¬ (t.kind % 7 = 0 ∨ t.kind % 7 = 6) → t.kind % 7 ≠ 5 → t'.s = t.s) := by
  have hp := pe_in h0 h1
  unfold stepTh
  unfold Th.num at hR
  unfold Th.wants at hw
  have h7 : t.kind % 7 < 7 := Nat.mod_lt _ (by decide)
  rw [show t.blank.kind = t.kind from rfl]
  generalize t.kind % 7 = q at h7 hw hR h6 ⊢
  have hT : ∀ (tag more : Int) (v : Pv), v ∈ O → v.tag = tag → (more = 0 ∨ more = 1) → R t.row.toNat = (((Pv.rk O v : Nat) : Int) + more) :: zs → stepT true O R 0 t.blank.row tag more t.blank.s = (upd R t.row.toNat zs, 0, v.text) := fun tag more v hv ht hm hR => by
    unfold stepT Th.blank
    rw [if_neg (by simp [hp])]
    have hg := get_v (v0 := ⟨tag, [], 0, [], [], []⟩) hv ht.symm hO hm hR (more == 0 || !decide (([] : List UInt8) = []))
    rw [hg]
    simp
  have hZ : ∀ (tag : Int), R t.row.toNat = 0 :: zs → stepT true O R 0 t.blank.row tag 1 t.blank.s = (upd R t.row.toNat zs, 0, []) := fun tag hR => by
    unfold stepT Th.blank
    rw [if_neg (by simp [hp])]
    unfold stepV
    simp [hR, Pv.zero]
  have hI : ∀ z, R t.row.toNat = z :: zs → stepI true R 0 t.blank.row t.blank.n = (upd R t.row.toNat zs, 0, z) := fun z hR => by
    unfold stepI Th.blank
    rw [if_neg (by simp [hp]), if_pos rfl]
    simp [hR]
  obtain rfl | rfl | rfl | rfl | rfl | rfl | rfl : q = 0 ∨ q = 1 ∨ q = 2 ∨ q = 3 ∨ q = 4 ∨ q = 5 ∨ q = 6 := by omega
  · refine ⟨{ t.blank with n := t.n }, by simp only [hI _ hR]; rfl, fun _ => rfl, fun h => by omega, fun h => absurd (.inl rfl) h⟩
  · have hv := hw _ (List.mem_singleton.2 rfl)
    refine ⟨{ t.blank with s := t.s }, by simp only [hT 1 0 _ hv rfl (.inl rfl) (by rw [Int.add_zero]; exact hR)]; rfl, fun h => by omega, fun h => by omega, fun _ _ => rfl⟩
  · by_cases hs : t.s = []
    · have hR' : R t.row.toNat = (if t.s = [] then 0 else ((Pv.rk O ⟨1, t.s, 0, [], [], []⟩ : Nat) : Int) + 1) :: zs := hR
      rw [if_pos hs] at hR'
      refine ⟨{ t.blank with s := [] }, by simp only [hZ 1 hR']; rfl, fun h => by omega, fun h => by omega, fun _ _ => hs.symm⟩
    · have hR' : R t.row.toNat = (if t.s = [] then 0 else ((Pv.rk O ⟨1, t.s, 0, [], [], []⟩ : Nat) : Int) + 1) :: zs := hR
      rw [if_neg hs] at hR'
      have hw' : ∀ v ∈ (if t.s = [] then [] else [(⟨1, t.s, 0, [], [], []⟩ : Pv)]), v ∈ O := hw
      rw [if_neg hs] at hw'
      have hv := hw' _ (List.mem_singleton.2 rfl)
      refine ⟨{ t.blank with s := t.s }, by simp only [hT 1 1 _ hv rfl (.inr rfl) hR']; rfl, fun h => by omega, fun h => by omega, fun _ _ => rfl⟩
  · have hv := hw _ (List.mem_singleton.2 rfl)
    refine ⟨{ t.blank with s := t.s }, by simp only [hT 7 0 _ hv rfl (.inl rfl) (by rw [Int.add_zero]; exact hR)]; rfl, fun h => by omega, fun h => by omega, fun _ _ => rfl⟩
  · by_cases hs : t.s = []
    · have hR' : R t.row.toNat = (if t.s = [] then 0 else ((Pv.rk O ⟨7, t.s, 0, [], [], []⟩ : Nat) : Int) + 1) :: zs := hR
      rw [if_pos hs] at hR'
      refine ⟨{ t.blank with s := [] }, by simp only [hZ 7 hR']; rfl, fun h => by omega, fun h => by omega, fun _ _ => hs.symm⟩
    · have hR' : R t.row.toNat = (if t.s = [] then 0 else ((Pv.rk O ⟨7, t.s, 0, [], [], []⟩ : Nat) : Int) + 1) :: zs := hR
      rw [if_neg hs] at hR'
      have hw' : ∀ v ∈ (if t.s = [] then [] else [(⟨7, t.s, 0, [], [], []⟩ : Pv)]), v ∈ O := hw
      rw [if_neg hs] at hw'
      have hv := hw' _ (List.mem_singleton.2 rfl)
      refine ⟨{ t.blank with s := t.s }, by simp only [hT 7 1 _ hv rfl (.inr rfl) hR']; rfl, fun h => by omega, fun h => by omega, fun _ _ => rfl⟩
  · have hv := hw _ (List.mem_singleton.2 rfl)
    have hY : stepY true O R 0 t.blank.row t.blank.v.tag t.blank.v = (upd R t.row.toNat zs, 0, t.v) := by
      unfold stepY Th.blank
      rw [if_neg (by simp [hp])]
      simp only [if_true]
      have hg := get_v (v0 := ⟨t.v.tag, [], 0, [], [], []⟩) hv rfl hO (.inl rfl) (by rw [Int.add_zero]; exact hR) true
      rw [hg]
      simp
    refine ⟨{ t.blank with v := t.v }, by simp only [hY]; rfl, fun h => by omega, fun _ => rfl, fun _ h => absurd rfl h⟩
  · have hC : stepC true R 0 t.blank.row t.blank.n 1000 = (upd R t.row.toNat zs, 0, t.n) := by
      unfold stepC
      rw [hI _ hR]
      have := h6 rfl
      simp
      omega
    refine ⟨{ t.blank with n := t.n }, by simp only [hC]; rfl, fun _ => rfl, fun h => by omega, fun h => absurd (.inr rfl) h⟩
end
end Go.Proofs.Ytdmiljaiglaacaa
